/-
  The wave's plain facts: numbers of bytes, samples of bytes.
-/
import Derived.Test.YtmggnadhjgadnaaWaveWalk
namespace Go.Proofs.Ytmggnadhjgadnaa

def toldL : List UInt8 → Nat
  | [] => 0
  | b :: l => b.toNat + 256 * toldL l
theorem toldL_lt : ∀ l : List UInt8, toldL l < 256 ^ l.length
  | [] => by simp [toldL]
  | b :: l => by
    have h := toldL_lt l
    have hb := UInt8.toNat_lt b
    rw [toldL, List.length_cons, Nat.pow_succ]
    omega
theorem rowOf_succ {α : Type} (n : Nat) (f : Nat → α) : rowOf (n + 1) f = f 0 :: rowOf n fun i => f (i + 1) := by
  simp [rowOf, List.range_succ_eq_map, List.map_map, Function.comp_def]
theorem leB_zero (n : Int) : ((leB n 0).toNat : Int) = n % 256 := by rw [leB_val]; simp
theorem leB_succ (n : Int) (i : Nat) : leB n (i + 1) = leB (n / 256) i := by
  unfold leB
  congr 2
  rw [Nat.mul_add, Nat.mul_one, Nat.add_comm, Int.pow_add, ← Int.ediv_ediv_of_nonneg (by decide)]
  rfl
theorem le_succ (n : Int) (s : Nat) : le n (s + 1) = leB n 0 :: le (n / 256) s := by
  unfold le
  rw [rowOf_succ]
  simp only [leB_succ]
theorem le_zero (n : Int) : le n 0 = [] := rfl
theorem byte_eq {a b : UInt8} (h : (a.toNat : Int) = b.toNat) : a = b := UInt8.toNat_inj.1 (by omega)
theorem le_told : ∀ l : List UInt8, le (toldL l : Nat) l.length = l
  | [] => rfl
  | b :: l => by
    have hb := UInt8.toNat_lt b
    rw [List.length_cons, le_succ, toldL]
    have e1 : leB ((b.toNat + 256 * toldL l : Nat) : Int) 0 = b := byte_eq (by rw [leB_zero]; omega)
    have e2 : ((b.toNat + 256 * toldL l : Nat) : Int) / 256 = (toldL l : Nat) := by omega
    rw [e1, e2, le_told l]
theorem told_le : ∀ (s : Nat) (n : Nat), n < 256 ^ s → toldL (le n s) = n
  | 0, n, h => by simp at h; subst h; rfl
  | s + 1, n, h => by
    rw [le_succ, toldL]
    have e2 : ((n : Int) / 256) = ((n / 256 : Nat) : Int) := by omega
    have e1 := leB_zero n
    rw [e2, told_le s (n / 256) (by rw [Nat.pow_succ] at h; omega)]
    omega
theorem le2_wrap (n : Int) : le (n + 65536) 2 = le n 2 := by
  rw [le_succ, le_succ, le_succ, le_succ, le_zero, le_zero]
  have e1 : leB (n + 65536) 0 = leB n 0 := byte_eq (by rw [leB_zero, leB_zero]; omega)
  have e2 : leB ((n + 65536) / 256) 0 = leB (n / 256) 0 := byte_eq (by rw [leB_zero, leB_zero]; omega)
  rw [e1, e2]
def sg (t : Nat) : Int := if 32767 < t then (t : Int) - 65536 else t
theorem sg_le (x : Int) (h0 : -32768 ≤ x) (h1 : x ≤ 32767) : sg (toldL (le x 2)) = x := by
  by_cases h : x < 0
  · rw [← le2_wrap, ← Int.toNat_of_nonneg (a := x + 65536) (by omega), told_le 2 _ (by omega)]
    unfold sg; split <;> omega
  · rw [← Int.toNat_of_nonneg (a := x) (by omega), told_le 2 _ (by omega)]
    unfold sg; split <;> omega
theorem le_sg (l : List UInt8) (h : l.length = 2) : le (sg (toldL l)) 2 = l := by
  have h1 := le_told l
  rw [h] at h1
  unfold sg
  split
  · rw [← le2_wrap, Int.sub_add_cancel, h1]
  · exact h1
def chunks : List UInt8 → List Pr
  | a :: b :: c :: d :: t => ⟨sg (toldL [a, b]), sg (toldL [c, d])⟩ :: chunks t
  | _ => []
theorem chunks_drop (l : List UInt8) (h : 4 ≤ l.length) : chunks l = ⟨sg (toldL (l.take 2)), sg (toldL ((l.take 4).drop 2))⟩ :: chunks (l.drop 4) := by
  match l, h with
  | a :: b :: c :: d :: t, _ => simp [chunks]
theorem chunks_short (l : List UInt8) (h : l.length < 4) : chunks l = [] := by
  match l, h with
  | [], _ => rfl
  | [_], _ => rfl
  | [_, _], _ => rfl
  | [_, _, _], _ => rfl
theorem chunks_length : ∀ (n : Nat) (l : List UInt8), l.length ≤ n → (chunks l).length = l.length / 4
  | 0, l, h => by have : l = [] := List.eq_nil_of_length_eq_zero (by omega); subst this; rfl
  | n + 1, l, h => by
    by_cases h4 : 4 ≤ l.length
    · rw [chunks_drop l h4, List.length_cons, chunks_length n _ (by rw [List.length_drop]; omega), List.length_drop]; omega
    · rw [chunks_short l (by omega)]; simp; omega
theorem chunks_samp : ∀ (n : Nat) (l : List UInt8), l.length ≤ n → (chunks l).all sampB = true
  | 0, l, h => by have : l = [] := List.eq_nil_of_length_eq_zero (by omega); subst this; rfl
  | n + 1, l, h => by
    by_cases h4 : 4 ≤ l.length
    · rw [chunks_drop l h4, List.all_cons, chunks_samp n _ (by rw [List.length_drop]; omega), Bool.and_true]
      have a1 := toldL_lt (l.take 2)
      have a2 := toldL_lt ((l.take 4).drop 2)
      rw [List.length_take] at a1
      rw [List.length_drop, List.length_take] at a2
      rw [Nat.min_eq_left (by omega)] at a1 a2
      refine decide_eq_true ?_
      have key : ∀ t : Nat, t < 65536 → -32768 ≤ sg t ∧ sg t ≤ 32767 := fun t ht => by unfold sg; split <;> omega
      exact ⟨(key _ a1).1, (key _ a1).2, (key _ a2).1, (key _ a2).2⟩
    · rw [chunks_short l (by omega)]; rfl
theorem body_chunks : ∀ (n : Nat) (l : List UInt8), l.length ≤ n → l.length % 4 = 0 → bodyL (chunks l) = l
  | 0, l, h, _ => by have : l = [] := List.eq_nil_of_length_eq_zero (by omega); subst this; rfl
  | n + 1, l, h, hm => by
    by_cases h4 : 4 ≤ l.length
    · have ih := body_chunks n (l.drop 4) (by rw [List.length_drop]; omega) (by rw [List.length_drop]; omega)
      rw [chunks_drop l h4, bodyL, List.flatMap_cons]
      rw [bodyL] at ih
      rw [ih, le_sg _ (by rw [List.length_take]; omega), le_sg _ (by rw [List.length_drop, List.length_take]; omega)]
      have e : l.take 2 = (l.take 4).take 2 := by rw [List.take_take]; rfl
      rw [e, List.take_append_drop, List.take_append_drop]
    · have : l = [] := List.eq_nil_of_length_eq_zero (by omega); subst this; rfl
theorem chunks_body : ∀ L : List Pr, L.all sampB = true → chunks (bodyL L) = L
  | [], _ => rfl
  | p :: L, h => by
    rw [List.all_cons, Bool.and_eq_true] at h
    have hp : -32768 ≤ p.x ∧ p.x ≤ 32767 ∧ -32768 ≤ p.y ∧ p.y ≤ 32767 := by simpa [sampB] using h.1
    have ih := chunks_body L h.2
    rw [bodyL, List.flatMap_cons]
    rw [bodyL] at ih
    have e1 : ((le p.x 2 ++ le p.y 2) ++ L.flatMap fun p => le p.x 2 ++ le p.y 2).take 2 = le p.x 2 := by
      rw [List.append_assoc, List.take_append_of_le_length (by simp [le_length]), List.take_of_length_le (by simp [le_length])]
    have e2 : (((le p.x 2 ++ le p.y 2) ++ L.flatMap fun p => le p.x 2 ++ le p.y 2).take 4).drop 2 = le p.y 2 := by
      rw [List.take_append_of_le_length (by simp [le_length]), List.take_of_length_le (by simp [le_length]), List.drop_append_of_le_length (by simp [le_length]), List.drop_of_length_le (by simp [le_length]), List.nil_append]
    have e3 : ((le p.x 2 ++ le p.y 2) ++ L.flatMap fun p => le p.x 2 ++ le p.y 2).drop 4 = L.flatMap fun p => le p.x 2 ++ le p.y 2 := by
      rw [List.drop_append_of_le_length (by simp [le_length]), List.drop_of_length_le (by simp [le_length]), List.nil_append]
    rw [chunks_drop _ (by simp only [List.length_append, le_length]; omega), e1, e2, e3, ih, sg_le _ hp.1 hp.2.1, sg_le _ hp.2.2.1 hp.2.2.2]

/-- What a file's head says. -/
def rateOf (s : List UInt8) : Nat := toldL ((s.take 28).drop 24)
theorem rateOf_lt (s : List UInt8) : rateOf s < 4294967296 := by
  have := toldL_lt ((s.take 28).drop 24)
  unfold rateOf
  refine Nat.lt_of_lt_of_le this ?_
  have hl : ((s.take 28).drop 24).length ≤ 4 := by rw [List.length_drop, List.length_take]; omega
  exact Nat.pow_le_pow_right (n := 256) (by decide) hl
def cntOf (s : List UInt8) : Nat := (s.length - 44) / 4
def formB (s : List UInt8) : Bool := rateB (rateOf s) && (decide ((s.length - 44) % 4 = 0) && (decide (cntOf s ≤ 200000) && decide (s.take 44 = headL (cntOf s) (rateOf s))))
theorem form_ref (s : List UInt8) (h : 44 ≤ s.length) (hc : cntOf s ≤ 200000) : formB s = (rateB (rateOf s) && decide (fileL (chunks (s.drop 44)) (rateOf s) = s)) := by
  have hl : (chunks (s.drop 44)).length = cntOf s := by rw [chunks_length _ _ (Nat.le_refl _), List.length_drop]; rfl
  unfold formB
  congr 1
  rw [decide_eq_true hc, Bool.true_and, ← Bool.decide_and, decide_eq_decide]
  unfold fileL
  rw [hl]
  constructor
  · rintro ⟨hm, hh⟩
    rw [body_chunks _ _ (Nat.le_refl _) (by rw [List.length_drop]; exact hm), ← hh, List.take_append_drop]
  · intro he
    have h1 := congrArg List.length he
    rw [List.length_append, headL_length, bodyL_length, hl] at h1
    refine ⟨by unfold cntOf at h1; omega, ?_⟩
    have h2 := congrArg (List.take 44) he
    rw [List.take_append_of_le_length (by rw [headL_length]; exact Nat.le_refl _), List.take_of_length_le (by rw [headL_length]; exact Nat.le_refl _)] at h2
    exact h2.symm
theorem rateOf_file (L : List Pr) (r : Int) (h0 : 1 ≤ r) (h1 : r ≤ 192000) : (rateOf (fileL L r) : Int) = r := by
  have e : ((fileL L r).take 28).drop 24 = le r 4 := by
    unfold fileL headL
    simp only [List.append_assoc]
    rw [List.drop_take]
    simp [List.drop_append, le_length, List.drop_of_length_le]
  unfold rateOf
  rw [e, ← Int.toNat_of_nonneg (a := r) (by omega), told_le 4 _ (by omega)]
theorem form_file (L : List Pr) (r : Int) (hn : L.length ≤ 200000) (hf : fitB L r = true) : formB (fileL L r) = true ∧ chunks ((fileL L r).drop 44) = L ∧ (rateOf (fileL L r) : Int) = r := by
  rw [fitB, Bool.and_eq_true] at hf
  have hr : 1 ≤ r ∧ r ≤ 192000 := by simpa [rateB] using hf.1
  have e1 := rateOf_file L r hr.1 hr.2
  have e2 : (fileL L r).drop 44 = bodyL L := by
    unfold fileL
    rw [List.drop_append_of_le_length (by rw [headL_length]; exact Nat.le_refl _), List.drop_of_length_le (by rw [headL_length]; exact Nat.le_refl _), List.nil_append]
  have e3 : (fileL L r).length = 44 + L.length * 4 := by unfold fileL; rw [List.length_append, headL_length, bodyL_length]
  have e4 : cntOf (fileL L r) = L.length := by unfold cntOf; omega
  refine ⟨?_, by rw [e2]; exact chunks_body L hf.2, e1⟩
  rw [form_ref _ (by omega) (by omega), e1, e2, chunks_body L hf.2, hf.1]
  simp
end Go.Proofs.Ytmggnadhjgadnaa
