/-
  The script, plainly: pieces, numbers, words, lines, what a text says.
-/
import Derived.Test.YtlonefjbcooaaaaDoorOwn
import Derived.Lib.SplitLaws
import Derived.Lib.AtoiTie
import Derived.Lib.AtoiAllCases
import Derived.Lib.ItoaMem
import Derived.Lib.ItoaLen
namespace Go.Proofs.YtlonefjbcooaaaaDoor
open Go.RowKit Go.Sort

def cutL (x : UInt8) : List UInt8 → List (List UInt8)
  | [] => [[]]
  | b :: r => if b = x then [] :: cutL x r else (b :: (cutL x r).headD []) :: (cutL x r).tail
theorem cutL_ne (x : UInt8) (s : List UInt8) : cutL x s ≠ [] := by
  cases s with
  | nil => simp [cutL]
  | cons b r => unfold cutL; split <;> simp
theorem cutL_of (x : UInt8) (r : List UInt8) : ∀ a : List UInt8, x ∉ a → cutL x (a ++ x :: r) = a :: cutL x r
  | [], _ => by simp [cutL]
  | b :: a, h => by
    have hb : b ≠ x := fun e => h (by simp [e])
    have ih := cutL_of x r a (fun e => h (by simp [e]))
    rw [List.cons_append, cutL, if_neg hb, ih]
    rfl
theorem cutL_none (x : UInt8) : ∀ a : List UInt8, x ∉ a → cutL x a = [a]
  | [], _ => rfl
  | b :: a, h => by
    have hb : b ≠ x := fun e => h (by simp [e])
    have ih := cutL_none x a (fun e => h (by simp [e]))
    rw [cutL, if_neg hb, ih]
    rfl
open Lib in
theorem splitK_cutL (x : UInt8) : ∀ s : List UInt8, splitK [x] 0 (count s [x]) s = cutL x s
  | [] => by rw [count_miss (by simp [index])]; rfl
  | b :: l => by
    have ih := splitK_cutL x l
    by_cases h : b = x
    · subst h
      have hix : index (b :: l) [b] = 0 := by rw [index]; simp [List.isPrefixOf]
      rw [count_cons_eq, Nat.add_comm 1, splitK, hix, cutL, if_pos rfl, ← ih]
      simp
    · have hp : ([x] : List UInt8).isPrefixOf (b :: l) = false := by simp [List.isPrefixOf, Ne.symm h]
      have hix : index (b :: l) [x] = if index l [x] == -1 then -1 else index l [x] + 1 := by rw [index, hp]; simp
      rw [count_cons_ne b x l h, cutL, if_neg h, ← ih]
      by_cases hm : index l [x] = -1
      · rw [count_miss hm]; rfl
      · have hge := index_ge l [x]
        obtain ⟨j, hj⟩ : ∃ j : Nat, index l [x] = j := ⟨(index l [x]).toNat, by omega⟩
        have hix' : index (b :: l) [x] = ((j + 1 : Nat) : Int) := by rw [hix, if_neg (fun e => hm (beq_iff_eq.1 e)), hj]; omega
        have hn : ¬ (((j + 1 : Nat) : Int) == -1) = true := by simp <;> omega
        have hn' : ¬ (((j : Nat) : Int) == -1) = true := by simp <;> omega
        rw [count_hit (by simp) hj, Nat.add_comm 1, splitK, splitK, hix', hj, if_neg hn, if_neg hn']
        simp
theorem splitB_cutL (x : UInt8) (s : ByteArray) : (Lib.splitB ⟨#[x]⟩ 0 (Lib.countB s ⟨#[x]⟩) s).map (·.data.toList) = cutL x s.data.toList := by
  rw [Lib.splitB_data]; exact splitK_cutL x _
theorem countB_cutL (x : UInt8) (s : ByteArray) : Lib.countB s ⟨#[x]⟩ + 1 = (cutL x s.data.toList).length := by
  have : ∀ l : List UInt8, l.count x + 1 = (cutL x l).length := by
    intro l
    induction l with
    | nil => rfl
    | cons b r ih =>
      rw [List.count_cons, cutL]
      by_cases h : b = x
      · simp [h, ← ih]
      · rw [if_neg h]
        have := List.length_pos_iff.2 (cutL_ne x r)
        simp [h, List.length_tail]; omega
  show Lib.count s.data.toList [x] + 1 = _
  rw [Lib.count_one, this]
/-- A piece's value is no more than the whole. -/
theorem cutL_len (x : UInt8) : ∀ (s p : List UInt8), p ∈ cutL x s → p.length ≤ s.length
  | [], p, h => by simp [cutL] at h; simp [h]
  | b :: r, p, h => by
    rw [cutL] at h
    split at h
    · simp only [List.mem_cons] at h
      rcases h with rfl | h
      · simp
      · have := cutL_len x r p h; simp; omega
    · simp only [List.mem_cons] at h
      rcases h with rfl | h
      · cases hc : cutL x r with
        | nil => exact absurd hc (cutL_ne x r)
        | cons q t => have := cutL_len x r q (by simp [hc]); simp; omega
      · have := cutL_len x r p (List.mem_of_mem_tail h); simp; omega
theorem cutL_length_le (x : UInt8) : ∀ s : List UInt8, (cutL x s).length ≤ s.length + 1
  | [] => by simp [cutL]
  | b :: r => by
    have := cutL_length_le x r
    rw [cutL]
    split
    · simp; omega
    · have := List.length_pos_iff.2 (cutL_ne x r); simp [List.length_tail]; omega

open Lib in
theorem decFrom_snoc (b : UInt8) : ∀ (l : List UInt8) (acc : Nat), decFrom acc (l ++ [b]) = (decFrom acc l).bind fun m => (digitVal b).map fun d => m * 10 + d
  | [], acc => by simp only [List.nil_append, decFrom]; cases digitVal b <;> rfl
  | a :: t, acc => by
    simp only [List.cons_append, decFrom]
    cases digitVal a with
    | none => rfl
    | some d => exact decFrom_snoc b t _
open Lib in
theorem digitVal_of (d : Nat) (h : d < 10) : digitVal (UInt8.ofNat (48 + d)) = some d := by
  have : (UInt8.ofNat (48 + d)).toNat = 48 + d := by rw [UInt8.toNat_ofNat', Nat.mod_eq_of_lt (by omega)]
  unfold digitVal
  rw [this, if_pos (by omega)]; simp
/-- A word's number: nine digits at most, none too many. -/
def numO (w : List UInt8) : Option Nat := if w.length = 0 ∨ 9 < w.length ∨ (1 < w.length ∧ w.head? = some 48) then none else Lib.decFrom 0 w
open Lib in
theorem dec_from : ∀ n : Nat, decFrom 0 (decDigits n) = some n := by
  intro n
  induction n using Nat.strongRecOn with
  | _ n ih =>
    rw [decDigits]
    split
    · rename_i h
      simp only [decFrom, digitVal_of n h]; simp
    · rename_i h
      rw [decFrom_snoc, ih (n / 10) (by omega), digitVal_of _ (by omega)]
      simp; omega
open Lib in
theorem dec_head : ∀ n : Nat, 1 ≤ n → (decDigits n).head? ≠ some 48 := by
  intro n
  induction n using Nat.strongRecOn with
  | _ n ih =>
    intro h1
    rw [decDigits]
    split
    · rename_i h
      intro e
      simp only [List.head?_cons, Option.some.injEq] at e
      have := congrArg UInt8.toNat e
      rw [UInt8.toNat_ofNat', Nat.mod_eq_of_lt (by omega)] at this
      simp at this; omega
    · rename_i h
      have := ih (n / 10) (by omega) (by omega)
      cases hd : decDigits (n / 10) with
      | nil => exfalso; have h1 := decDigits_length (n / 10); rw [hd] at h1; have := nDigits_pos (n / 10); simp at h1; omega
      | cons c t => rw [hd] at this; simpa using this
open Lib in
theorem numO_of (n : Nat) (h : n ≤ 999999999) : numO (decDigits n) = some n := by
  have hl := decDigits_length n
  have hp := nDigits_pos n
  have h9 : nDigits n ≤ 9 := by
    by_cases h0 : nDigits n ≤ 9
    · exact h0
    exfalso
    have hb : ∀ k u, 10 ^ k ≤ u ∨ nDigits u ≤ k + 0 ∨ k = 0 := by
      intro k
      induction k with
      | zero => intro u; exact .inr (.inr rfl)
      | succ k ih =>
        intro u
        by_cases hu : u < 10
        · right; left; rw [nDigits_small hu]; omega
        · rcases ih (u / 10) with e | e | e
          · left; rw [Nat.pow_succ]; omega
          · right; left; rw [nDigits_big hu]; omega
          · subst e; left; omega
    rcases hb 9 n with e | e | e
    · have : (10 : Nat) ^ 9 = 1000000000 := by decide
      omega
    · omega
    · omega
  unfold numO
  rw [if_neg, dec_from]
  rintro (e | e | ⟨e1, e2⟩)
  · omega
  · omega
  · refine dec_head n ?_ e2
    by_cases h0 : n < 10
    · rw [decDigits_one h0] at e1; simp at e1
    · omega
open Lib in
theorem from_dec : ∀ (k : Nat) (l : List UInt8) (n : Nat), l.length = k → l ≠ [] → (1 < l.length → l.head? ≠ some 48) → decFrom 0 l = some n → decDigits n = l ∧ n < 10 ^ l.length ∧ (l.head? ≠ some 48 → 1 ≤ n) := by
  intro k
  induction k with
  | zero => intro l n h hn; simp at h; exact absurd h hn
  | succ k ih =>
    intro l n hl hn hh hd
    obtain ⟨l', b, rfl⟩ : ∃ l' b, l = l' ++ [b] := ⟨l.dropLast, l.getLast hn, (List.dropLast_concat_getLast hn).symm⟩
    rw [decFrom_snoc] at hd
    cases hm : decFrom 0 l' with
    | none => simp [hm] at hd
    | some m =>
      cases hv : digitVal b with
      | none => simp [hm, hv] at hd
      | some d =>
        simp only [hm, hv, Option.bind_some, Option.map_some, Option.some.injEq] at hd
        have hb := digitVal_eq hv
        have hbe : UInt8.ofNat (48 + d) = b := UInt8.toNat_inj.1 (by rw [UInt8.toNat_ofNat', Nat.mod_eq_of_lt (by omega)]; omega)
        cases l' with
        | nil =>
          simp only [decFrom, Option.some.injEq] at hm
          subst hm
          have hn' : n = d := by omega
          subst hn'
          refine ⟨by rw [decDigits_one (by omega), hbe]; rfl, by simp; omega, fun h => ?_⟩
          rcases Nat.eq_zero_or_pos n with e | e
          · exfalso; apply h; simp; apply UInt8.toNat_inj.1; simp; omega
          · exact e
        | cons c t =>
          have hc : (c :: t).head? ≠ some 48 := by simpa using hh (by simp)
          obtain ⟨e1, e2, e3⟩ := ih (c :: t) m (by simpa using hl) (by simp) (fun _ => hc) hm
          have hm1 := e3 hc
          have hq : n / 10 = m := by omega
          have hr : n % 10 = d := by omega
          refine ⟨by rw [decDigits, dif_neg (by omega), hq, hr, e1, hbe], ?_, fun _ => by omega⟩
          rw [List.length_append, List.length_singleton, Nat.pow_succ]; omega
open Lib in
theorem numO_some {w : List UInt8} {n : Nat} (h : numO w = some n) : atoiAll w = .ok n ∧ n ≤ 999999999 ∧ decDigits n = w ∧ 1 ≤ w.length ∧ w.length ≤ 9 := by
  unfold numO at h
  split at h
  · simp at h
  · rename_i hc
    have h0 : w ≠ [] := fun e => hc (.inl (by simp [e]))
    have hl : 1 ≤ w.length := List.length_pos_iff.2 h0
    have h9 : w.length ≤ 9 := by omega
    obtain ⟨e1, e2, _⟩ := from_dec _ w n rfl h0 (fun h1 e => hc (.inr (.inr ⟨h1, e⟩))) h
    have hp : (10 : Nat) ^ w.length ≤ 10 ^ 9 := Nat.pow_le_pow_right (by decide) h9
    have hp9 : (10 : Nat) ^ 9 = 1000000000 := by decide
    refine ⟨?_, by omega, e1, hl, h9⟩
    rw [atoiAll_short w (by omega)]
    cases w with
    | nil => exact absurd rfl h0
    | cons c t =>
      obtain ⟨d, hd⟩ := digit_of_decFrom _ _ _ h 0 c rfl
      have := digitVal_eq hd
      have h45 : (c == 45) = false := by simp; intro e; subst e; simp at this
      have h43 : (c == 43) = false := by simp; intro e; subst e; simp at this
      simp only [atoi, h45, h43, decNat, List.isEmpty_cons, Bool.false_eq_true, if_false, h]
      rfl
open Lib in
/-- What script.number answers. -/
def numP (w : List UInt8) : Int × Bool := match atoiAll w with
  | .ok v => (v, decide (0 ≤ v) && (decide (v ≤ 999999999) && decide (decDigits v.toNat = w)))
  | .syntax => (0, false)
  | .range => (atoiSat w, false)
open Lib in
theorem numP_ok (w : List UInt8) : (numP w).2 = (numO w).isSome ∧ ∀ n, numO w = some n → (numP w).1 = (n : Int) := by
  cases hn : numO w with
  | some n =>
    obtain ⟨e1, e2, e3, _⟩ := numO_some hn
    unfold numP
    rw [e1]
    simp [e3]
    omega
  | none =>
    refine ⟨?_, fun n h => by simp at h⟩
    unfold numP
    cases ha : atoiAll w
    case range => rfl
    case ok v =>
      show (decide (0 ≤ v) && (decide (v ≤ 999999999) && decide (decDigits v.toNat = w))) = false
      by_cases h1 : 0 ≤ v
      · by_cases h2 : v ≤ 999999999
        · by_cases h3 : decDigits v.toNat = w
          · have := numO_of v.toNat (by omega)
            rw [h3, hn] at this; simp at this
          · simp [h3]
        · simp [h2]
      · simp [h1]
    rfl

def numsO : List (List UInt8) → Option (List Nat)
  | [] => some []
  | w :: r => match numO w with
    | none => none
    | some n => (numsO r).map (n :: ·)
theorem numsO_len : ∀ {ws : List (List UInt8)} {ns : List Nat}, numsO ws = some ns → ns.length = ws.length
  | [], ns, h => by simp [numsO] at h; simp [← h]
  | w :: r, ns, h => by
    simp only [numsO] at h
    cases hn : numO w with
    | none => simp [hn] at h
    | some n =>
      simp only [hn] at h
      cases hr : numsO r with
      | none => simp [hr] at h
      | some ms =>
        simp only [hr, Option.map_some, Option.some.injEq] at h
        rw [← h, List.length_cons, List.length_cons, numsO_len hr]
theorem numsO_le : ∀ {ws : List (List UInt8)} {ns : List Nat}, numsO ws = some ns → ∀ n ∈ ns, n ≤ 999999999
  | [], ns, h, n, hn => by simp [numsO] at h; rw [h] at hn; simp at hn
  | w :: r, ns, h, m, hm => by
    simp only [numsO] at h
    cases hn : numO w with
    | none => simp [hn] at h
    | some n =>
      simp only [hn] at h
      cases hr : numsO r with
      | none => simp [hr] at h
      | some ms =>
        simp only [hr, Option.map_some, Option.some.injEq] at h
        rw [← h] at hm
        rcases List.mem_cons.1 hm with rfl | e
        · exact (numO_some hn).2.1
        · exact numsO_le hr m e
theorem numsO_take : ∀ (ws : List (List UInt8)) (k : Nat) (ns : List Nat) (hk : k < ws.length), numsO (ws.take k) = some ns →
    (numO ws[k] = none → numsO ws = none) ∧ ∀ n, numO ws[k] = some n → numsO (ws.take (k + 1)) = some (ns ++ [n])
  | [], k, ns, hk, _ => by simp at hk
  | w :: r, 0, ns, hk, h => by
    simp [numsO] at h
    subst h
    exact ⟨fun e => by simp only [List.getElem_cons_zero] at e; simp [numsO, e], fun n e => by simp only [List.getElem_cons_zero] at e; simp [numsO, e]⟩
  | w :: r, k + 1, ns, hk, h => by
    simp only [List.take_succ_cons, numsO] at h
    cases hn : numO w with
    | none => simp [hn] at h
    | some n =>
      simp only [hn] at h
      cases hr : numsO (r.take k) with
      | none => simp [hr] at h
      | some ms =>
        simp only [hr, Option.map_some, Option.some.injEq] at h
        have ih := numsO_take r k ms (by simpa using hk) hr
        refine ⟨fun e => ?_, fun m e => ?_⟩
        · simp only [numsO, hn]; rw [ih.1 (by simpa using e)]; rfl
        · simp only [List.take_succ_cons, numsO, hn]; rw [ih.2 m (by simpa using e)]; simp [← h]
end Go.Proofs.YtlonefjbcooaaaaDoor
