/-
  What is printed, plainly: lines of words and numbers, and that they are read back as they were.
-/
import Derived.Test.YtlonefjbcooaaaaDoorScQd
import Derived.Lib.Join
namespace Go.Proofs.YtlonefjbcooaaaaDoor
open Go.RowKit
set_option maxRecDepth 100000
def smallB (n : Int) : Bool := decide (0 ≤ n) && decide (n ≤ 999999999)
def lineL (name : List UInt8) (ns : List Int) : List UInt8 := Lib.join (name :: ns.map Lib.itoa) [32]
theorem dig_range : ∀ (u : Nat) (b : UInt8), b ∈ Lib.decDigits u → 48 ≤ b.toNat ∧ b.toNat ≤ 57 := by
  intro u
  induction u using Nat.strongRecOn with
  | _ u ih =>
    intro b hb
    rw [Lib.decDigits] at hb
    split at hb
    · rename_i h
      rw [List.mem_singleton.1 hb, UInt8.toNat_ofNat', Nat.mod_eq_of_lt (by omega)]
      omega
    · rename_i h
      rcases List.mem_append.1 hb with hb | hb
      · exact ih (u / 10) (by omega) b hb
      · rw [List.mem_singleton.1 hb, UInt8.toNat_ofNat', Nat.mod_eq_of_lt (by omega)]
        omega
theorem itoa_range (n : Int) (b : UInt8) (h : b ∈ Lib.itoa n) : b.toNat = 45 ∨ (48 ≤ b.toNat ∧ b.toNat ≤ 57) := by
  unfold Lib.itoa at h
  split at h
  · rcases List.mem_cons.1 h with rfl | h
    · exact .inl rfl
    · exact .inr (dig_range _ _ h)
  · exact .inr (dig_range _ _ h)
theorem itoa_ne (n : Int) : Lib.itoa n ≠ [] := by
  unfold Lib.itoa
  split
  · simp
  · intro e
    have := Lib.decDigits_length n.toNat
    have h2 := Lib.nDigits_pos n.toNat
    rw [e] at this
    simp at this
    omega
theorem numO_itoa (n : Int) : numO (Lib.itoa n) = if smallB n then some n.toNat else none := by
  by_cases hs : smallB n = true
  · rw [if_pos hs]
    simp only [smallB, Bool.and_eq_true, decide_eq_true_eq] at hs
    obtain ⟨u, rfl⟩ := Int.eq_ofNat_of_zero_le hs.1
    rw [Lib.itoa_nonneg]
    exact numO_of u (by omega)
  · rw [if_neg hs]
    cases hn : numO (Lib.itoa n) with
    | none => rfl
    | some m =>
      exfalso
      obtain ⟨-, h9, hd, -⟩ := numO_some hn
      apply hs
      by_cases h0 : 0 ≤ n
      · obtain ⟨u, rfl⟩ := Int.eq_ofNat_of_zero_le h0
        rw [Lib.itoa_nonneg] at hd
        have h1 := dec_from m
        rw [hd, dec_from u] at h1
        simp only [Option.some.injEq] at h1
        subst h1
        simp [smallB]; omega
      · unfold Lib.itoa at hd
        rw [if_pos (by omega)] at hd
        have := dig_range m 45 (by rw [hd]; simp)
        simp at this
theorem numsO_itoa : ∀ ns : List Int, numsO (ns.map Lib.itoa) = if ns.all smallB then some (ns.map Int.toNat) else none
  | [] => rfl
  | n :: r => by
    simp only [List.map_cons, numsO, numO_itoa, List.all_cons]
    by_cases hs : smallB n = true
    · rw [if_pos hs, numsO_itoa r, hs, Bool.true_and]
      split <;> simp_all
    · rw [if_neg hs]
      have : smallB n = false := by simpa using hs
      rw [this, Bool.false_and]
      rfl
theorem cutL_join (x : UInt8) : ∀ (l : List (List UInt8)), l ≠ [] → (∀ w ∈ l, x ∉ w) → cutL x (Lib.join l [x]) = l
  | [], h, _ => absurd rfl h
  | [a], _, h => by rw [Lib.join_one]; exact cutL_none x a (h a (by simp))
  | a :: b :: r, _, h => by
    have : Lib.join (a :: b :: r) [x] = a ++ x :: Lib.join (b :: r) [x] := by
      rw [Lib.join_cons, Lib.join_cons]; simp [Lib.joinTail]
    rw [this, cutL_of x _ a (h a (by simp)), cutL_join x (b :: r) (by simp) (fun w hw => h w (List.mem_cons_of_mem _ hw))]
theorem itoa_no (n : Int) (x : UInt8) (hx : x.toNat < 45) : x ∉ Lib.itoa n := fun h => by
  rcases itoa_range n x h with e | e <;> omega
theorem cut_line (name : List UInt8) (ns : List Int) (h : 32 ∉ name) : cutL 32 (lineL name ns) = name :: ns.map Lib.itoa := by
  refine cutL_join 32 _ (by simp) ?_
  intro w hw
  rcases List.mem_cons.1 hw with rfl | hw
  · exact h
  · obtain ⟨n, -, rfl⟩ := List.mem_map.1 hw
    exact itoa_no n 32 (by decide)
theorem lineO_line (name : List UInt8) (ns : List Int) (word : List UInt8) (c : Nat) : lineO (name :: ns.map Lib.itoa) word c = if name = word ∧ ns.length = c ∧ ns.all smallB = true then some (ns.map Int.toNat) else none := by
  unfold lineO
  simp only [List.length_map, numsO_itoa]
  by_cases h : name = word ∧ ns.length = c
  · rw [if_pos h]
    by_cases hs : ns.all smallB = true
    · rw [if_pos hs, if_pos ⟨h.1, h.2, hs⟩]
    · rw [if_neg hs, if_neg (fun e => hs e.2.2)]
  · rw [if_neg h, if_neg (fun e => h ⟨e.1, e.2.1⟩)]
def IL64 (n : Int) : Prop := -9223372036854775808 ≤ n ∧ n ≤ 9223372036854775807
/-- A setup: its eight numbers. -/
structure Su where
  seed : Int
  delay : Int
  window : Int
  me : Int
  nonce : Int
  patience : Int
  entries : Int
  voices : Int
def Su.cells (s : Su) : List Value := [.int .u32 s.seed, .int .i64 s.delay, .int .i64 s.window, .int .i64 s.me, .int .u32 s.nonce, .int .i64 s.patience, .int .i64 s.entries, .int .i64 s.voices]
def Su.nums (s : Su) : List Int := [s.seed, s.delay, s.window, s.patience, s.entries, s.voices]
def Su.ok (s : Su) : Bool := s.nums.all smallB && (decide (s.me = 0) && decide (s.nonce = 0))
def headL (s : Su) : List UInt8 := lineL boutW s.nums
theorem setO_head (s : Su) : setO (cutL 32 (headL s)) = if s.nums.all smallB then some (s.nums.map Int.toNat) else none := by
  unfold headL setO
  rw [cut_line _ _ (by decide), lineO_line]
  by_cases h : s.nums.all smallB = true
  · rw [if_pos ⟨rfl, rfl, h⟩, if_pos h]
  · rw [if_neg (fun e => h e.2.2), if_neg h]
theorem small_toNat {n : Int} (h : smallB n = true) : ((n.toNat : Nat) : Int) = n := by
  simp only [smallB, Bool.and_eq_true, decide_eq_true_eq] at h
  omega
/-- What is read from a head is the setup, if it may be told. -/
theorem setC_head (s : Su) (h : s.nums.all smallB = true) : setC (s.nums.map Int.toNat) = s.cells ↔ s.me = 0 ∧ s.nonce = 0 := by
  simp only [Su.nums, List.all_cons, List.all_nil, Bool.and_true, Bool.and_eq_true] at h
  obtain ⟨h1, h2, h3, h4, h5, h6⟩ := h
  simp only [setC, Su.nums, Su.cells, List.map_cons, List.map_nil, List.getD_cons_zero, List.getD_cons_succ, small_toNat h1, small_toNat h2, small_toNat h3, small_toNat h4, small_toNat h5, small_toNat h6, List.cons.injEq, Value.int.injEq, true_and, and_true]
  exact ⟨fun ⟨a, b⟩ => ⟨a.symm, b.symm⟩, fun ⟨a, b⟩ => ⟨a.symm, b.symm⟩⟩
/-- A move: its six numbers. -/
structure Mo where
  kind : Int
  who : Int
  i : Int
  at_ : Int
  by_ : Int
  in_ : Int
def Mo.cells (m : Mo) : List Value := [.int .i64 m.kind, .int .i64 m.who, .int .i64 m.i, .int .i64 m.at_, .int .u8 m.by_, .int .u8 m.in_]
structure Mo.Fits (m : Mo) : Prop where
  by0 : 0 ≤ m.by_
  by1 : m.by_ < 256
  in0 : 0 ≤ m.in_
  in1 : m.in_ < 256
  k64 : IL64 m.kind
  who64 : IL64 m.who
  i64 : IL64 m.i
  at64 : IL64 m.at_
def Mo.nums (m : Mo) : List Int := m.who :: (if m.kind = 1 then [m.in_] else if m.kind = 5 then [m.i, m.at_, m.by_] else if m.kind = 6 then [] else [m.i])
def toldL (m : Mo) : List UInt8 := if 1 ≤ m.kind ∧ m.kind ≤ 6 then lineL (nmR.getD m.kind.toNat []) m.nums else []
def Mo.ok (m : Mo) : Bool := decide (1 ≤ m.kind) && (decide (m.kind ≤ 6) && (smallB m.who && (smallB m.i && (smallB m.at_ && ((decide (m.in_ = 0) || decide (m.kind = 1)) && ((decide (m.i = 0) || !(decide (m.kind = 1) || decide (m.kind = 6))) && ((decide (m.at_ = 0) && decide (m.by_ = 0)) || decide (m.kind = 5))))))))
end Go.Proofs.YtlonefjbcooaaaaDoor
