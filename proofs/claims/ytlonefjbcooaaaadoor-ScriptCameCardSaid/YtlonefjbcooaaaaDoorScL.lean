/-
  What a text says, plainly: the lines that say something, a setup and moves of them.
-/
import Derived.Test.YtlonefjbcooaaaaDoorScMd
import Derived.Lib.IndexBytes
import Derived.Lib.IndexMore
namespace Go.Proofs.YtlonefjbcooaaaaDoor
open Go.RowKit
/-- The pieces that say something: each with its number, and whether it has no end. -/
def keptL : List (List UInt8) → Nat → List (List UInt8 × Nat × Bool)
  | [], _ => []
  | p :: r, n => (if p = [] ∨ (r ≠ [] ∧ p.head? = some 35) then [] else [(p, n, r.isEmpty)]) ++ keptL r (n + 1)
/-- A line's move: its kind (from 0) and its numbers. -/
def mvP (ws : List (List UInt8)) : Option (Nat × List Nat) := match findM ws with
  | none => none
  | some a => if okM a.1 a.2 then some a else none
def mvF (a : Nat × List Nat) : List Value := mvC a.1 a.2
theorem mvF_length (a : Nat × List Nat) : (mvF a).length = 6 := rfl
theorem mvF_one (a : Nat × List Nat) : ∀ u ∈ mvF a, u.oneCell' = true := by
  intro u hu
  simp only [mvF, mvC, List.mem_cons, List.not_mem_nil, or_false] at hu
  rcases hu with rfl | rfl | rfl | rfl | rfl | rfl <;> rfl
theorem mvO_eq (ws : List (List UInt8)) : mvO ws = (mvP ws).map mvF := by
  unfold mvO mvP
  cases findM ws with
  | none => rfl
  | some a =>
    obtain ⟨k, ns⟩ := a
    simp only
    cases okM k ns <;> rfl
def movesO : List (List UInt8 × Nat × Bool) → Sum Nat (List (Nat × List Nat))
  | [] => .inr []
  | e :: r => match mvP (cutL 32 e.1), e.2.2 with
    | some c, false => (match movesO r with | .inl n => .inl n | .inr l => .inr (c :: l))
    | _, _ => .inl e.2.1
def parseK (m : Nat) : List (List UInt8 × Nat × Bool) → Sum Nat (List Nat × List (Nat × List Nat))
  | [] => .inl m
  | e :: r => match setO (cutL 32 e.1), e.2.2 with
    | some ns, false => (match movesO r with | .inl n => .inl n | .inr l => .inr (ns, l))
    | _, _ => .inl e.2.1
/-- What a text says: a setup's numbers and moves, or the number of the first bad line. -/
def parseO (t : List UInt8) : Sum Nat (List Nat × List (Nat × List Nat)) := parseK (cutL 10 t).length (keptL (cutL 10 t) 1)
theorem movesO_step : ∀ (K : List (List UInt8 × Nat × Bool)) (i : Nat) (L : List (Nat × List Nat)) (hi : i < K.length), movesO (K.take i) = .inr L →
    ((mvP (cutL 32 K[i].1) = none ∨ K[i].2.2 = true) → movesO K = .inl K[i].2.1) ∧ ∀ c, mvP (cutL 32 K[i].1) = some c → K[i].2.2 = false → movesO (K.take (i + 1)) = .inr (L ++ [c])
  | [], i, L, hi, _ => by simp at hi
  | e :: r, 0, L, _, h => by
    simp only [List.take_zero, movesO, Sum.inr.injEq] at h
    subst h
    refine ⟨fun hb => ?_, fun c hc hb => ?_⟩
    · simp only [List.getElem_cons_zero] at hb ⊢
      rcases hb with hb | hb
      · simp only [movesO, hb]
      · simp only [movesO, hb]
        split
        · rename_i e1 e2; cases e2
        · rfl
    · simp only [List.getElem_cons_zero] at hc hb
      simp [movesO, hc, hb]
  | e :: r, i + 1, L, hi, h => by
    simp only [List.take_succ_cons, movesO] at h
    split at h
    · rename_i c e1 e2
      split at h
      · cases h
      · rename_i l hl
        simp only [Sum.inr.injEq] at h
        subst h
        obtain ⟨h1, h2⟩ := movesO_step r i l (by simpa using hi) hl
        simp only [List.getElem_cons_succ]
        refine ⟨fun hb => ?_, fun d hd hb => ?_⟩
        · simp only [movesO, e1, e2, h1 hb]
        · simp only [List.take_succ_cons, movesO, e1, e2, h2 d hd hb, List.cons_append]
    · cases h
theorem keptL_at (ps : List (List UInt8)) (i : Nat) (hi : i < ps.length) (n : Nat) : keptL (ps.drop i) n = (if ps[i] = [] ∨ (i + 1 < ps.length ∧ ps[i].head? = some 35) then [] else [(ps[i], n, decide (i + 1 = ps.length))]) ++ keptL (ps.drop (i + 1)) (n + 1) := by
  rw [← List.getElem_cons_drop hi, keptL]
  have h1 : (ps.drop (i + 1) ≠ []) ↔ i + 1 < ps.length := by rw [ne_eq, List.drop_eq_nil_iff]; omega
  have h2 : (ps.drop (i + 1)).isEmpty = decide (i + 1 = ps.length) := by
    rw [Bool.eq_iff_iff, List.isEmpty_iff, List.drop_eq_nil_iff]; simp; omega
  simp only [h1, h2]
theorem indexByte_none {x : UInt8} : ∀ {l : List UInt8}, Lib.indexByte l x = -1 → x ∉ l := by
  intro l h hm
  rw [← Lib.index_one] at h
  rcases Lib.index_spec l [x] with ⟨-, hno⟩ | ⟨i, hi, -⟩
  · obtain ⟨j, hj, hx⟩ := List.mem_iff_getElem.1 hm
    have := hno j (by omega)
    simp [Lib.occAt, List.drop_eq_getElem_cons hj, hx] at this
  · omega
/-- strings.Cut at one byte. -/
theorem cut_cutL (x : UInt8) (l : List UInt8) : (x ∉ l ∧ Lib.cut l [x] = (l, [], false)) ∨ ∃ a r, l = a ++ x :: r ∧ x ∉ a ∧ Lib.cut l [x] = (a, r, true) := by
  rcases Lib.index_spec l [x] with ⟨h, hno⟩ | ⟨i, h, hi, ho, hfirst⟩
  · refine .inl ⟨fun hm => ?_, by rw [Lib.cut, h]; rfl⟩
    obtain ⟨j, hj, hx⟩ := List.mem_iff_getElem.1 hm
    have := hno j (by omega)
    simp [Lib.occAt, List.drop_eq_getElem_cons hj, hx] at this
  · have hlt : i < l.length := by
      have := Lib.index_room l [x] (by omega)
      rw [h] at this
      simp at this; omega
    have hx : l[i] = x := by
      have := ho
      rw [Lib.occAt, List.drop_eq_getElem_cons hlt, List.isPrefixOf] at this
      simp only [Bool.and_eq_true, beq_iff_eq] at this
      exact this.1.symm
    refine .inr ⟨l.take i, l.drop (i + 1), ?_, ?_, ?_⟩
    · conv => lhs; rw [← List.take_append_drop i l, List.drop_eq_getElem_cons hlt, hx]
    · intro hm
      obtain ⟨j, hj, hjx⟩ := List.mem_iff_getElem.1 hm
      rw [List.length_take] at hj
      rw [List.getElem_take] at hjx
      have := hfirst j (by omega)
      simp [Lib.occAt, List.drop_eq_getElem_cons (show j < l.length by omega), hjx] at this
    · rw [Lib.cut, h, if_pos (by omega)]
      simp
end Go.Proofs.YtlonefjbcooaaaaDoor
