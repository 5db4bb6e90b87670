/-
  The document's Parse, plainly: line by line.
-/
import Derived.Test.YtlonefjbcooaaaaDoorScQd
namespace Go.Proofs.YtlonefjbcooaaaaDoor
/-- What is known ahead of line i. -/
def RefI (ps : List (List UInt8)) (i : Nat) (has : Bool) (ns : List Nat) (L : List (Nat × List Nat)) : Prop :=
  ∃ KD, keptL ps 1 = KD ++ keptL (ps.drop i) (i + 1) ∧ L.length ≤ i ∧ ((KD = [] ∧ has = false ∧ ns = [] ∧ L = []) ∨ ∃ p n r, KD = (p, n, false) :: r ∧ has = true ∧ setO (cutL 32 p) = some ns ∧ movesO r = .inr L)
theorem RefI.start (ps : List (List UInt8)) : RefI ps 0 false [] [] := ⟨[], rfl, Nat.le_refl _, .inl ⟨rfl, rfl, rfl, rfl⟩⟩
section
variable {ps : List (List UInt8)} {i : Nat} {has : Bool} {ns : List Nat} {L : List (Nat × List Nat)}
theorem RefI.skip (h : RefI ps i has ns L) (hi : i < ps.length) (hs : ps[i] = [] ∨ (i + 1 < ps.length ∧ ps[i].head? = some 35)) : RefI ps (i + 1) has ns L := by
  obtain ⟨KD, hk, hl, hc⟩ := h
  refine ⟨KD, ?_, by omega, hc⟩
  rw [hk, keptL_at ps i hi, if_pos hs, List.nil_append]
theorem RefI.here (h : RefI ps i has ns L) (hi : i < ps.length) (hs : ¬ (ps[i] = [] ∨ (i + 1 < ps.length ∧ ps[i].head? = some 35))) :
    ∃ KD, keptL ps 1 = KD ++ (ps[i], i + 1, decide (i + 1 = ps.length)) :: keptL (ps.drop (i + 1)) (i + 2) ∧ L.length ≤ i ∧ ((KD = [] ∧ has = false ∧ ns = [] ∧ L = []) ∨ ∃ p n r, KD = (p, n, false) :: r ∧ has = true ∧ setO (cutL 32 p) = some ns ∧ movesO r = .inr L) := by
  obtain ⟨KD, hk, hl, hc⟩ := h
  refine ⟨KD, ?_, hl, hc⟩
  rw [hk, keptL_at ps i hi, if_neg hs]
  rfl
theorem movesO_mid {r s : List (List UInt8 × Nat × Bool)} {e : List UInt8 × Nat × Bool} {L : List (Nat × List Nat)} (h : movesO r = .inr L) :
    ((mvP (cutL 32 e.1) = none ∨ e.2.2 = true) → movesO (r ++ e :: s) = .inl e.2.1) ∧ ∀ c, mvP (cutL 32 e.1) = some c → e.2.2 = false → movesO (r ++ [e]) = .inr (L ++ [c]) := by
  have h1 := movesO_step (r ++ e :: s) r.length L (by simp) (by simpa using h)
  have h2 := movesO_step (r ++ [e]) r.length L (by simp) (by simpa using h)
  simp only [List.getElem_append_right (Nat.le_refl _), Nat.sub_self, List.getElem_cons_zero] at h1 h2
  refine ⟨h1.1, fun c hc hb => ?_⟩
  have := h2.2 c hc hb
  rwa [List.take_of_length_le (by simp)] at this
theorem RefI.bad (h : RefI ps i has ns L) (hi : i < ps.length) (hs : ¬ (ps[i] = [] ∨ (i + 1 < ps.length ∧ ps[i].head? = some 35)))
    (hb : i + 1 = ps.length ∨ (has = false ∧ setO (cutL 32 ps[i]) = none) ∨ (has = true ∧ mvP (cutL 32 ps[i]) = none)) (m : Nat) : parseK m (keptL ps 1) = .inl (i + 1) := by
  obtain ⟨KD, hk, -, ⟨rfl, rfl, rfl, rfl⟩ | ⟨p, n, r, rfl, rfl, hso, hmo⟩⟩ := h.here hi hs
  · rw [hk, List.nil_append]
    refine parseK_bad ?_
    rcases hb with e | ⟨-, e⟩ | ⟨e, -⟩
    · exact .inr (decide_eq_true e)
    · exact .inl e
    · cases e
  · rw [hk, List.cons_append]
    refine parseK_moves_bad hso rfl ((movesO_mid hmo).1 ?_)
    rcases hb with e | ⟨e, -⟩ | ⟨-, e⟩
    · exact .inr (decide_eq_true e)
    · cases e
    · exact .inl e
theorem RefI.first {ns' : List Nat} (h : RefI ps i false ns L) (hi : i < ps.length) (hs : ¬ (ps[i] = [] ∨ (i + 1 < ps.length ∧ ps[i].head? = some 35))) (hl : i + 1 ≠ ps.length) (hso : setO (cutL 32 ps[i]) = some ns') : RefI ps (i + 1) true ns' L := by
  obtain ⟨KD, hk, hll, ⟨rfl, -, rfl, rfl⟩ | ⟨p, n, r, rfl, e, -⟩⟩ := h.here hi hs
  · refine ⟨[(ps[i], i + 1, false)], ?_, by simp, .inr ⟨_, _, [], rfl, rfl, hso, rfl⟩⟩
    rw [hk, decide_eq_false hl]; rfl
  · cases e
theorem RefI.more {c : Nat × List Nat} (h : RefI ps i true ns L) (hi : i < ps.length) (hs : ¬ (ps[i] = [] ∨ (i + 1 < ps.length ∧ ps[i].head? = some 35))) (hl : i + 1 ≠ ps.length) (hm : mvP (cutL 32 ps[i]) = some c) : RefI ps (i + 1) true ns (L ++ [c]) := by
  obtain ⟨KD, hk, hll, ⟨rfl, e, -⟩ | ⟨p, n, r, rfl, -, hso, hmo⟩⟩ := h.here hi hs
  · cases e
  · refine ⟨(p, n, false) :: (r ++ [(ps[i], i + 1, false)]), ?_, by simp; omega, .inr ⟨p, n, _, rfl, rfl, hso, (movesO_mid (s := []) hmo).2 c hm rfl⟩⟩
    rw [hk, decide_eq_false hl]; simp
theorem RefI.done (h : RefI ps ps.length has ns L) (m : Nat) : (has = false → parseK m (keptL ps 1) = .inl m) ∧ (has = true → parseK m (keptL ps 1) = .inr (ns, L)) := by
  obtain ⟨KD, hk, -, hc⟩ := h
  rw [List.drop_of_length_le (Nat.le_refl _), keptL, List.append_nil] at hk
  rcases hc with ⟨rfl, rfl, rfl, rfl⟩ | ⟨p, n, r, rfl, rfl, hso, hmo⟩
  · exact ⟨fun _ => by rw [hk]; rfl, fun e => by cases e⟩
  · exact ⟨fun e => (by cases e), fun _ => by rw [hk]; exact parseK_moves_ok hso rfl hmo⟩
theorem RefI.len (h : RefI ps i has ns L) : L.length ≤ i := by
  obtain ⟨KD, -, h1, -⟩ := h
  exact h1
end
end Go.Proofs.YtlonefjbcooaaaaDoor
