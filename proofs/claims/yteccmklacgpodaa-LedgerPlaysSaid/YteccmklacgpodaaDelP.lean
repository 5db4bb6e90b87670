/-
  Rows of the call's own: an element stored whole, a row cut short; 'clear' of elements of several cells. No program is named here.
-/
import Derived.Test.YteccmklacgpodaaRow
import Derived.Test.YteccmklacgpodaaOwn
import Derived.Lib.SliceRun
import Derived.Deep.RegionLaw
namespace Go.Proofs.Yteccmklacgpodaa
open Go.RowKit
section
variable {α : Type} {w w' : World} {base : Nat} {E : TypeId} {m : Nat} {v : Value} {f : α → List Value} {l : List α}
/-- What keeps a row's block keeps the row. -/
theorem OwnL.same (h : OwnL w base E m v f l) (hs : ∀ k, v.ownBlock = some k → w'.heap[k]? = w.heap[k]?) : OwnL w' base E m v f l :=
  ⟨h.1, h.2.imp id fun ⟨g, cap, cur, hv, hb, hg, r⟩ => ⟨g, cap, cur, hv, hb, (hs g (by rw [hv]; rfl)).trans hg, r⟩⟩
/-- Its first so many. -/
theorem OwnL.cut {g n c i : Nat} (hf : ∀ a, (f a).length = m) (h : OwnL w base E m (.slice (some ⟨g, 0, none⟩) n c) f l) (hi : i ≤ n) : OwnL w base E m (.slice (some ⟨g, 0, none⟩) i c) f (l.take i) := by
  obtain rfl := h.len
  have hl : (l.take i).length = i := by rw [List.length_take]; omega
  rcases h.2 with ⟨e, -⟩ | ⟨g', cap, cur, hv, hb, hg, hn, hc, hs, ht⟩
  · cases e
  · simp only [Value.slice.injEq, Option.some.injEq, Addr.mk.injEq, and_true] at hv
    obtain ⟨rfl, -, rfl⟩ := hv
    refine ⟨by rw [length_flatMap_const f m hf], .inr ⟨g, c, cur, by rw [hl], hb, hg, by rw [hl]; omega, hc, hs, ?_⟩⟩
    rw [hl]
    have h1 : (cur.toList.take (l.length * m)).take (i * m) = cur.toList.take (i * m) := by rw [List.take_take, Nat.min_eq_left (Nat.mul_le_mul_right _ hi)]
    rw [← h1, ht]
    have h2 : l.flatMap f = (l.take i).flatMap f ++ (l.drop i).flatMap f := by rw [← List.flatMap_append, List.take_append_drop]
    rw [h2, List.take_append_of_le_length (by rw [length_flatMap_const f m hf, hl]; exact Nat.le_refl _), List.take_of_length_le (by rw [length_flatMap_const f m hf, hl]; exact Nat.le_refl _)]
/-- A store behind its last. -/
theorem OwnL.beyond {g n c o : Nat} {vs : List Value} (h : OwnL w base E m (.slice (some ⟨g, 0, none⟩) n c) f l) (ho : n * m ≤ o) : OwnL (w.setCells g o vs) base E m (.slice (some ⟨g, 0, none⟩) n c) f l := by
  obtain rfl := h.len
  rcases h.2 with ⟨e, -⟩ | ⟨g', cap, cur, hv, hb, hg, hn, hc, hs, ht⟩
  · cases e
  · simp only [Value.slice.injEq, Option.some.injEq, Addr.mk.injEq, and_true] at hv
    obtain ⟨rfl, -, rfl⟩ := hv
    have hB : Blk w g E cur := hg
    refine ⟨h.1, .inr ⟨g, c, _, rfl, hb, hB.setCells vs o, hn, hc, by rw [putAt_size]; exact hs, ?_⟩⟩
    rw [← ht]
    apply List.ext_getElem?
    intro j
    rw [List.getElem?_take, List.getElem?_take]
    by_cases hj : j < l.length * m
    · rw [if_pos hj, if_pos hj, Array.getElem?_toList, Array.getElem?_toList, putAt_get, if_neg (by omega)]
    · rw [if_neg hj, if_neg hj]
/-- An element stored whole. -/
theorem OwnL.setE {g n c k : Nat} {a : α} (hf : ∀ a, (f a).length = m) (h : OwnL w base E m (.slice (some ⟨g, 0, none⟩) n c) f l) (hk : k < l.length) : OwnL (w.setCells g (k * m) (f a)) base E m (.slice (some ⟨g, 0, none⟩) n c) f (l.set k a) := by
  obtain rfl := h.len
  rcases h.2 with ⟨e, -⟩ | ⟨g', cap, cur, hv, hb, hg, hn, hc, hs, ht⟩
  · cases e
  · simp only [Value.slice.injEq, Option.some.injEq, Addr.mk.injEq, and_true] at hv
    obtain ⟨rfl, -, rfl⟩ := hv
    have hB : Blk w g E cur := hg
    refine ⟨by rw [length_flatMap_const f m hf], .inr ⟨g, c, _, by rw [List.length_set], hb, hB.setCells (f a) (k * m), by rw [List.length_set]; exact hn, hc, by rw [putAt_size]; exact hs, ?_⟩⟩
    rw [List.length_set]
    have hmul : (k + 1) * m ≤ l.length * m := Nat.mul_le_mul_right _ hk
    have hmul2 : l.length * m ≤ c * m := Nat.mul_le_mul_right _ hn
    have hkm : (k + 1) * m = k * m + m := Nat.succ_mul _ _
    have e1 : ∀ j, j < l.length * m → cur[j]? = (l.flatMap f)[j]? := fun j hj => by rw [← ht, List.getElem?_take, if_pos hj, Array.getElem?_toList]
    have hset : (l.set k a).flatMap f = (l.take k).flatMap f ++ (f a ++ (l.drop (k + 1)).flatMap f) := by
      rw [List.set_eq_take_append_cons_drop, if_pos hk, List.flatMap_append, List.flatMap_cons]
    have hsplit : l.flatMap f = (l.take k).flatMap f ++ (f l[k] ++ (l.drop (k + 1)).flatMap f) := by
      rw [← List.flatMap_cons, ← List.flatMap_append, List.getElem_cons_drop, List.take_append_drop]
    have htl : ((l.take k).flatMap f).length = k * m := by rw [length_flatMap_const f m hf, List.length_take, Nat.min_eq_left (by omega)]
    apply List.ext_getElem?
    intro j
    rw [List.getElem?_take, Array.getElem?_toList]
    by_cases hj : j < l.length * m
    · rw [if_pos hj, putAt_get, hf, hset]
      by_cases h1 : j < k * m
      · rw [if_neg (by omega), e1 j hj, hsplit, List.getElem?_append_left (by omega), List.getElem?_append_left (by omega)]
      · by_cases h3 : j < k * m + m
        · rw [if_pos (by omega), List.getElem?_append_right (by omega), htl, List.getElem?_append_left (by rw [hf]; omega)]
        · rw [if_neg (by omega), e1 j hj, hsplit, List.getElem?_append_right (by omega), htl, List.getElem?_append_right (by rw [hf]; omega), List.getElem?_append_right (by omega), htl, List.getElem?_append_right (by rw [hf]; omega), hf, hf]
    · rw [if_neg hj, List.getElem?_eq_none]
      rw [length_flatMap_const f m hf, List.length_set]
      omega
/-- Cells that lie in it. -/
theorem OwnL.there {g n c k r : Nat} (hf : ∀ a, (f a).length = m) (h : OwnL w base E m (.slice (some ⟨g, 0, none⟩) n c) f l) (hk : k + r ≤ n * m) : w.there g k r := fun j hj => by
  obtain rfl := h.len
  have hlen : (l.flatMap f).length = l.length * m := length_flatMap_const f m hf l
  refine ⟨?_, h.frozen _⟩
  rw [World.ownsRow.cellAt h (k + j) (by omega), List.getElem?_eq_getElem (by omega)]
  rfl
end
section
variable {P : Program}
/-- 'clear(s)': some cells, which lie in the slice. -/
theorem run_clearN (w : World) (t e : TypeId) (z : Value) (m : Nat) (ht : P.underlying t = some (.slice e)) (hv : (zeroValue e).run P w = .ok z w) (hz : z.cells.size = m) (h1 : ∀ u ∈ z.cells.toList, u.oneCell' = true) (b o n c : Nat) (hn : 0 < n)
    (hc : ∀ j, j < n * m → (w.cell? ⟨b, o + j, none⟩).isSome = true) (hf : ∀ j, j < n * m → w.frozen? ⟨b, o + j, none⟩ = false) :
    ∃ vs : List Value, vs.length = n * m ∧ ∀ ty, (Builtin.clear_ #[t] ty #[.slice (some ⟨b, o, none⟩) n c]).run P w = .ok (.tuple #[]) (w.setCells b o vs) := by
  have hl : (Builtin.zeroCells z.cells n).toList.length = n * m := by
    unfold Builtin.zeroCells
    simp [hz]
  have h1' : ∀ u ∈ (Builtin.zeroCells z.cells n).toList, u.oneCell' = true := by
    intro u hu
    unfold Builtin.zeroCells at hu
    rw [Array.toList_map, List.mem_map] at hu
    obtain ⟨i, hi, rfl⟩ := hu
    have hi' : i < n * z.cells.size := by simpa using hi
    have hp : 0 < z.cells.size := by
      rcases Nat.eq_zero_or_pos z.cells.size with h0 | h0
      · rw [h0] at hi'; simp at hi'
      · exact h0
    have hlt : i % z.cells.size < z.cells.size := Nat.mod_lt _ hp
    rw [getElem!_pos z.cells (i % z.cells.size) hlt]
    exact h1 _ (by simp)
  have hst := run_storeCells_cells (P := P) b o (Builtin.zeroCells z.cells n).toList 0 w (by rw [hl]; simpa using hc) (by rw [hl]; simpa using hf) h1'
  simp only [Nat.add_zero] at hst
  obtain ⟨k, rfl⟩ : ∃ k, n = k + 1 := ⟨n - 1, by omega⟩
  refine ⟨_, hl, fun ty => ?_⟩
  simp [Builtin.clear_, run_underlying ht, hv, hst]
end
end Go.Proofs.Yteccmklacgpodaa
