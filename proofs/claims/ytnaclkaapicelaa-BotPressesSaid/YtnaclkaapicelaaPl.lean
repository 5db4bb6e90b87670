/-
  A state's block, a player's block: parts stored.
-/
import Derived.Test.YtnaclkaapicelaaGameR
import Derived.Test.YtnaclkaapicelaaRow
import Derived.Test.YtnaclkaapicelaaName
namespace Go.Proofs.Ytnaclkaapicelaa
open Go.RowKit
set_option maxRecDepth 100000
set_option linter.unusedSimpArgs false
theorem st_setRange {w : World} {g : Nat} {S : Nat → Int} (h : Blk w g 33 (stCells S).toArray) (o : Nat) (vs : List Value) (T : Nat → Int) (_hb : o + vs.length ≤ 60) (hin : ∀ j, j < vs.length → vs[j]? = some (.int (kdS (o + j)) (T (o + j)))) (hout : ∀ j, (j < o ∨ o + vs.length ≤ j) → T j = S j) :
    Blk (w.setCells g o vs) g 33 (stCells T).toArray := by
  have := h.setCells vs o
  have e : putAt (stCells S).toArray o vs = (stCells T).toArray := by
    apply Array.ext_getElem?
    intro j
    rw [putAt_get]
    simp only [List.getElem?_toArray, List.size_toArray, stCells_length]
    by_cases hj : o ≤ j ∧ j < o + vs.length ∧ j < 60
    · rw [if_pos hj, hin (j - o) (by omega)]
      simp [stCells, rowOf, show j < 60 by omega, show o + (j - o) = j by omega]
    · rw [if_neg hj]
      by_cases hj6 : j < 60
      · simp only [stCells, rowOf, List.getElem?_map, List.getElem?_range hj6, Option.map_some]
        rw [hout j (by omega)]
      · rw [List.getElem?_eq_none (by rw [stCells_length]; omega), List.getElem?_eq_none (by rw [stCells_length]; omega)]
  rw [← e]; exact this
theorem st_set {w : World} {g : Nat} {S : Nat → Int} (h : Blk w g 33 (stCells S).toArray) (i : Nat) (hi : i < 60) {k : IntKind} (hk : kdS i = k) (v : Int) : Blk (w.setCell ⟨g, i, none⟩ (.int k v)) g 33 (stCells (upd S i v)).toArray := by
  refine st_setRange h i [.int k v] _ (by show i + 1 ≤ 60; omega) (fun j hj => ?_) (fun j hj => ?_)
  · have : j = 0 := by simpa using hj
    subst this
    rw [Nat.add_zero, hk, upd_same]; rfl
  · exact upd_other _ _ _ _ (by have : [Value.int k v].length = 1 := rfl; omega)
theorem pl_range {w : World} {g : Nat} {S : Nat → Int} (h : Blk w g 33 (stCells S).toArray) {i : Nat} (hi : i < 2) : w.rangeAt g (4 + i * 10) (plCells (getP S i)) := fun j v hv => by
  have hj : j < 10 := by have := (List.getElem?_eq_some_iff.1 hv).1; rwa [plCells_length] at this
  have := st_cell h (4 + i * 10 + j) (by omega)
  rw [this, kdS_p i j hi hj, ← hv]
  simp [plCells, rowOf, hj, getP]
theorem pl_put {w : World} {g : Nat} {S : Nat → Int} (h : Blk w g 33 (stCells S).toArray) {i : Nat} (hi : i < 2) (p : Nat → Int) : Blk (w.setCells g (4 + i * 10) (plCells p)) g 33 (stCells (putP S i p)).toArray := by
  refine st_setRange h (4 + i * 10) (plCells p) _ (by rw [plCells_length]; omega) (fun j hj => ?_) (fun j hj => ?_)
  · rw [plCells_length] at hj
    rw [putP_at S i p j hj, kdS_p i j hi hj]
    simp [plCells, rowOf, hj]
  · rw [plCells_length] at hj
    exact putP_other S i p j hj
theorem pl_one (p : Nat → Int) : ∀ v ∈ plCells p, v.oneCell' = true := fun v hv => by
  unfold plCells rowOf at hv
  obtain ⟨j, -, rfl⟩ := List.mem_map.1 hv
  rfl
theorem pl_set (p : Nat → Int) (j : Nat) (hj : j < 10) {k : IntKind} (hk : kdP j = k) (v : Int) : ((plCells p).toArray).setIfInBounds j (.int k v) = (plCells (upd p j v)).toArray := by
  apply Array.ext'
  simp only [Array.toList_setIfInBounds]
  unfold plCells
  rw [rowOf_set]
  refine rowOf_congr fun m _ => ?_
  unfold upd
  by_cases hm : m = j
  · subst hm; rw [if_pos rfl, if_pos rfl, hk]
  · rw [if_neg hm, if_neg hm]
section
variable {P : Program} {fn : Func} {tmps : Array Value} {w : World} {a x : Tmp} {t : TypeId} {p : Addr} {v : Value}
theorem results_c1 (hr : fn.results = #[.cell a t, .tmp x]) (ha : tmps.getD a undef = .pointer (some p)) (hl : (loadVar t p).run P w = .ok v w) :
    (results fn tmps).run P w = .ok (.tuple #[v, tmps.getD x undef]) w := by
  unfold results
  rw [hr]
  simp only [List.mapM_toArray, List.mapM_cons, List.mapM_nil, ha, asAddr]
  simp [hl]
end
end Go.Proofs.Ytnaclkaapicelaa
