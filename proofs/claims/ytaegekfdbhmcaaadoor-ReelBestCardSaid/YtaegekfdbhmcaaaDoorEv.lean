/-
  A slice of events among the arguments.
-/
import Derived.Test.YtaegekfdbhmcaaaDoorEv0
namespace Go.Proofs.YtaegekfdbhmcaaaDoor
open Go.RowKit Go.WideShapes Go.ChangeShapes
set_option maxRecDepth 100000
section
variable {H : Type} {enc : TypeId × Value → H} {w : World} {spare : Nat → Bool} {held : Bool}
/-- An argument of events, as a list. -/
theorem open_events {r : Reach} {b0 : Nat} {v : Value} {d : DataW H} {p : List MemPlace} (hv : Value.okWide Tryd.prog w r b0 46 v) (h : DataW.Trod enc Tryd.prog w 0 (fun _ => true) held 46 v d p) :
    ∃ (A : Option Addr) (c : Nat) (l : List Ev), v = .slice A l.length c ∧ (l.length ≤ c ∧ c ≤ maxLen) ∧ Rd w w.heap.size A (l.flatMap Ev.cells) ∧ ∀ e ∈ l, e.Fit := by
  obtain ⟨A, n, c, css, rfl, rfl, hn, hm, hr, hall⟩ := open_rows Tryd.underlying46 Tryd.cellsEv (by omega) hv h
  obtain ⟨l, rfl, hfit⟩ := list_of_forms (f := Ev.cells) (p := Ev.Fit) (l := css) (fun cs hcs => by
    obtain ⟨-, fuel, y, hy⟩ := hall cs hcs
    exact ev_of_trod hy)
  refine ⟨A, c, l, by rw [List.length_map], ⟨by rw [List.length_map] at hn; omega, hm⟩, ?_, hfit⟩
  rw [List.flatMap_def]; exact hr
end
end Go.Proofs.YtaegekfdbhmcaaaDoor
