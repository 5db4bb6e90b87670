/-
  Commands that came in.
-/
import Derived.Test.YteccmklacgpodaaLgP
import Derived.Test.YteccmklacgpodaaEv
namespace Go.Proofs.Yteccmklacgpodaa
open Go.RowKit Go.WideShapes Go.ChangeShapes
set_option maxRecDepth 100000
section
variable {H : Type} {enc : TypeId × Value → H} {w : World} {held : Bool}
theorem Try.cellsCmd : Try.prog.cellsOf 57 = 12 := by kernel_rfl
theorem Try.cellsBool : Try.prog.cellsOf 4 = 1 := by kernel_rfl
theorem cm_of_trod {fuel : Nat} {cs : List Value} {y : DataW H × List MemPlace} (h : DataW.trod enc Try.prog w 0 (fun _ => true) held fuel 57 cs = some y) : ∃ c : Cm, cs = c.cells ∧ I64 c.late ∧ I64 c.kind ∧ c.e.Fit := by
  obtain ⟨xs, n, -, -, hlen, hxl, hg⟩ := DataW.trod_struct Try.underlying57 h
  rw [Try.cellsCmd] at hlen
  match cs, hlen with
  | [c0, c1, c2, c3, c4, c5, c6, c7, c8, c9, c10, c11], _ =>
    simp only [List.size_toArray, List.length_cons, List.length_nil] at hxl
    match xs, hxl with
    | [y0, y1, y2, y3], _ =>
      have k0 : DataW.trod enc Try.prog w 0 (fun _ => true) held n 3 ((List.drop 0 [c0, c1, c2, c3, c4, c5, c6, c7, c8, c9, c10, c11]).take (Try.prog.cellsOf 3)) = some y0 := hg 0 _ rfl
      have k1 : DataW.trod enc Try.prog w 0 (fun _ => true) held n 43 ((List.drop 1 [c0, c1, c2, c3, c4, c5, c6, c7, c8, c9, c10, c11]).take (Try.prog.cellsOf 43)) = some y1 := hg 1 _ rfl
      have k2 : DataW.trod enc Try.prog w 0 (fun _ => true) held n 3 ((List.drop 10 [c0, c1, c2, c3, c4, c5, c6, c7, c8, c9, c10, c11]).take (Try.prog.cellsOf 3)) = some y2 := hg 2 _ rfl
      have k3 : DataW.trod enc Try.prog w 0 (fun _ => true) held n 4 ((List.drop 11 [c0, c1, c2, c3, c4, c5, c6, c7, c8, c9, c10, c11]).take (Try.prog.cellsOf 4)) = some y3 := hg 3 _ rfl
      rw [Try.cellsInt] at k0 k2
      rw [Try.cellsEv] at k1
      rw [Try.cellsBool] at k3
      obtain ⟨a0, e0, -, w0⟩ := DataW.trod_int Try.underlying3 k0
      obtain ⟨ev, e1, hf⟩ := ev_of_trod k1
      obtain ⟨a2, e2, -, w2⟩ := DataW.trod_int Try.underlying3 k2
      obtain ⟨a3, e3, -⟩ := DataW.trod_bool Try.underlying4 k3
      simp only [List.drop_zero, List.drop_succ_cons, List.take_succ_cons, List.take_zero, List.cons.injEq, and_true, Ev.cells] at e0 e1 e2 e3
      obtain ⟨rfl, rfl, rfl, rfl, rfl, rfl, rfl, rfl, rfl⟩ := e1
      subst e0 e2 e3
      exact ⟨⟨a0, ev, a2, a3⟩, rfl, bd_of_wf w2, bd_of_wf w0, hf⟩
theorem open_cmds {r : Reach} {b0 : Nat} {v : Value} {d : DataW H} {p : List MemPlace} (hv : Value.okWide Try.prog w r b0 34 v) (h : DataW.Trod enc Try.prog w 0 (fun _ => true) held 34 v d p) :
    ∃ (A : Option Addr) (c : Nat) (l : List Cm), v = .slice A l.length c ∧ (l.length ≤ c ∧ c ≤ maxLen) ∧ Rd w w.heap.size A (l.flatMap Cm.cells) ∧ ∀ x ∈ l, I64 x.late ∧ I64 x.kind ∧ x.e.Fit := by
  obtain ⟨A, n, c, css, rfl, rfl, hn, hm, hr, hall⟩ := open_rows Try.underlying34 Try.cellsCmd (by omega) hv h
  obtain ⟨l, rfl, hin⟩ := list_of_forms (f := Cm.cells) (p := fun x => I64 x.late ∧ I64 x.kind ∧ x.e.Fit) (l := css) (fun cs hcs => by
    obtain ⟨-, fuel, y, hy⟩ := hall cs hcs
    exact cm_of_trod hy)
  refine ⟨A, c, l, by rw [List.length_map], ⟨by rw [List.length_map] at hn; omega, hm⟩, ?_, hin⟩
  rw [List.flatMap_def]; exact hr
end
end Go.Proofs.Yteccmklacgpodaa
