/-
  Acts that came in.
-/
import Derived.Test.YteccmklacgpodaaEv
import Derived.Test.YteccmklacgpodaaEventPlain
namespace Go.Proofs.Yteccmklacgpodaa
open Go.RowKit Go.WideShapes Go.ChangeShapes
set_option maxRecDepth 100000
/-- An act: what is done, a page, how far behind. -/
structure ActP where
  kind : Int
  frame : Int
  A : Option Addr
  c : Nat
  evs : List Ev
  by_ : Int
def ActP.cells (a : ActP) : List Value := [.int .i64 a.kind, .int .i64 a.frame, .slice a.A a.evs.length a.c, .int .i64 a.by_]
theorem ActP.cells_length (a : ActP) : a.cells.length = 4 := rfl
structure ActP.In (a : ActP) (w : World) : Prop where
  kind : I64 a.kind
  frame : I64 a.frame
  by_ : I64 a.by_
  rows : Rd w w.heap.size a.A (a.evs.flatMap Ev.cells)
section
variable {H : Type} {enc : TypeId × Value → H} {w : World} {held : Bool}
theorem Try.cellsAct : Try.prog.cellsOf 32 = 4 := by kernel_rfl
theorem Try.cellsPage : Try.prog.cellsOf 30 = 2 := by kernel_rfl
theorem Try.cellsEvs : Try.prog.cellsOf 28 = 1 := by kernel_rfl
theorem act_of_trod {fuel : Nat} {cs : List Value} {y : DataW H × List MemPlace} (h : DataW.trod enc Try.prog w 0 (fun _ => true) held fuel 32 cs = some y) : ∃ a : ActP, cs = a.cells ∧ a.In w := by
  obtain ⟨xs, n, -, -, hlen, hxl, hg⟩ := DataW.trod_struct Try.underlying32 h
  rw [Try.cellsAct] at hlen
  match cs, hlen with
  | [c0, c1, c2, c3], _ =>
    simp only [List.size_toArray, List.length_cons, List.length_nil] at hxl
    match xs, hxl with
    | [y0, y1, y2], _ =>
      have k0 : DataW.trod enc Try.prog w 0 (fun _ => true) held n 3 ((List.drop 0 [c0, c1, c2, c3]).take (Try.prog.cellsOf 3)) = some y0 := hg 0 _ rfl
      rw [Try.cellsInt] at k0
      have k1 : DataW.trod enc Try.prog w 0 (fun _ => true) held n 30 ((List.drop 1 [c0, c1, c2, c3]).take (Try.prog.cellsOf 30)) = some y1 := hg 1 _ rfl
      rw [Try.cellsPage] at k1
      have k2 : DataW.trod enc Try.prog w 0 (fun _ => true) held n 3 ((List.drop 3 [c0, c1, c2, c3]).take (Try.prog.cellsOf 3)) = some y2 := hg 2 _ rfl
      rw [Try.cellsInt] at k2
      obtain ⟨xs', n', -, -, -, hxl', hg'⟩ := DataW.trod_struct Try.underlying30 k1
      simp only [List.size_toArray, List.length_cons, List.length_nil] at hxl'
      match xs', hxl' with
      | [z0, z1], _ =>
        have j0 : DataW.trod enc Try.prog w 0 (fun _ => true) held n' 3 ((List.drop 0 [c1, c2]).take (Try.prog.cellsOf 3)) = some z0 := hg' 0 _ rfl
        rw [Try.cellsInt] at j0
        have j1 : DataW.trod enc Try.prog w 0 (fun _ => true) held n' 28 ((List.drop 1 [c1, c2]).take (Try.prog.cellsOf 28)) = some z1 := hg' 1 _ rfl
        rw [Try.cellsEvs] at j1
        obtain ⟨a0, e0, -, w0⟩ := DataW.trod_int Try.underlying3 k0
        obtain ⟨a1, e1, -, w1⟩ := DataW.trod_int Try.underlying3 j0
        obtain ⟨a3, e3, -, w3⟩ := DataW.trod_int Try.underlying3 k2
        obtain ⟨A, m, c, css, e2, rfl, hn, hm, hr, hall⟩ := rows_of_trod Try.underlying28 Try.cellsEv (by omega) j1
        simp only [List.drop_zero, List.drop_succ_cons, List.take_succ_cons, List.take_zero, List.cons.injEq, and_true] at e0 e1 e2 e3
        subst e0 e1 e2 e3
        obtain ⟨l, rfl, -⟩ := list_of_forms (f := Ev.cells) (p := Ev.Fit) (l := css) (fun cs hcs => by
          obtain ⟨-, fuel, y, hy⟩ := hall cs hcs
          exact ev_of_trod hy)
        refine ⟨⟨a0, a1, A, c, l, a3⟩, by simp [ActP.cells], bd_of_wf w0, bd_of_wf w1, bd_of_wf w3, ?_⟩
        rw [List.flatMap_def]; exact hr
theorem open_act {r : Reach} {b0 : Nat} {v : Value} {d : DataW H} {p : List MemPlace} (hv : Value.okWide Try.prog w r b0 32 v) (h : DataW.Trod enc Try.prog w 0 (fun _ => true) held 32 v d p) :
    ∃ a : ActP, v = .agg #[.int .i64 a.kind, .int .i64 a.frame, .slice a.A a.evs.length a.c, .int .i64 a.by_] ∧ a.In w := by
  obtain ⟨cs, rfl, -⟩ := okWide_struct Try.underlying32 hv
  obtain ⟨fuel, hf⟩ := h
  obtain ⟨a, hk, hi⟩ := act_of_trod hf
  refine ⟨a, ?_, hi⟩
  have : cs.toList = a.cells := hk
  rw [← Array.toArray_toList (xs := cs), this]
  rfl
theorem open_acts {r : Reach} {b0 : Nat} {v : Value} {d : DataW H} {p : List MemPlace} (hv : Value.okWide Try.prog w r b0 22 v) (h : DataW.Trod enc Try.prog w 0 (fun _ => true) held 22 v d p) :
    ∃ (A : Option Addr) (c : Nat) (l : List ActP), v = .slice A l.length c ∧ (l.length ≤ c ∧ c ≤ maxLen) ∧ Rd w w.heap.size A (l.flatMap ActP.cells) ∧ ∀ a ∈ l, a.In w := by
  obtain ⟨A, n, c, css, rfl, rfl, hn, hm, hr, hall⟩ := open_rows Try.underlying22 Try.cellsAct (by omega) hv h
  obtain ⟨l, rfl, hin⟩ := list_of_forms (f := ActP.cells) (p := fun a => a.In w) (l := css) (fun cs hcs => by
    obtain ⟨-, fuel, y, hy⟩ := hall cs hcs
    exact act_of_trod hy)
  refine ⟨A, c, l, by rw [List.length_map], ⟨by rw [List.length_map] at hn; omega, hm⟩, ?_, hin⟩
  rw [List.flatMap_def]; exact hr
end
end Go.Proofs.Yteccmklacgpodaa
