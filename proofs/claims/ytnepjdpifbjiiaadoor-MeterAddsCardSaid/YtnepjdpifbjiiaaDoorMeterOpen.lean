/-
  Outs that came in, with the sizes of their datagrams.
-/
import Derived.Test.YtnepjdpifbjiiaaDoorMeterPlain
import Derived.Test.YtnepjdpifbjiiaaDoorSized
namespace Go.Proofs.YtnepjdpifbjiiaaDoor
open Go.RowKit Go.WideShapes Go.ChangeShapes Go.ChangeAt
set_option maxRecDepth 100000
section
variable {H : Type} {enc : TypeId × Value → H} {w : World} {held : Bool}
theorem wt {P : Program} {ts : List TypeId} {ds : List (DataW H)} (h : (DataW.weightsEach P ts ds).all (· ≤ reachBytes) = true) {j : Nat} {t : TypeId} {d : DataW H} (ht : ts[j]? = some t) (hd : ds[j]? = some d) : ∀ n ∈ d.weights P t, n ≤ reachBytes := fun n hn => by
  have := List.all_eq_true.1 h _ (DataW.weights_mem_each ht hd n hn)
  simpa using this
theorem out_sized {fuel : Nat} {cs : List Value} {y : DataW H × List MemPlace} (h : DataW.trod enc Tryd.prog w 0 (fun _ => true) held fuel 31 cs = some y) : ∃ o : OutP, cs = o.cells ∧ o.In w w.heap.size ∧ ∀ s ∈ o.sends, s.size ∈ y.1.weights Tryd.prog 31 := by
  obtain ⟨xs, n, -, hy, hlen, hxl, hg⟩ := DataW.trod_struct Tryd.underlying31 h
  rw [Tryd.cellsOut] at hlen
  match cs, hlen with
  | [c0, c1, c2], _ =>
    simp only [List.size_toArray, List.length_cons, List.length_nil] at hxl
    match xs, hxl with
    | [y0, y1, y2], _ =>
      have k0 : DataW.trod enc Tryd.prog w 0 (fun _ => true) held n 28 ((List.drop 0 [c0, c1, c2]).take (Tryd.prog.cellsOf 28)) = some y0 := hg 0 _ rfl
      have k1 : DataW.trod enc Tryd.prog w 0 (fun _ => true) held n 29 ((List.drop 1 [c0, c1, c2]).take (Tryd.prog.cellsOf 29)) = some y1 := hg 1 _ rfl
      have k2 : DataW.trod enc Tryd.prog w 0 (fun _ => true) held n 4 ((List.drop 2 [c0, c1, c2]).take (Tryd.prog.cellsOf 4)) = some y2 := hg 2 _ rfl
      rw [Tryd.cellsCmds] at k0
      rw [Tryd.cellsStrs] at k1
      rw [Tryd.cellsBool] at k2
      obtain ⟨A0, n0, d0, css0, e0, rfl, hn0, hm0, hr0, hall0⟩ := rows_of_trod Tryd.underlying28 Tryd.cellsCmd (by omega) k0
      obtain ⟨A1, n1, d1, css1, e1, rfl, hn1, hm1, hr1, hall1⟩ := rows_sized Tryd.underlying29 Tryd.cellsStr (by omega) k1
      obtain ⟨a2, e2, -⟩ := DataW.trod_bool Tryd.underlying4 k2
      simp only [List.drop_zero, List.drop_succ_cons, List.take_succ_cons, List.take_zero, List.cons.injEq, and_true] at e0 e1 e2
      subst e0 e1 e2
      obtain ⟨l0, rfl, -⟩ := list_of_forms (f := CmdP.cells) (p := fun _ => True) (l := css0) (fun cs hcs => by
        obtain ⟨-, fuel, y, hy⟩ := hall0 cs hcs
        obtain ⟨c, hc, -⟩ := cmd_of_trod hy
        exact ⟨c, hc, trivial⟩)
      obtain ⟨l1, rfl, hs1⟩ := list_of_forms (f := fun s : ByteArray => [Value.string s]) (p := fun s => s.size ∈ y1.1.weights Tryd.prog 29) (l := css1) (fun cs hcs => by
        obtain ⟨-, fuel, y, hy, hw⟩ := hall1 cs hcs
        obtain ⟨s, hs, rfl, -⟩ := DataW.trod_string Tryd.underlying9 hy
        exact ⟨s, hs, hw _ (by simp [DataW.weights])⟩)
      refine ⟨⟨A0, d0, l0, A1, d1, l1, a2⟩, by simp [OutP.cells], ⟨by rw [List.flatMap_def]; exact hr0, ?_⟩, fun s hs => ?_⟩
      · rw [flat_one] at hr1
        exact hr1
      · rw [hy]
        simp only [DataW.weights, Tryd.underlying31]
        exact DataW.weights_mem_each (ts := [28, 29, 4]) (j := 1) rfl rfl _ (hs1 s hs)
theorem open_outsS {r : Reach} {b0 : Nat} {v : Value} {d : DataW H} {p : List MemPlace} (hw : ∀ n ∈ d.weights Tryd.prog 22, n ≤ reachBytes) (hv : Value.okWide Tryd.prog w r b0 22 v) (h : DataW.Trod enc Tryd.prog w 0 (fun _ => true) held 22 v d p) :
    ∃ (A : Option Addr) (c : Nat) (l : List OutP), v = .slice A l.length c ∧ (l.length ≤ c ∧ c ≤ maxLen) ∧ Rd w w.heap.size A (l.flatMap OutP.cells) ∧ ∀ o ∈ l, o.In w w.heap.size ∧ ∀ s ∈ o.sends, s.size ≤ 140737488355328 := by
  obtain ⟨A, n, c, css, rfl, rfl, hn, hm, hr, hall⟩ := open_sized Tryd.underlying22 Tryd.cellsOut (by omega) hv h
  obtain ⟨l, rfl, hin⟩ := list_of_forms (f := OutP.cells) (p := fun o => o.In w w.heap.size ∧ ∀ s ∈ o.sends, s.size ≤ 140737488355328) (l := css) (fun cs hcs => by
    obtain ⟨-, fuel, y, hy, hwy⟩ := hall cs hcs
    obtain ⟨o, h1, h2, h3⟩ := out_sized hy
    exact ⟨o, h1, h2, fun s hs => Nat.le_trans (hw _ (hwy _ (h3 s hs))) (by decide)⟩)
  refine ⟨A, c, l, by rw [List.length_map], ⟨by rw [List.length_map] at hn; omega, hm⟩, ?_, hin⟩
  rw [List.flatMap_def]; exact hr
end
end Go.Proofs.YtnepjdpifbjiiaaDoor
