/-
  An event as plain data.
-/
import Derived.Test.YtaegekfdbhmcaaaDoorOwn
import Derived.Test.YtaegekfdbhmcaaaDoorRows
namespace Go.Proofs.YtaegekfdbhmcaaaDoor
open Go.RowKit Go.WideShapes Go.ChangeShapes
set_option maxRecDepth 100000

structure Ev where
  frame : Int
  emitter : Int
  kind : Int
  ord : Int
  asset : Int
  gain : Int
  pan : Int
  prio : Int
  len : Int
def Ev.cells (e : Ev) : List Value := [.int .i64 e.frame, .int .i64 e.emitter, .int .i64 e.kind, .int .i64 e.ord, .int .i64 e.asset, .int .i64 e.gain, .int .i64 e.pan, .int .i64 e.prio, .int .i64 e.len]
theorem Ev.cells_length (e : Ev) : e.cells.length = 9 := rfl
def I64 (n : Int) : Prop := -9223372036854775808 ≤ n ∧ n ≤ 9223372036854775807
structure Ev.Fit (e : Ev) : Prop where
  frame : I64 e.frame
  emitter : I64 e.emitter
  kind : I64 e.kind
  ord : I64 e.ord
  asset : I64 e.asset
  gain : I64 e.gain
  pan : I64 e.pan
  prio : I64 e.prio
  len : I64 e.len
def EvAt (w : World) (b o : Nat) (e : Ev) : Prop :=
  w.cell? ⟨b, o, none⟩ = some (.int .i64 e.frame) ∧ w.cell? ⟨b, o + 1, none⟩ = some (.int .i64 e.emitter) ∧ w.cell? ⟨b, o + 2, none⟩ = some (.int .i64 e.kind) ∧ w.cell? ⟨b, o + 3, none⟩ = some (.int .i64 e.ord) ∧
  w.cell? ⟨b, o + 4, none⟩ = some (.int .i64 e.asset) ∧ w.cell? ⟨b, o + 5, none⟩ = some (.int .i64 e.gain) ∧ w.cell? ⟨b, o + 6, none⟩ = some (.int .i64 e.pan) ∧ w.cell? ⟨b, o + 7, none⟩ = some (.int .i64 e.prio) ∧
  w.cell? ⟨b, o + 8, none⟩ = some (.int .i64 e.len)
theorem Rd.ev {w : World} {B : Nat} {A : Option Addr} {l : List Ev} (h : Rd w B A (l.flatMap Ev.cells)) {k : Nat} (hk : k < l.length) :
    ∃ b off, A = some ⟨b, off, none⟩ ∧ b < B ∧ EvAt w b (off + k * 9) l[k] := by
  obtain ⟨b, off, hA, hb, hat⟩ := h.at_ Ev.cells_length (by omega) hk
  exact ⟨b, off, hA, hb, hat 0 _ rfl, hat 1 _ rfl, hat 2 _ rfl, hat 3 _ rfl, hat 4 _ rfl, hat 5 _ rfl, hat 6 _ rfl, hat 7 _ rfl, hat 8 _ rfl⟩

theorem bd_of_wf {n : Int} (h : (Lit.int .i64 n).wf = true) : I64 n := bounds_i64 h

section
variable {H : Type} {enc : TypeId × Value → H} {w : World} {spare : Nat → Bool} {held : Bool}
theorem Tryd.cellsKey : Tryd.prog.cellsOf 43 = 4 := by kernel_rfl
theorem Tryd.cellsEv : Tryd.prog.cellsOf 45 = 9 := by kernel_rfl
theorem Tryd.cellsInt : Tryd.prog.cellsOf 3 = 1 := by kernel_rfl
/-- The nine cells of an event that reads. -/
theorem ev_of_trod {fuel : Nat} {cs : List Value} {y : DataW H × List MemPlace} (h : DataW.trod enc Tryd.prog w 0 spare held fuel 45 cs = some y) : ∃ e : Ev, cs = e.cells ∧ e.Fit := by
  obtain ⟨xs, n, -, -, hlen, hxl, hg⟩ := DataW.trod_struct Tryd.underlying45 h
  rw [Tryd.cellsEv] at hlen
  match cs, hlen with
  | [c0, c1, c2, c3, c4, c5, c6, c7, c8], _ =>
    simp only [List.size_toArray, List.length_cons, List.length_nil] at hxl
    match xs, hxl with
    | [y0, y1, y2, y3, y4, y5], _ =>
      have k0 : DataW.trod enc Tryd.prog w 0 spare held n 43 ((List.drop 0 [c0, c1, c2, c3, c4, c5, c6, c7, c8]).take (Tryd.prog.cellsOf 43)) = some y0 := hg 0 _ rfl
      rw [Tryd.cellsKey] at k0
      have k1 : DataW.trod enc Tryd.prog w 0 spare held n 3 ((List.drop 4 [c0, c1, c2, c3, c4, c5, c6, c7, c8]).take (Tryd.prog.cellsOf 3)) = some y1 := hg 1 _ rfl
      rw [Tryd.cellsInt] at k1
      have k2 : DataW.trod enc Tryd.prog w 0 spare held n 3 ((List.drop 5 [c0, c1, c2, c3, c4, c5, c6, c7, c8]).take (Tryd.prog.cellsOf 3)) = some y2 := hg 2 _ rfl
      rw [Tryd.cellsInt] at k2
      have k3 : DataW.trod enc Tryd.prog w 0 spare held n 3 ((List.drop 6 [c0, c1, c2, c3, c4, c5, c6, c7, c8]).take (Tryd.prog.cellsOf 3)) = some y3 := hg 3 _ rfl
      rw [Tryd.cellsInt] at k3
      have k4 : DataW.trod enc Tryd.prog w 0 spare held n 3 ((List.drop 7 [c0, c1, c2, c3, c4, c5, c6, c7, c8]).take (Tryd.prog.cellsOf 3)) = some y4 := hg 4 _ rfl
      rw [Tryd.cellsInt] at k4
      have k5 : DataW.trod enc Tryd.prog w 0 spare held n 3 ((List.drop 8 [c0, c1, c2, c3, c4, c5, c6, c7, c8]).take (Tryd.prog.cellsOf 3)) = some y5 := hg 5 _ rfl
      rw [Tryd.cellsInt] at k5
      obtain ⟨xs', n', -, -, -, hxl', hg'⟩ := DataW.trod_struct Tryd.underlying43 k0
      simp only [List.size_toArray, List.length_cons, List.length_nil] at hxl'
      match xs', hxl' with
      | [z0, z1, z2, z3], _ =>
        have j0 : DataW.trod enc Tryd.prog w 0 spare held n' 3 ((List.drop 0 [c0, c1, c2, c3]).take (Tryd.prog.cellsOf 3)) = some z0 := hg' 0 _ rfl
        rw [Tryd.cellsInt] at j0
        have j1 : DataW.trod enc Tryd.prog w 0 spare held n' 3 ((List.drop 1 [c0, c1, c2, c3]).take (Tryd.prog.cellsOf 3)) = some z1 := hg' 1 _ rfl
        rw [Tryd.cellsInt] at j1
        have j2 : DataW.trod enc Tryd.prog w 0 spare held n' 3 ((List.drop 2 [c0, c1, c2, c3]).take (Tryd.prog.cellsOf 3)) = some z2 := hg' 2 _ rfl
        rw [Tryd.cellsInt] at j2
        have j3 : DataW.trod enc Tryd.prog w 0 spare held n' 3 ((List.drop 3 [c0, c1, c2, c3]).take (Tryd.prog.cellsOf 3)) = some z3 := hg' 3 _ rfl
        rw [Tryd.cellsInt] at j3
        obtain ⟨a0, e0, -, w0⟩ := DataW.trod_int Tryd.underlying3 j0
        obtain ⟨a1, e1, -, w1⟩ := DataW.trod_int Tryd.underlying3 j1
        obtain ⟨a2, e2, -, w2⟩ := DataW.trod_int Tryd.underlying3 j2
        obtain ⟨a3, e3, -, w3⟩ := DataW.trod_int Tryd.underlying3 j3
        obtain ⟨a4, e4, -, w4⟩ := DataW.trod_int Tryd.underlying3 k1
        obtain ⟨a5, e5, -, w5⟩ := DataW.trod_int Tryd.underlying3 k2
        obtain ⟨a6, e6, -, w6⟩ := DataW.trod_int Tryd.underlying3 k3
        obtain ⟨a7, e7, -, w7⟩ := DataW.trod_int Tryd.underlying3 k4
        obtain ⟨a8, e8, -, w8⟩ := DataW.trod_int Tryd.underlying3 k5
        simp only [List.drop_zero, List.drop_succ_cons, List.take_succ_cons, List.take_zero, List.cons.injEq, and_true] at e0 e1 e2 e3 e4 e5 e6 e7 e8
        subst e0 e1 e2 e3 e4 e5 e6 e7 e8
        exact ⟨⟨a0, a1, a2, a3, a4, a5, a6, a7, a8⟩, rfl, bd_of_wf w0, bd_of_wf w1, bd_of_wf w2, bd_of_wf w3, bd_of_wf w4, bd_of_wf w5, bd_of_wf w6, bd_of_wf w7, bd_of_wf w8⟩
end
end Go.Proofs.YtaegekfdbhmcaaaDoor
