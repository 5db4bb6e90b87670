/-
  The chapter's example (awake), and samples among the arguments.
-/
import Derived.Test.YtmggnadhjgadnaaWaveWrite
import Derived.Test.YtmggnadhjgadnaaRows
namespace Go.Proofs.Ytmggnadhjgadnaa
open Go.RowKit Go.WideShapes Go.ChangeShapes
set_option maxRecDepth 100000

def I64 (n : Int) : Prop := -9223372036854775808 ≤ n ∧ n ≤ 9223372036854775807
theorem bd_of_wf {n : Int} (h : (Lit.int .i64 n).wf = true) : I64 n := bounds_i64 h
def Pr.Fit (p : Pr) : Prop := I64 p.x ∧ I64 p.y
section
variable {H : Type} {enc : TypeId × Value → H} {w : World} {spare : Nat → Bool} {held : Bool}
theorem Try.cellsPair : Try.prog.cellsOf 24 = 2 := by kernel_rfl
theorem Try.cellsInt : Try.prog.cellsOf 3 = 1 := by kernel_rfl
theorem pr_of_trod {fuel : Nat} {cs : List Value} {y : DataW H × List MemPlace} (h : DataW.trod enc Try.prog w 0 spare held fuel 24 cs = some y) : ∃ p : Pr, cs = p.cells ∧ p.Fit := by
  obtain ⟨xs, n, -, -, hlen, hxl, hg⟩ := DataW.trod_array Try.underlying24 h
  rw [Try.cellsPair] at hlen
  match cs, hlen with
  | [c0, c1], _ =>
    match xs, hxl with
    | [y0, y1], _ =>
      have k0 : DataW.trod enc Try.prog w 0 spare held n 3 ((List.drop (0 * Try.prog.cellsOf 3) [c0, c1]).take (Try.prog.cellsOf 3)) = some y0 := hg 0 (by decide)
      have k1 : DataW.trod enc Try.prog w 0 spare held n 3 ((List.drop (1 * Try.prog.cellsOf 3) [c0, c1]).take (Try.prog.cellsOf 3)) = some y1 := hg 1 (by decide)
      rw [Try.cellsInt] at k0 k1
      obtain ⟨a0, e0, -, w0⟩ := DataW.trod_int Try.underlying3 k0
      obtain ⟨a1, e1, -, w1⟩ := DataW.trod_int Try.underlying3 k1
      simp only [Nat.zero_mul, Nat.one_mul, List.drop_zero, List.drop_succ_cons, List.take_succ_cons, List.take_zero, List.cons.injEq, and_true] at e0 e1
      subst e0 e1
      exact ⟨⟨a0, a1⟩, rfl, bd_of_wf w0, bd_of_wf w1⟩
theorem open_pairs {r : Reach} {b0 : Nat} {v : Value} {d : DataW H} {p : List MemPlace} (hv : Value.okWide Try.prog w r b0 22 v) (h : DataW.Trod enc Try.prog w 0 (fun _ => true) held 22 v d p) :
    ∃ (A : Option Addr) (c : Nat) (l : List Pr), v = .slice A l.length c ∧ (l.length ≤ c ∧ c ≤ maxLen) ∧ Rd w w.heap.size A (l.flatMap Pr.cells) ∧ ∀ e ∈ l, e.Fit := by
  obtain ⟨A, n, c, css, rfl, rfl, hn, hm, hr, hall⟩ := open_rows Try.underlying22 Try.cellsPair (by omega) hv h
  obtain ⟨l, rfl, hfit⟩ := list_of_forms (f := Pr.cells) (p := Pr.Fit) (l := css) (fun cs hcs => by
    obtain ⟨-, fuel, y, hy⟩ := hall cs hcs
    exact pr_of_trod hy)
  refine ⟨A, c, l, by rw [List.length_map], ⟨by rw [List.length_map] at hn; omega, hm⟩, ?_, hfit⟩
  rw [List.flatMap_def]; exact hr
end

theorem file0 : fileL [⟨1, -1⟩, ⟨0, 0⟩] 8000 = [82, 73, 70, 70, 44, 0, 0, 0, 87, 65, 86, 69, 102, 109, 116, 32, 16, 0, 0, 0, 1, 0, 2, 0, 64, 31, 0, 0, 0, 125, 0, 0, 4, 0, 16, 0, 100, 97, 116, 97, 8, 0, 0, 0, 1, 0, 255, 255, 0, 0, 0, 0] := by decide +kernel
theorem fit0 : fitB [⟨1, -1⟩, ⟨0, 0⟩] 8000 = true := by decide +kernel

set_option maxHeartbeats 1000000 in
theorem awake_any (w : World) : Calls Try.prog 6 #[] w fun e w' => e = .returned (.bool true) ∧ Below w.heap.size w w' := by
  go_enter Try.func6, Try.ntmps6
  go_wp2_with fail
  refine (write_ok (some ⟨w.heap.size, 0, none⟩) 2 [⟨1, -1⟩, ⟨0, 0⟩] 8000 _ (by decide) (rd_new w #[.int .i64 1, .int .i64 (-1), .int .i64 0, .int .i64 0] 24 _ rfl _ (by simp)) fit0).mono ?_
  rw [file0]
  rintro e w1 ⟨rfl, hb1⟩
  unfold str
  go_wp2
  go_ret
  refine ⟨ret_bool ?_, ((Below.refl _ _).alloc (Nat.le_refl _) _).trans (hb1.mono (by simp))⟩
  rw [ByteArray.toList_eq]
  decide +kernel
end Go.Proofs.Ytmggnadhjgadnaa
