/-
  A setup and moves that came in.
-/
import Derived.Test.YtlonefjbcooaaaaDoorScPt
namespace Go.Proofs.YtlonefjbcooaaaaDoor
open Go.RowKit Go.WideShapes Go.ChangeShapes
set_option maxRecDepth 100000
theorem bI64 {n : Int} (h : (Lit.int .i64 n).wf = true) : I64 n := by
  have : IntKind.i64.min ≤ n ∧ n ≤ IntKind.i64.max := by simpa [Lit.wf] using h
  exact this
theorem bU32 {n : Int} (h : (Lit.int .u32 n).wf = true) : 0 ≤ n ∧ n ≤ 4294967295 := by
  have : IntKind.u32.min ≤ n ∧ n ≤ IntKind.u32.max := by simpa [Lit.wf] using h
  exact this
theorem bU8 {n : Int} (h : (Lit.int .u8 n).wf = true) : 0 ≤ n ∧ n ≤ 255 := by
  have : IntKind.u8.min ≤ n ∧ n ≤ IntKind.u8.max := by simpa [Lit.wf] using h
  exact this
theorem setCells8 : Tryd.prog.cellsOf 27 = 8 := by kernel_rfl
theorem mvCells6 : Tryd.prog.cellsOf 40 = 6 := by kernel_rfl
section
variable {H : Type} {enc : TypeId × Value → H} {w : World} {held : Bool} {r : Reach} {b0 : Nat} {v : Value} {d : DataW H} {p : List MemPlace}
theorem open_setup (hv : Value.okWide Tryd.prog w r b0 27 v) (h : DataW.Trod enc Tryd.prog w 0 (fun _ => true) held 27 v d p) : ∃ s : Su, v = .agg s.cells.toArray ∧ s.Fits := by
  obtain ⟨cs, rfl, -⟩ := okWide_struct Tryd.underlying27 hv
  obtain ⟨fuel, hf⟩ := h
  obtain ⟨X, e1, e2, e3⟩ := trod_ints 100 27 _ set_kinds (by rw [setCells8]; rfl) fuel _ _ hf
  match X, e2 with
  | [a, b, c, e, f, g, i, j], _ =>
    refine ⟨⟨a, b, c, e, f, g, i, j⟩, ?_, ?_⟩
    · have : cs = (Su.cells ⟨a, b, c, e, f, g, i, j⟩).toArray := by
        apply Array.ext'
        rw [show (Value.agg cs).cells.toList = cs.toList from rfl] at e1
        rw [e1]
        rfl
      rw [this]
    · have h0 := bU32 (e3 0 .u32 a rfl rfl)
      exact ⟨h0.1, by have := h0.2; show a < 4294967296; omega, bI64 (e3 1 .i64 b rfl rfl), bI64 (e3 2 .i64 c rfl rfl), bI64 (e3 5 .i64 g rfl rfl), bI64 (e3 6 .i64 i rfl rfl), bI64 (e3 7 .i64 j rfl rfl)⟩
theorem open_moves (hv : Value.okWide Tryd.prog w r b0 28 v) (h : DataW.Trod enc Tryd.prog w 0 (fun _ => true) held 28 v d p) :
    ∃ (A : Option Addr) (c : Nat) (l : List Mo), v = .slice A l.length c ∧ (l.length ≤ c ∧ c ≤ maxLen) ∧ Rd w w.heap.size A (l.flatMap Mo.cells) ∧ ∀ m ∈ l, m.Fits := by
  obtain ⟨A, n, c, css, rfl, rfl, hn, hm, hr, hall⟩ := open_rows Tryd.underlying28 mvCells6 (by omega) hv h
  obtain ⟨l, rfl, hf⟩ := list_of_forms (f := Mo.cells) (p := Mo.Fits) (l := css) (fun cs hcs => by
    obtain ⟨-, fuel, y, hy⟩ := hall cs hcs
    obtain ⟨X, e1, e2, e3⟩ := trod_ints 100 40 _ mv_kinds (by rw [mvCells6]; rfl) fuel _ _ hy
    match X, e2 with
    | [a, b, c, e, f, g], _ =>
      have hf := bU8 (e3 4 .u8 f rfl rfl)
      have hg := bU8 (e3 5 .u8 g rfl rfl)
      exact ⟨⟨a, b, c, e, f, g⟩, e1, ⟨hf.1, by have := hf.2; show f < 256; omega, hg.1, by have := hg.2; show g < 256; omega, bI64 (e3 0 .i64 a rfl rfl), bI64 (e3 1 .i64 b rfl rfl), bI64 (e3 2 .i64 c rfl rfl), bI64 (e3 3 .i64 e rfl rfl)⟩⟩)
  refine ⟨A, c, l, by rw [List.length_map], ⟨by rw [List.length_map] at hn; omega, hm⟩, ?_, hf⟩
  rw [List.flatMap_def]; exact hr
end
end Go.Proofs.YtlonefjbcooaaaaDoor
