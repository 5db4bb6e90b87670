/-
  A key, and a slice of keys, among the arguments.
-/
import Derived.Test.YtdjfpdndaobohaaEventPlain
import Derived.Test.YtdjfpdndaobohaaOpenInt
namespace Go.Proofs.Ytdjfpdndaobohaa
open Go.RowKit Go.WideShapes Go.ChangeShapes
set_option maxRecDepth 100000
theorem key_kinds4 : kindsOf Try.prog 100 23 = some [.i64, .i64, .i64, .i64] := by kernel_rfl
section
variable {H : Type} {enc : TypeId × Value → H} {w : World} {held : Bool}
theorem key_of_trod {fuel : Nat} {cs : List Value} {y : DataW H × List MemPlace} (h : DataW.trod enc Try.prog w 0 (fun _ => true) held fuel 23 cs = some y) : ∃ k : Key4, cs = k.cells := by
  obtain ⟨X, e1, e2, -⟩ := trod_ints 100 23 _ key_kinds4 (by rw [Try.cellsKey]; rfl) fuel _ _ h
  match X, e2 with
  | [a, b, c, d], _ => exact ⟨⟨a, b, c, d⟩, e1⟩
theorem open_key {r : Reach} {b0 : Nat} {v : Value} {d : DataW H} {p : List MemPlace} (hv : Value.okWide Try.prog w r b0 23 v) (h : DataW.Trod enc Try.prog w 0 (fun _ => true) held 23 v d p) :
    ∃ k : Key4, v = k.val ∧ True := by
  obtain ⟨cs, rfl, -⟩ := okWide_struct Try.underlying23 hv
  obtain ⟨fuel, hf⟩ := h
  obtain ⟨k, hk⟩ := key_of_trod hf
  refine ⟨k, ?_, trivial⟩
  have : cs.toList = k.cells := hk
  rw [Key4.val, ← Array.toArray_toList (xs := cs), this]
  rfl
theorem open_keys {r : Reach} {b0 : Nat} {v : Value} {d : DataW H} {p : List MemPlace} (hv : Value.okWide Try.prog w r b0 48 v) (h : DataW.Trod enc Try.prog w 0 (fun _ => true) held 48 v d p) :
    ∃ (A : Option Addr) (c : Nat) (l : List Key4), v = .slice A l.length c ∧ (l.length ≤ c ∧ c ≤ maxLen) ∧ Rd w w.heap.size A (l.flatMap Key4.cells) ∧ True := by
  obtain ⟨A, n, c, css, rfl, rfl, hn, hm, hr, hall⟩ := open_rows Try.underlying48 Try.cellsKey (by omega) hv h
  obtain ⟨l, rfl, -⟩ := list_of_forms (f := Key4.cells) (p := fun _ => True) (l := css) (fun cs hcs => by
    obtain ⟨-, fuel, y, hy⟩ := hall cs hcs
    obtain ⟨k, hk⟩ := key_of_trod hy
    exact ⟨k, hk, trivial⟩)
  refine ⟨A, c, l, by rw [List.length_map], ⟨by rw [List.length_map] at hn; omega, hm⟩, ?_, trivial⟩
  rw [List.flatMap_def]; exact hr
end
end Go.Proofs.Ytdjfpdndaobohaa
