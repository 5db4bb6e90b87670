/-
  A state, and inputs, among the arguments.
-/
import Derived.Test.YtnaclkaapicelaaOpenInt
import Derived.Test.YtnaclkaapicelaaGameR
import Derived.Test.YtnaclkaapicelaaEv
namespace Go.Proofs.Ytnaclkaapicelaa
open Go.RowKit Go.WideShapes Go.ChangeShapes
set_option maxRecDepth 100000
theorem st_kinds : kindsOf Try.prog 100 33 = some (rowOf 60 kdS) := by kernel_rfl
theorem pb_kinds : kindsOf Try.prog 100 41 = some [.u8, .u8] := by kernel_rfl
theorem Try.cellsState : Try.prog.cellsOf 33 = 60 := by kernel_rfl
theorem Try.cellsPairB : Try.prog.cellsOf 41 = 2 := by kernel_rfl
theorem ivals_row (kd : Nat → IntKind) (n : Nat) (X : List Int) (h : X.length = n) : ivals (rowOf n kd) X = rowOf n fun i => Value.int (kd i) (X.getD i 0) := by
  subst h
  apply List.ext_getElem
  · simp [ivals, rowOf]
  · intro i h1 h2
    simp [ivals, rowOf] at h1 h2 ⊢
    rw [List.getElem?_eq_getElem h1]; simp
/-- A state for a witness. -/
def witSt : Value := .agg (stCells fun _ => 0).toArray
def pbCells (p : Nat × Nat) : List Value := [.int .u8 p.1, .int .u8 p.2]
theorem pbCells_length (p : Nat × Nat) : (pbCells p).length = 2 := rfl
theorem bounds_u8 {n : Int} (h : (Lit.int .u8 n).wf = true) : 0 ≤ n ∧ n ≤ 255 := by
  have : IntKind.u8.min ≤ n ∧ n ≤ IntKind.u8.max := by simpa [Lit.wf] using h
  exact this
section
variable {H : Type} {enc : TypeId × Value → H} {w : World} {held : Bool} {r : Reach} {b0 : Nat} {v : Value} {d : DataW H} {p : List MemPlace}
/-- A state that came in. -/
theorem open_state (hv : Value.okWide Try.prog w r b0 33 v) (h : DataW.Trod enc Try.prog w 0 (fun _ => true) held 33 v d p) : ∃ S : Nat → Int, v = .agg (stCells S).toArray ∧ FitS S := by
  obtain ⟨cs, rfl, -⟩ := okWide_struct Try.underlying33 hv
  obtain ⟨fuel, hf⟩ := h
  obtain ⟨X, e1, e2, e3⟩ := trod_ints 100 33 _ st_kinds (by rw [Try.cellsState, rowOf_length]) fuel _ _ hf
  rw [rowOf_length] at e2
  rw [ivals_row _ _ _ e2] at e1
  refine ⟨fun i => X.getD i 0, ?_, fun i hi => ?_⟩
  · have : cs = (stCells fun i => X.getD i 0).toArray := by
      apply Array.ext'
      rw [List.toList_toArray]
      exact e1
    rw [this]
  · refine e3 i _ _ (by simp [rowOf, hi]) ?_
    show X[i]? = some (X.getD i 0)
    rw [List.getD_eq_getElem?_getD, List.getElem?_eq_getElem (by omega)]; rfl
/-- Inputs that came in. -/
theorem open_ins (hv : Value.okWide Try.prog w r b0 34 v) (h : DataW.Trod enc Try.prog w 0 (fun _ => true) held 34 v d p) :
    ∃ (A : Option Addr) (c : Nat) (l : List (Nat × Nat)), v = .slice A l.length c ∧ (l.length ≤ c ∧ c ≤ maxLen) ∧ Rd w w.heap.size A (l.flatMap pbCells) ∧ ∀ q ∈ l, q.1 < 256 ∧ q.2 < 256 := by
  obtain ⟨A, n, c, css, rfl, rfl, hn, hm, hr, hall⟩ := open_rows Try.underlying34 Try.cellsPairB (by omega) hv h
  obtain ⟨l, rfl, hfit⟩ := list_of_forms (f := pbCells) (p := fun q => q.1 < 256 ∧ q.2 < 256) (l := css) (fun cs hcs => by
    obtain ⟨-, fuel, y, hy⟩ := hall cs hcs
    obtain ⟨X, e1, e2, e3⟩ := trod_ints 100 41 _ pb_kinds (by rw [Try.cellsPairB]; rfl) fuel _ _ hy
    match X, e2 with
    | [a, b], _ =>
      have ha := bounds_u8 (e3 0 .u8 a rfl rfl)
      have hb := bounds_u8 (e3 1 .u8 b rfl rfl)
      refine ⟨(a.toNat, b.toNat), ?_, by simp only; omega⟩
      rw [e1]
      unfold pbCells ivals
      simp only [List.zipWith_cons_cons, List.zipWith_nil_left]
      rw [Int.toNat_of_nonneg ha.1, Int.toNat_of_nonneg hb.1])
  refine ⟨A, c, l, by rw [List.length_map], ⟨by rw [List.length_map] at hn; omega, hm⟩, ?_, hfit⟩
  rw [List.flatMap_def]; exact hr
end
end Go.Proofs.Ytnaclkaapicelaa
