/-
  PROVED HERE: promptbooklaw34.ReelBest answers true for every input, and leaves its arguments as they were.
  CONDITIONS: none beyond the row's own ('laid': the tables read as the program's text lays them; the card ties that).
-/
import Derived.Test.YtaegekfdbhmcaaaDoorRbW
import Derived.Test.YtaegekfdbhmcaaaDoorOpenInt
import Derived.Test.YtaegekfdbhmcaaaDoorCards
import Derived.Test.YtaegekfdbhmcaaaDoorTie
import Derived.Deep.DeepHandedRow
import Derived.Lib.LaidTab
import Derived.Stop.LaidErr
import Derived.SevenTiedAt
namespace Go.Proofs.YtaegekfdbhmcaaaDoor
open Go.RowKit Go.WideShapes Go.ChangeShapes Go.ChangeAt
set_option maxRecDepth 100000
theorem gPowT : (Tryd.prog.globals[1]?).map (·.type) = some 111 := by kernel_rfl
theorem cells20 : Tryd.prog.cellsOf 111 = 20 := by kernel_rfl
theorem cellsU64 : Tryd.prog.cellsOf 92 = 1 := by kernel_rfl
theorem gTab : Tryd.prog.globalNamed "promptbook/reel.weights" = some 0 := by kernel_rfl
theorem gTabType : (Tryd.prog.globals[0]?).map (·.type) = some 96 := by kernel_rfl
theorem cellsTab : Tryd.prog.cellsOf 96 = 10 := by kernel_rfl
theorem powData : (Rows.laid_internal_strconv_uint64pow10 : DataW Unit) = Lib.tabData .u64 Lib.pow10Tab := by kernel_rfl
theorem tables {W : World} (h : laidMetH Tryd.prog Rows.reelBestRow.laid W) : Weights W ∧ Tab W W.heap.size := by
  have h2 : laidMet Tryd.prog [("math/bits.deBruijn32tab", Rows.laid_math_bits_deBruijn32tab), ("math/bits.deBruijn64tab", Rows.laid_math_bits_deBruijn64tab), ("internal/strconv.uint64pow10", Rows.laid_internal_strconv_uint64pow10), ("promptbook/reel.weights", Rows.laid_promptbook_reel_weights)] W := h
  have h3 := h2.tail.tail
  have h4 := h3.tail
  rw [powData] at h3
  have ht : Lib.TabIs Tryd.prog W "internal/strconv.uint64pow10" .u64 Lib.pow10Tab :=
    Lib.tabIs_of_head gPow gPowT Tryd.underlying111 Tryd.underlying92 cellsU64 cells20 h3
  have hw : Lib.TabIs Tryd.prog W "promptbook/reel.weights" .i64 [0, 0, 3, 0, 2, 10, 0, 8, 0, 0] :=
    Lib.tabIs_of_head (rest := []) gTab gTabType Tryd.underlying96 Tryd.underlying3 Tryd.cellsInt cellsTab h4
  have hc : ∀ (i : Nat) (hi : i < 10), W.cell? ⟨0, i, none⟩ = some (.int .i64 ([0, 0, 3, 0, 2, 10, 0, 8, 0, 0].getD i 0)) := fun i hi => hw.cell gTab i hi
  refine ⟨⟨block_lt_of_cell (hc 0 (by omega)), hc 0 (by omega), hc 1 (by omega), hc 2 (by omega), hc 3 (by omega), hc 4 (by omega), hc 5 (by omega), hc 6 (by omega), hc 7 (by omega), hc 8 (by omega), hc 9 (by omega)⟩, ht, ?_⟩
  exact block_lt_of_cell (ht.cell gPow 0 (by rw [Lib.pow10Tab_length]; decide))
theorem cut_kinds : kindsOf Tryd.prog 100 48 = some [.i64, .i64, .i64] := by kernel_rfl
theorem cut_cells : Tryd.prog.cellsOf 48 = 3 := by kernel_rfl
section
variable {H : Type} {enc : TypeId × Value → H} {w : World} {held : Bool}
theorem open_cuts {r : Reach} {b0 : Nat} {v : Value} {d : DataW H} {p : List MemPlace} (hv : Value.okWide Tryd.prog w r b0 22 v) (h : DataW.Trod enc Tryd.prog w 0 (fun _ => true) held 22 v d p) :
    ∃ (A : Option Addr) (c : Nat) (l : List Cut), v = .slice A l.length c ∧ (l.length ≤ c ∧ c ≤ maxLen) ∧ Rd w w.heap.size A (l.flatMap Cut.cells) ∧ True := by
  obtain ⟨A, n, c, css, rfl, rfl, hn, hm, hr, hall⟩ := open_rows Tryd.underlying22 cut_cells (by omega) hv h
  obtain ⟨l, rfl, -⟩ := list_of_forms (f := Cut.cells) (p := fun _ => True) (l := css) (fun cs hcs => by
    obtain ⟨-, fuel, y, hy⟩ := hall cs hcs
    obtain ⟨X, e1, e2, -⟩ := trod_ints 100 48 _ cut_kinds (by rw [cut_cells]; rfl) fuel _ _ hy
    match X, e2 with
    | [a, b, c], _ => exact ⟨⟨a, b, c⟩, e1, trivial⟩)
  refine ⟨A, c, l, by rw [List.length_map], ⟨by rw [List.length_map] at hn; omega, hm⟩, ?_, trivial⟩
  rw [List.flatMap_def]; exact hr
end
theorem bounds_i64' {n : Int} (h : (Lit.int .i64 n).wf = true) : -9223372036854775808 ≤ n ∧ n ≤ 9223372036854775807 := by
  have : IntKind.i64.min ≤ n ∧ n ≤ IntKind.i64.max := by simpa [Lit.wf] using h
  exact this
/-- A world for the witness: the settled one, the tables holding what their initialisers lay. -/
noncomputable def laidWorld (os : Os) : World :=
  { World.holding Tryd.prog os ⟨#[], #[], []⟩ with heap := ((((((World.holding Tryd.prog os ⟨#[], #[], []⟩).heap).modify 2 (fun
      | .cells _ t frozen => .cells #[.int .u8 0, .int .u8 1, .int .u8 28, .int .u8 2, .int .u8 29, .int .u8 14, .int .u8 24, .int .u8 3, .int .u8 30, .int .u8 22, .int .u8 20, .int .u8 15, .int .u8 25, .int .u8 17, .int .u8 4, .int .u8 8, .int .u8 31, .int .u8 27, .int .u8 13, .int .u8 23, .int .u8 21, .int .u8 19, .int .u8 16, .int .u8 7, .int .u8 26, .int .u8 12, .int .u8 18, .int .u8 6, .int .u8 11, .int .u8 5, .int .u8 10, .int .u8 9] t frozen
      | o => o)).modify 3 (fun
      | .cells _ t frozen => .cells #[.int .u8 0, .int .u8 1, .int .u8 56, .int .u8 2, .int .u8 57, .int .u8 49, .int .u8 28, .int .u8 3, .int .u8 61, .int .u8 58, .int .u8 42, .int .u8 50, .int .u8 38, .int .u8 29, .int .u8 17, .int .u8 4, .int .u8 62, .int .u8 47, .int .u8 59, .int .u8 36, .int .u8 45, .int .u8 43, .int .u8 51, .int .u8 22, .int .u8 53, .int .u8 39, .int .u8 33, .int .u8 30, .int .u8 24, .int .u8 18, .int .u8 12, .int .u8 5, .int .u8 63, .int .u8 55, .int .u8 48, .int .u8 27, .int .u8 60, .int .u8 41, .int .u8 37, .int .u8 16, .int .u8 46, .int .u8 35, .int .u8 44, .int .u8 21, .int .u8 52, .int .u8 32, .int .u8 23, .int .u8 11, .int .u8 54, .int .u8 26, .int .u8 40, .int .u8 15, .int .u8 34, .int .u8 20, .int .u8 31, .int .u8 10, .int .u8 25, .int .u8 14, .int .u8 19, .int .u8 9, .int .u8 13, .int .u8 8, .int .u8 7, .int .u8 6] t frozen
      | o => o)).modify 1 (fun
      | .cells _ t frozen => .cells #[.int .u64 1, .int .u64 10, .int .u64 100, .int .u64 1000, .int .u64 10000, .int .u64 100000, .int .u64 1000000, .int .u64 10000000, .int .u64 100000000, .int .u64 1000000000, .int .u64 10000000000, .int .u64 100000000000, .int .u64 1000000000000, .int .u64 10000000000000, .int .u64 100000000000000, .int .u64 1000000000000000, .int .u64 10000000000000000, .int .u64 100000000000000000, .int .u64 1000000000000000000, .int .u64 10000000000000000000] t frozen
      | o => o)).modify 0 (fun
      | .cells _ t frozen => .cells #[.int .i64 0, .int .i64 0, .int .i64 3, .int .i64 0, .int .i64 2, .int .i64 10, .int .i64 0, .int .i64 8, .int .i64 0, .int .i64 0] t frozen
      | o => o)) }
theorem own : ownKnob Tryd.prog.godebug = none := by kernel_rfl
theorem contract (H : Type) (enc : TypeId × Value → H) (W : World) (base : Nat) (args : Array Value) (ds gs : List (DataW H)) (before : List MemPlace)
    (hval : ∀ (j : Nat) t v, Tryd.f3.params[j]? = some t → args[j]? = some v → Value.okWide Tryd.prog W .any base t v)
    (hW : DataW.Whole enc Tryd.prog Tryd.f3.params.toList Rows.reelBestSpec.vars false W args.toList ds gs before) (hL : laidMetH Tryd.prog Rows.reelBestRow.laid W) :
    Calls Tryd.prog 3 args W fun e W' => ∃ v, e = .returned v ∧ Rows.reelBestSpec.post enc Tryd.prog Tryd.f3 false true false false W args v W' := by
  have hW0 := hW
  obtain ⟨p, q, hA, hV, rfl, -, -⟩ := hW
  rw [Tryd.params3] at hA hval
  obtain ⟨v0, vs0, d0, ds0, p0, q0, hargs, rfl, rfl, h0, r0⟩ := trodAll_cons hA
  obtain ⟨v1, vs1, d1, ds1, p1, q1, rfl, rfl, rfl, h1, r1⟩ := trodAll_cons r0
  obtain ⟨v2, vs2, d2, ds2, p2, q2, rfl, rfl, rfl, h2, r2⟩ := trodAll_cons r1
  obtain ⟨rfl, rfl, rfl⟩ := trodAll_nil r2
  obtain rfl : args = #[v0, v1, v2] := by cases args; simp_all
  obtain ⟨rfl, rfl⟩ := trodVars_none hV
  obtain ⟨lA, lc, ll, rfl, ln, lr, lf⟩ := open_cuts (hval 0 _ _ rfl rfl) h0
  obtain ⟨f, rfl, rfl, rfl, fw⟩ := open_int Tryd.underlying3 (hval 1 _ _ rfl rfl) h1
  obtain ⟨q, rfl, rfl, rfl, qw⟩ := open_int Tryd.underlying3 (hval 2 _ _ rfl rfl) h2
  refine (best_all lA lc ll f q W (tables hL).1 (tables hL).2 ln lr (bounds_i64' fw).2).mono fun e W' ⟨he, hb⟩ => ?_
  subst he
  exact ⟨_, rfl, law_post (by kernel_rfl) (by kernel_rfl) rfl Tryd.underlying4 rfl rfl hW0 hb⟩
theorem laid_met (os : Os) : laidMet Tryd.prog Rows.reelBestRow.laid (((laidWorld os)).forCall (fun _ _ => 0) ⟨#[], #[.slice none 0 0, .int .i64 0, .int .i64 0], []⟩).memory :=
  laidMet_of_run' 8 (by kernel_rfl) (by kernel_rfl)
theorem reads (os : Os) {H : Type} (enc : TypeId × Value → H) : ∃ places, DataW.whole enc Tryd.prog (((laidWorld os)).forCall (fun _ _ => 0) ⟨#[], #[.slice none 0 0, .int .i64 0, .int .i64 0], []⟩).memory Tryd.f3.params.toList Rows.reelBestSpec.vars false #[(.slice none 0 0 : Value), .int .i64 0, .int .i64 0].toList 8 = some ([.nil, .lit (.int .i64 0), .lit (.int .i64 0)], [], places) :=
  ⟨[], by kernel_rfl⟩
set_option maxRecDepth 100000 in
theorem lifted (os : Os) (started : os.Started) (H : Type) (enc : TypeId × Value → H) (F : Stop.Interp) :
    ReturnsInHanded {} Tryd.checked os 3 .any ((OpenSpec.ofChange Rows.reelBestSpec).preRow enc Tryd.prog Tryd.f3 Rows.reelBestRow.domain false Rows.reelBestRow.laid) (((OpenSpec.ofChange Rows.reelBestSpec).at F).post enc Tryd.prog Tryd.f3 false true false false) := by
  obtain ⟨places, hx⟩ := reads os enc
  refine returnsInHanded_of_row (C := Tryd.checked) (s := (OpenSpec.ofChange Rows.reelBestSpec)) own started (by kernel_rfl) Tryd.func3
    (witness_row_at (enc := enc) (C := Tryd.checked) false (laidWorld os) #[.slice none 0 0, .int .i64 0, .int .i64 0] rfl (by kernel_rfl) (by kernel_rfl) (by kernel_rfl)
      (OpenSpec.preRow_of_cond 8 hx (by kernel_rfl) (fun k hk => by cases hk) (by kernel_rfl) (laid_met os))) ?_
  intro W base args ds gs before hval hW _ _ _ hL _ _
  exact contract H enc W base args ds gs before hval hW hL
theorem said : Rows.ReelBestSaid :=
  OpenClaim.holds_of_cond 3 Tryd.f3 rfl rfl rfl rfl rfl rfl rfl ⟨rfl, rfl, rfl, rfl, rfl⟩ rfl rfl rfl rfl rfl (by kernel_rfl) Tryd.func3 (by kernel_rfl)
    (of_decide_eq_true (by kernel_rfl)) (by unfold Func.isWrapper; first | (rw [if_pos (by decide +kernel)]; kernel_rfl) | (rw [if_neg (by decide +kernel)]; exact ⟨rfl, rfl⟩))
    (fun os started H enc _ F => by rw [OpenClaim.pre_eq_preRow]; exact lifted os started H enc F)
theorem plain (f : FuncId) (fn : Func) (hf : Tryd.pinned.checked.prog.funcNamed "promptbook/promptbooklaw34.ReelBest" = some f) (hfn : Tryd.pinned.checked.prog.funcs[f]? = some fn) :
    false = Tryd.pinned.checked.prog.looks [] ∧ ∀ (j : Nat) t, fn.params[j]? = some t → Tryd.pinned.checked.prog.wantsStandIn t = false := by
  obtain rfl : f = 3 := Option.some.inj ((show Tryd.prog.funcNamed "promptbook/promptbooklaw34.ReelBest" = some 3 by kernel_rfl).symm.trans hf) |>.symm
  obtain rfl : fn = Tryd.f3 := (Option.some.inj (Tryd.func3.symm.trans hfn)).symm
  refine ⟨by kernel_rfl, fun j t ht => ?_⟩
  rw [Tryd.params3] at ht
  have hm := Array.mem_of_getElem? ht
  simp only [List.mem_toArray, List.mem_cons, List.not_mem_nil, or_false] at hm
  have hall : ∀ x ∈ [22, 3], Tryd.prog.wantsStandIn x = false := by
    intro x hx
    simp only [List.mem_cons, List.not_mem_nil, or_false] at hx
    rcases hx with rfl | rfl
    · exact (show Tryd.prog.wantsStandIn 22 = false by kernel_rfl)
    · exact (show Tryd.prog.wantsStandIn 3 = false by kernel_rfl)
  refine hall t ?_
  rcases hm with rfl | rfl | rfl <;> simp
/-- ████ ReelBest ████ -/
theorem card : Rows.ReelBestCardSaid :=
  Claim7.holds_tied_plain_at .later [] _ _ _ _ said (fun _ h => by cases h) (by kernel_rfl) (fun _ h => by cases h) reelBest_row_tie rfl ⟨rfl, rfl⟩ (by kernel_rfl) rfl plain (by kernel_rfl)
end Go.Proofs.YtaegekfdbhmcaaaDoor
