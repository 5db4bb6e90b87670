/-
  GameSteps: from any state, by any inputs, the next state and the events are the document's, or it is told that they can't be.
  No condition.
-/
import Derived.Deep.DeepHandedRow
import Derived.Lib.LaidTab
import Derived.SevenTiedAt
import Derived.Test.YtnaclkaapicelaaGreatMSteps
import Derived.Test.YtnaclkaapicelaaGreatMa3
namespace Go.Proofs.YtnaclkaapicelaaGreat
open Go.RowKit Go.WideShapes Go.ChangeShapes
set_option maxRecDepth 100000
theorem okWide_pair {w : World} {r : Reach} {b0 : Nat} {v : Value} (h : Value.okWide Tryz.prog w r b0 34 v) : ∃ cs, v = .agg cs := by
  simp only [Value.okWide, Tryz.underlying34] at h
  obtain ⟨cs, h1, _⟩ := h
  exact ⟨cs, h1⟩
/-- Two inputs that came in. -/
theorem open_pair {H : Type} {enc : TypeId × Value → H} {w : World} {held : Bool} {r : Reach} {b0 : Nat} {v : Value} {d : DataW H} {p : List MemPlace} (hv : Value.okWide Tryz.prog w r b0 34 v) (h : DataW.Trod enc Tryz.prog w 0 (fun _ => true) held 34 v d p) : ∃ q : Nat × Nat, v = .agg #[.int .u8 q.1, .int .u8 q.2] ∧ q.1 < 256 ∧ q.2 < 256 := by
  obtain ⟨cs, rfl⟩ := okWide_pair hv
  obtain ⟨fuel, hf⟩ := h
  obtain ⟨X, e1, e2, e3⟩ := trod_ints 100 34 _ pb_kinds (by rw [Tryz.cellsPairB]; rfl) fuel _ _ hf
  match X, e2 with
  | [a, b], _ =>
    have ha := bounds_u8 (e3 0 .u8 a rfl rfl)
    have hb := bounds_u8 (e3 1 .u8 b rfl rfl)
    refine ⟨(a.toNat, b.toNat), ?_, by simp only; omega⟩
    have e : cs = #[Value.int .u8 a, .int .u8 b] := by
      have e1' : cs.toList = ivals [.u8, .u8] [a, b] := e1
      rw [← Array.toArray_toList (xs := cs), e1']
      rfl
    rw [e]
    simp only
    rw [Int.toNat_of_nonneg ha.1, Int.toNat_of_nonneg hb.1]
theorem steps_any (S : Nat → Int) (x y : Nat) (seed : Int) (w : World) (hf : FitS S) :
    Calls Tryz.prog 3 #[.agg (stCells S).toArray, .agg #[.int .u8 x, .int .u8 y], .int .u32 seed] w fun e w' => e = .returned (.bool true) ∧ Below w.heap.size w w' := by
  by_cases hE : stepE S x y = 0
  · obtain ⟨h0, h1⟩ := stepE_lt hE
    have hr : rightS S = true := by
      cases h : rightS S
      · rw [stepE_not h] at hE; cases hE
      · rfl
    have hok := StOk.of hf hr
    refine steps_good hok ?_ h0 h1
    have hfr := hok.m.fr
    unfold stepE at hE
    rw [if_neg (by rw [hr]; simp; omega)] at hE
    split at hE
    · cases hE
    · omega
  · exact steps_bad hE
theorem own : ownKnob Tryz.prog.godebug = none := by kernel_rfl
theorem contract (H : Type) (enc : TypeId × Value → H) (W : World) (base : Nat) (args : Array Value) (ds gs : List (DataW H)) (before : List MemPlace)
    (hval : ∀ (j : Nat) t v, Tryz.f3.params[j]? = some t → args[j]? = some v → Value.okWide Tryz.prog W .any base t v)
    (hW : DataW.Whole enc Tryz.prog Tryz.f3.params.toList Rows.gameStepsSpec.vars false W args.toList ds gs before) (_hL : laidMetH Tryz.prog Rows.gameStepsRow.laid W) :
    Calls Tryz.prog 3 args W fun e W' => ∃ v, e = .returned v ∧ Rows.gameStepsSpec.post enc Tryz.prog Tryz.f3 false true false false W args v W' := by
  have hW0 := hW
  obtain ⟨p, q, hA, hV, rfl, -, -⟩ := hW
  rw [Tryz.params3] at hA hval
  obtain ⟨v0, vs0, d0, ds0, p0, q0, hargs, rfl, rfl, h0, r0⟩ := trodAll_cons hA
  obtain ⟨v1, vs1, d1, ds1, p1, q1, rfl, rfl, rfl, h1, r1⟩ := trodAll_cons r0
  obtain ⟨v2, vs2, d2, ds2, p2, q2, rfl, rfl, rfl, h2, r2⟩ := trodAll_cons r1
  obtain ⟨rfl, rfl, rfl⟩ := trodAll_nil r2
  obtain rfl : args = #[v0, v1, v2] := by cases args; simp_all
  obtain ⟨rfl, rfl⟩ := trodVars_none hV
  obtain ⟨s, rfl, sf⟩ := open_state (hval 0 _ _ rfl rfl) h0
  obtain ⟨q, rfl, qf⟩ := open_pair (hval 1 _ _ rfl rfl) h1
  obtain ⟨z, rfl, rfl, rfl, zw⟩ := open_int Tryz.underlying22 (hval 2 _ _ rfl rfl) h2
  refine (steps_any s q.1 q.2 z W sf).mono fun e W' ⟨he, hb⟩ => ?_
  subst he
  exact ⟨_, rfl, law_post (by kernel_rfl) (by kernel_rfl) rfl Tryz.underlying4 rfl rfl hW0 hb⟩
theorem laid_met (os : Os) : laidMet Tryz.prog Rows.gameStepsRow.laid (((World.holding Tryz.prog os ⟨#[], #[], []⟩)).forCall (fun _ _ => 0) ⟨#[], #[witSt, .agg #[.int .u8 0, .int .u8 0], .int .u32 0], []⟩).memory :=
  laidMet_of_run' 8 (by kernel_rfl) (by kernel_rfl)
theorem reads (os : Os) {H : Type} (enc : TypeId × Value → H) : ∃ places, DataW.whole enc Tryz.prog (((World.holding Tryz.prog os ⟨#[], #[], []⟩)).forCall (fun _ _ => 0) ⟨#[], #[witSt, .agg #[.int .u8 0, .int .u8 0], .int .u32 0], []⟩).memory Tryz.f3.params.toList Rows.gameStepsSpec.vars false #[(witSt : Value), .agg #[.int .u8 0, .int .u8 0], .int .u32 0].toList 8 = some ([.agg [.lit (.int .i64 0), .lit (.int .u32 0), .lit (.int .i64 0), .lit (.int .i64 0), .agg [.agg [.agg [.lit (.int .i32 0), .lit (.int .i32 0)], .agg [.lit (.int .i32 0), .lit (.int .i32 0)], .lit (.int .i64 0), .lit (.int .i64 0), .lit (.int .i64 0), .lit (.int .i64 0), .lit (.int .i64 0), .lit (.int .i64 0)], .agg [.agg [.lit (.int .i32 0), .lit (.int .i32 0)], .agg [.lit (.int .i32 0), .lit (.int .i32 0)], .lit (.int .i64 0), .lit (.int .i64 0), .lit (.int .i64 0), .lit (.int .i64 0), .lit (.int .i64 0), .lit (.int .i64 0)]], .agg [.agg [.agg [.lit (.int .i32 0), .lit (.int .i32 0)], .agg [.lit (.int .i32 0), .lit (.int .i32 0)], .lit (.int .i64 0), .lit (.int .i64 0)], .agg [.agg [.lit (.int .i32 0), .lit (.int .i32 0)], .agg [.lit (.int .i32 0), .lit (.int .i32 0)], .lit (.int .i64 0), .lit (.int .i64 0)], .agg [.agg [.lit (.int .i32 0), .lit (.int .i32 0)], .agg [.lit (.int .i32 0), .lit (.int .i32 0)], .lit (.int .i64 0), .lit (.int .i64 0)], .agg [.agg [.lit (.int .i32 0), .lit (.int .i32 0)], .agg [.lit (.int .i32 0), .lit (.int .i32 0)], .lit (.int .i64 0), .lit (.int .i64 0)], .agg [.agg [.lit (.int .i32 0), .lit (.int .i32 0)], .agg [.lit (.int .i32 0), .lit (.int .i32 0)], .lit (.int .i64 0), .lit (.int .i64 0)], .agg [.agg [.lit (.int .i32 0), .lit (.int .i32 0)], .agg [.lit (.int .i32 0), .lit (.int .i32 0)], .lit (.int .i64 0), .lit (.int .i64 0)]]], .agg [.lit (.int .u8 0), .lit (.int .u8 0)], .lit (.int .u32 0)], [], places) :=
  ⟨[], by kernel_rfl⟩
set_option maxRecDepth 100000 in
theorem lifted (os : Os) (started : os.Started) (H : Type) (enc : TypeId × Value → H) (F : Stop.Interp) :
    ReturnsInHanded {} Tryz.checked os 3 .any ((OpenSpec.ofChange Rows.gameStepsSpec).preRow enc Tryz.prog Tryz.f3 Rows.gameStepsRow.domain false Rows.gameStepsRow.laid) (((OpenSpec.ofChange Rows.gameStepsSpec).at F).post enc Tryz.prog Tryz.f3 false true false false) := by
  obtain ⟨places, hx⟩ := reads os enc
  refine returnsInHanded_of_row (C := Tryz.checked) (s := (OpenSpec.ofChange Rows.gameStepsSpec)) own started (by kernel_rfl) Tryz.func3
    (witness_row_at (enc := enc) (C := Tryz.checked) false (World.holding Tryz.prog os ⟨#[], #[], []⟩) #[witSt, .agg #[.int .u8 0, .int .u8 0], .int .u32 0] rfl (by kernel_rfl) (by kernel_rfl) (by kernel_rfl)
      (OpenSpec.preRow_of_cond 8 hx (by kernel_rfl) (fun k hk => by cases hk) (by kernel_rfl) (laid_met os))) ?_
  intro W base args ds gs before hval hW _ _ _ hL _ _
  exact contract H enc W base args ds gs before hval hW hL
theorem said : Rows.GameStepsSaid :=
  OpenClaim.holds_of_cond 3 Tryz.f3 rfl rfl rfl rfl rfl rfl rfl ⟨rfl, rfl, rfl, rfl, rfl⟩ rfl rfl rfl rfl rfl (by kernel_rfl) Tryz.func3 (by kernel_rfl)
    (of_decide_eq_true (by kernel_rfl)) (by unfold Func.isWrapper; first | (rw [if_pos (by decide +kernel)]; kernel_rfl) | (rw [if_neg (by decide +kernel)]; exact ⟨rfl, rfl⟩))
    (fun os started H enc _ F => by rw [OpenClaim.pre_eq_preRow]; exact lifted os started H enc F)
end Go.Proofs.YtnaclkaapicelaaGreat
