/-
  BotPlays: any match of two bots is what the chapter says; and just that is what the game tells of the inputs.
  No condition.
-/
import Derived.Deep.DeepHandedRow
import Derived.Lib.LaidTab
import Derived.SevenTiedAt
import Derived.Test.YtnaclkaapicelaaGreatMb2
import Derived.Test.YtnaclkaapicelaaGreatMBot8
import Derived.Test.YtnaclkaapicelaaGreatMa7
import Derived.Test.YtnaclkaapicelaaGreatMAw30
namespace Go.Proofs.YtnaclkaapicelaaGreat
open Go.RowKit Go.WideShapes Go.ChangeShapes
set_option maxRecDepth 100000
theorem plays_any (seed a b f : Int) (w : World) (hs : U32 seed) : Calls Tryz.prog 5 #[.int .u32 seed, .int .i64 a, .int .i64 b, .int .i64 f] w fun e w' => e = .returned (.bool true) ∧ Below w.heap.size w w' := by
  have hpr : PressR := fun S who skill w hok h1 h2 => rpress_ok S who skill w hok.m.fit hok.right h1 h2
  have hst : StepR := fun S n0 n1 w T M hok h0 h1 hTM => r12Step_any hok h0 h1 T M hTM
  have ha30 : Awake30 := fun w => awake30_any w
  by_cases h : 200 < f ∧ f ≤ 5000
  · exact plays_1 ha30 h
  · cases hb : (inB a 0 3 && (inB b 0 3 && inB f 0 5000)) with
    | false => exact plays_2 ha30 h hb
    | true =>
      unfold inB at hb
      simp only [Bool.and_eq_true, decide_eq_true_eq] at hb
      obtain ⟨h1, h2, h3⟩ := hb
      obtain ⟨N, rfl⟩ := Int.eq_ofNat_of_zero_le h3.1
      exact plays_3 ha30 hpr hst hs h1 h2 (by omega)
theorem own : ownKnob Tryz.prog.godebug = none := by kernel_rfl
theorem contract (H : Type) (enc : TypeId × Value → H) (W : World) (base : Nat) (args : Array Value) (ds gs : List (DataW H)) (before : List MemPlace)
    (hval : ∀ (j : Nat) t v, Tryz.f5.params[j]? = some t → args[j]? = some v → Value.okWide Tryz.prog W .any base t v)
    (hW : DataW.Whole enc Tryz.prog Tryz.f5.params.toList Rows.botPlaysSpec.vars false W args.toList ds gs before) (_hL : laidMetH Tryz.prog Rows.botPlaysRow.laid W) :
    Calls Tryz.prog 5 args W fun e W' => ∃ v, e = .returned v ∧ Rows.botPlaysSpec.post enc Tryz.prog Tryz.f5 false true false false W args v W' := by
  have hW0 := hW
  obtain ⟨p, q, hA, hV, rfl, -, -⟩ := hW
  rw [Tryz.params5] at hA hval
  obtain ⟨v0, vs0, d0, ds0, p0, q0, hargs, rfl, rfl, h0, r0⟩ := trodAll_cons hA
  obtain ⟨v1, vs1, d1, ds1, p1, q1, rfl, rfl, rfl, h1, r1⟩ := trodAll_cons r0
  obtain ⟨v2, vs2, d2, ds2, p2, q2, rfl, rfl, rfl, h2, r2⟩ := trodAll_cons r1
  obtain ⟨v3, vs3, d3, ds3, p3, q3, rfl, rfl, rfl, h3, r3⟩ := trodAll_cons r2
  obtain ⟨rfl, rfl, rfl⟩ := trodAll_nil r3
  obtain rfl : args = #[v0, v1, v2, v3] := by cases args; simp_all
  obtain ⟨rfl, rfl⟩ := trodVars_none hV
  obtain ⟨s, rfl, rfl, rfl, sw⟩ := open_int Tryz.underlying22 (hval 0 _ _ rfl rfl) h0
  obtain ⟨x, rfl, rfl, rfl, xw⟩ := open_int Tryz.underlying3 (hval 1 _ _ rfl rfl) h1
  obtain ⟨y, rfl, rfl, rfl, yw⟩ := open_int Tryz.underlying3 (hval 2 _ _ rfl rfl) h2
  obtain ⟨f, rfl, rfl, rfl, fw⟩ := open_int Tryz.underlying3 (hval 3 _ _ rfl rfl) h3
  refine (plays_any s x y f W (bounds_u32 sw)).mono fun e W' ⟨he, hb⟩ => ?_
  subst he
  exact ⟨_, rfl, law_post (by kernel_rfl) (by kernel_rfl) rfl Tryz.underlying4 rfl rfl hW0 hb⟩
theorem laid_met (os : Os) : laidMet Tryz.prog Rows.botPlaysRow.laid (((World.holding Tryz.prog os ⟨#[], #[], []⟩)).forCall (fun _ _ => 0) ⟨#[], #[.int .u32 0, .int .i64 0, .int .i64 0, .int .i64 0], []⟩).memory :=
  laidMet_of_run' 8 (by kernel_rfl) (by kernel_rfl)
theorem reads (os : Os) {H : Type} (enc : TypeId × Value → H) : ∃ places, DataW.whole enc Tryz.prog (((World.holding Tryz.prog os ⟨#[], #[], []⟩)).forCall (fun _ _ => 0) ⟨#[], #[.int .u32 0, .int .i64 0, .int .i64 0, .int .i64 0], []⟩).memory Tryz.f5.params.toList Rows.botPlaysSpec.vars false #[(.int .u32 0 : Value), .int .i64 0, .int .i64 0, .int .i64 0].toList 8 = some ([.lit (.int .u32 0), .lit (.int .i64 0), .lit (.int .i64 0), .lit (.int .i64 0)], [], places) :=
  ⟨[], by kernel_rfl⟩
set_option maxRecDepth 100000 in
theorem lifted (os : Os) (started : os.Started) (H : Type) (enc : TypeId × Value → H) (F : Stop.Interp) :
    ReturnsInHanded {} Tryz.checked os 5 .any ((OpenSpec.ofChange Rows.botPlaysSpec).preRow enc Tryz.prog Tryz.f5 Rows.botPlaysRow.domain false Rows.botPlaysRow.laid) (((OpenSpec.ofChange Rows.botPlaysSpec).at F).post enc Tryz.prog Tryz.f5 false true false false) := by
  obtain ⟨places, hx⟩ := reads os enc
  refine returnsInHanded_of_row (C := Tryz.checked) (s := (OpenSpec.ofChange Rows.botPlaysSpec)) own started (by kernel_rfl) Tryz.func5
    (witness_row_at (enc := enc) (C := Tryz.checked) false (World.holding Tryz.prog os ⟨#[], #[], []⟩) #[.int .u32 0, .int .i64 0, .int .i64 0, .int .i64 0] rfl (by kernel_rfl) (by kernel_rfl) (by kernel_rfl)
      (OpenSpec.preRow_of_cond 8 hx (by kernel_rfl) (fun k hk => by cases hk) (by kernel_rfl) (laid_met os))) ?_
  intro W base args ds gs before hval hW _ _ _ hL _ _
  exact contract H enc W base args ds gs before hval hW hL
theorem said : Rows.BotPlaysSaid :=
  OpenClaim.holds_of_cond 5 Tryz.f5 rfl rfl rfl rfl rfl rfl rfl ⟨rfl, rfl, rfl, rfl, rfl⟩ rfl rfl rfl rfl rfl (by kernel_rfl) Tryz.func5 (by kernel_rfl)
    (of_decide_eq_true (by kernel_rfl)) (by unfold Func.isWrapper; first | (rw [if_pos (by decide +kernel)]; kernel_rfl) | (rw [if_neg (by decide +kernel)]; exact ⟨rfl, rfl⟩))
    (fun os started H enc _ F => by rw [OpenClaim.pre_eq_preRow]; exact lifted os started H enc F)
end Go.Proofs.YtnaclkaapicelaaGreat
