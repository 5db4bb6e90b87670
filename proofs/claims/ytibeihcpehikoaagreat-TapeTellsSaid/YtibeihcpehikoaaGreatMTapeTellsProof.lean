/-
  TapeTells: a tape that is right packs and plays; the document answers alike.
  No condition.
-/
import Derived.Deep.DeepHandedRow
import Derived.Lib.LaidTab
import Derived.SevenTiedAt
import Derived.ChangeAt
import Derived.Test.YtibeihcpehikoaaGreatNz4
import Derived.Test.YtibeihcpehikoaaGreatNy3
import Derived.Test.YtibeihcpehikoaaGreatChecked
namespace Go.Proofs.YtibeihcpehikoaaGreat
section
set_option maxHeartbeats 20000000
open Go.RowKit Go.WideShapes Go.ChangeShapes Go.ChangeAt
set_option maxRecDepth 100000
theorem own : ownKnob Tryz.prog.godebug = none := by kernel_rfl
theorem contract (H : Type) (enc : TypeId × Value → H) (W : World) (base : Nat) (args : Array Value) (ds gs : List (DataW H)) (before : List MemPlace)
  (hval : ∀ (j : Nat) t v, Tryz.f6.params[j]? = some t → args[j]? = some v → Value.okWide Tryz.prog W .any base t v)
  (hW : DataW.Whole enc Tryz.prog Tryz.f6.params.toList Rows.tapeTellsSpec.vars false W args.toList ds gs before) (_hL : laidMetH Tryz.prog Rows.tapeTellsRow.laid W) :
  Calls Tryz.prog 6 args W fun e W' => ∃ v, e = .returned v ∧ Rows.tapeTellsSpec.post enc Tryz.prog Tryz.f6 false true false false W args v W' := by
 have hW0 := hW
 obtain ⟨p, q, hA, hV, rfl, -, -⟩ := hW
 rw [Tryz.params6] at hA hval
 obtain ⟨v0, vs0, d0, ds0, p0, q0, hargs, rfl, rfl, h0, r0⟩ := trodAll_cons hA
 obtain ⟨rfl, rfl, rfl⟩ := trodAll_nil r0
 obtain rfl : args = #[v0] := by cases args; simp_all
 obtain ⟨rfl, rfl⟩ := trodVars_none hV
 obtain ⟨ts, td, tx, ty, tm, tA, tB, tc, te, ta, tb, rfl, t1, t2, t3, t4, t5, t6⟩ := open_tape (hval 0 _ _ rfl rfl) h0
 refine (tells_any step_is ts td tx ty tm tA tB tc te ta tb W t1 t2 t3.1 t4.1 ⟨Nat.le_trans t3.1 (Nat.le_trans t3.2 (by simp [maxLen])), Nat.le_trans t4.1 (Nat.le_trans t4.2 (by simp [maxLen]))⟩ t5 t6).mono fun e W' ⟨he, hb⟩ => ?_
 subst he
 exact ⟨_, rfl, law_post (by kernel_rfl) (by kernel_rfl) rfl Tryz.underlying4 rfl rfl hW0 hb⟩
theorem laid_met (os : Os) : laidMet Tryz.prog Rows.tapeTellsRow.laid (((World.holding Tryz.prog os ⟨#[], #[], []⟩)).forCall (fun _ _ => 0) ⟨#[], #[.agg #[.int .u32 0, .int .i64 0, .int .i64 0, .int .i64 0, .slice none 0 0, .slice none 0 0, .int .u32 0]], []⟩).memory :=
 laidMet_of_run' 8 (by kernel_rfl) (by kernel_rfl)
theorem reads (os : Os) {H : Type} (enc : TypeId × Value → H) : ∃ places, DataW.whole enc Tryz.prog (((World.holding Tryz.prog os ⟨#[], #[], []⟩)).forCall (fun _ _ => 0) ⟨#[], #[.agg #[.int .u32 0, .int .i64 0, .int .i64 0, .int .i64 0, .slice none 0 0, .slice none 0 0, .int .u32 0]], []⟩).memory Tryz.f6.params.toList Rows.tapeTellsSpec.vars false #[(.agg #[.int .u32 0, .int .i64 0, .int .i64 0, .int .i64 0, .slice none 0 0, .slice none 0 0, .int .u32 0] : Value)].toList 8 = some ([.agg [.agg [.lit (.int .u32 0), .lit (.int .i64 0), .lit (.int .i64 0), .lit (.int .i64 0)], .nil, .nil, .lit (.int .u32 0)]], [], places) :=
 ⟨[], by kernel_rfl⟩
set_option maxRecDepth 100000 in
theorem lifted (os : Os) (started : os.Started) (H : Type) (enc : TypeId × Value → H) (F : Stop.Interp) :
  ReturnsInHanded {} Tryz.checked os 6 .any ((OpenSpec.ofChange Rows.tapeTellsSpec).preRow enc Tryz.prog Tryz.f6 Rows.tapeTellsRow.domain false Rows.tapeTellsRow.laid) (((OpenSpec.ofChange Rows.tapeTellsSpec).at F).post enc Tryz.prog Tryz.f6 false true false false) := by
 obtain ⟨places, hx⟩ := reads os enc
 refine returnsInHanded_of_row (C := Tryz.checked) (s := (OpenSpec.ofChange Rows.tapeTellsSpec)) own started (by kernel_rfl) Tryz.func6
  (witness_row_at (enc := enc) (C := Tryz.checked) false (World.holding Tryz.prog os ⟨#[], #[], []⟩) #[.agg #[.int .u32 0, .int .i64 0, .int .i64 0, .int .i64 0, .slice none 0 0, .slice none 0 0, .int .u32 0]] rfl (by kernel_rfl) (by kernel_rfl) (by kernel_rfl)
   (OpenSpec.preRow_of_cond 8 hx (by kernel_rfl) (fun k hk => by cases hk) (by kernel_rfl) (laid_met os))) ?_
 intro W base args ds gs before hval hW _ _ _ hL _ _
 exact contract H enc W base args ds gs before hval hW hL
theorem closedParts : joinedFacts Tryz.checked.prog 6 Tryz.f6 (OpenSpec.bare (OpenSpec.ofChange Rows.tapeTellsSpec)) Rows.tapeTellsRow = true := by
 unfold joinedFacts
 simp only [Bool.and_eq_true]
 repeat' apply And.intro
 all_goals (as_aux_lemma => kernel_rfl)
theorem said : Rows.TapeTellsSaid :=
 OpenClaim.holds_of_cond 6 Tryz.f6 rfl rfl rfl rfl rfl rfl rfl ⟨rfl, rfl, rfl, rfl, rfl⟩ rfl rfl rfl rfl rfl (by kernel_rfl) Tryz.func6 closedParts
  (of_decide_eq_true (by kernel_rfl)) (by unfold Func.isWrapper; first | (rw [if_pos (by decide +kernel)]; kernel_rfl) | (rw [if_neg (by decide +kernel)]; exact ⟨rfl, rfl⟩))
  (fun os started H enc _ F => by rw [OpenClaim.pre_eq_preRow]; exact lifted os started H enc F)
end
end Go.Proofs.YtibeihcpehikoaaGreat
