/-
  TapeSeeks: from anywhere it is the same.
  No condition.
-/
import Derived.Deep.DeepHandedRow
import Derived.Lib.LaidTab
import Derived.SevenTiedAt
import Derived.ChangeAt
import Derived.Test.YtibeihcpehikoaaGreatSf
import Derived.Test.YtibeihcpehikoaaGreatChecked
namespace Go.Proofs.YtibeihcpehikoaaGreat
section
open Go.RowKit Go.WideShapes Go.ChangeShapes Go.ChangeAt
set_option maxRecDepth 100000
theorem own : ownKnob Tryz.prog.godebug = none := by kernel_rfl
theorem contract (H : Type) (enc : TypeId × Value → H) (W : World) (base : Nat) (args : Array Value) (ds gs : List (DataW H)) (before : List MemPlace)
    (hval : ∀ (j : Nat) t v, Tryz.f7.params[j]? = some t → args[j]? = some v → Value.okWide Tryz.prog W .any base t v)
    (hW : DataW.Whole enc Tryz.prog Tryz.f7.params.toList Rows.tapeSeeksSpec.vars false W args.toList ds gs before) (_hL : laidMetH Tryz.prog Rows.tapeSeeksRow.laid W) :
    Calls Tryz.prog 7 args W fun e W' => ∃ v, e = .returned v ∧ Rows.tapeSeeksSpec.post enc Tryz.prog Tryz.f7 false true false false W args v W' := by
  have hW0 := hW
  obtain ⟨p, q, hA, hV, rfl, -, -⟩ := hW
  rw [Tryz.params7] at hA hval
  obtain ⟨v0, vs0, d0, ds0, p0, q0, hargs, rfl, rfl, h0, r0⟩ := trodAll_cons hA
  obtain ⟨v1, vs1, d1, ds1, p1, q1, rfl, rfl, rfl, h1, r1⟩ := trodAll_cons r0
  obtain ⟨v2, vs2, d2, ds2, p2, q2, rfl, rfl, rfl, h2, r2⟩ := trodAll_cons r1
  obtain ⟨v3, vs3, d3, ds3, p3, q3, rfl, rfl, rfl, h3, r3⟩ := trodAll_cons r2
  obtain ⟨v4, vs4, d4, ds4, p4, q4, rfl, rfl, rfl, h4, r4⟩ := trodAll_cons r3
  obtain ⟨v5, vs5, d5, ds5, p5, q5, rfl, rfl, rfl, h5, r5⟩ := trodAll_cons r4
  obtain ⟨rfl, rfl, rfl⟩ := trodAll_nil r5
  obtain rfl : args = #[v0, v1, v2, v3, v4, v5] := by cases args; simp_all
  obtain ⟨rfl, rfl⟩ := trodVars_none hV
  obtain ⟨gs, gd, gx, gy, rfl, g1, g2⟩ := open_cfg (hval 0 _ _ rfl rfl) h0
  obtain ⟨pA, pc, pl, rfl, pn, pr, pf⟩ := open_bytes (hval 1 _ _ rfl rfl) h1
  obtain ⟨qA, qc, ql, rfl, qn, qr, qf⟩ := open_bytes (hval 2 _ _ rfl rfl) h2
  obtain ⟨ev, rfl, rfl, rfl, evw⟩ := open_int Tryz.underlying3 (hval 3 _ _ rfl rfl) h3
  obtain ⟨fr, rfl, rfl, rfl, frw⟩ := open_int Tryz.underlying3 (hval 4 _ _ rfl rfl) h4
  obtain ⟨tt, rfl, rfl, rfl, ttw⟩ := open_int Tryz.underlying3 (hval 5 _ _ rfl rfl) h5
  refine (seeks_any step_is gs gd gx gy ev fr tt pA qA pc qc pl ql W g1 pn.1 qn.1 ⟨Nat.le_trans pn.1 (Nat.le_trans pn.2 (by simp [maxLen])), Nat.le_trans qn.1 (Nat.le_trans qn.2 (by simp [maxLen]))⟩ pr qr).mono fun e W' ⟨he, hb⟩ => ?_
  subst he
  exact ⟨_, rfl, law_post (by kernel_rfl) (by kernel_rfl) rfl Tryz.underlying4 rfl rfl hW0 hb⟩
theorem laid_met (os : Os) : laidMet Tryz.prog Rows.tapeSeeksRow.laid (((World.holding Tryz.prog os ⟨#[], #[], []⟩)).forCall (fun _ _ => 0) ⟨#[], #[.agg #[.int .u32 0, .int .i64 0, .int .i64 0, .int .i64 0], .slice none 0 0, .slice none 0 0, .int .i64 0, .int .i64 0, .int .i64 0], []⟩).memory :=
  laidMet_of_run' 8 (by kernel_rfl) (by kernel_rfl)
theorem reads (os : Os) {H : Type} (enc : TypeId × Value → H) : ∃ places, DataW.whole enc Tryz.prog (((World.holding Tryz.prog os ⟨#[], #[], []⟩)).forCall (fun _ _ => 0) ⟨#[], #[.agg #[.int .u32 0, .int .i64 0, .int .i64 0, .int .i64 0], .slice none 0 0, .slice none 0 0, .int .i64 0, .int .i64 0, .int .i64 0], []⟩).memory Tryz.f7.params.toList Rows.tapeSeeksSpec.vars false #[(.agg #[.int .u32 0, .int .i64 0, .int .i64 0, .int .i64 0] : Value), .slice none 0 0, .slice none 0 0, .int .i64 0, .int .i64 0, .int .i64 0].toList 8 = some ([.agg [.lit (.int .u32 0), .lit (.int .i64 0), .lit (.int .i64 0), .lit (.int .i64 0)], .nil, .nil, .lit (.int .i64 0), .lit (.int .i64 0), .lit (.int .i64 0)], [], places) :=
  ⟨[], by kernel_rfl⟩
set_option maxRecDepth 100000 in
theorem lifted (os : Os) (started : os.Started) (H : Type) (enc : TypeId × Value → H) (F : Stop.Interp) :
    ReturnsInHanded {} Tryz.checked os 7 .any ((OpenSpec.ofChange Rows.tapeSeeksSpec).preRow enc Tryz.prog Tryz.f7 Rows.tapeSeeksRow.domain false Rows.tapeSeeksRow.laid) (((OpenSpec.ofChange Rows.tapeSeeksSpec).at F).post enc Tryz.prog Tryz.f7 false true false false) := by
  obtain ⟨places, hx⟩ := reads os enc
  refine returnsInHanded_of_row (C := Tryz.checked) (s := (OpenSpec.ofChange Rows.tapeSeeksSpec)) own started (by kernel_rfl) Tryz.func7
    (witness_row_at (enc := enc) (C := Tryz.checked) false (World.holding Tryz.prog os ⟨#[], #[], []⟩) #[.agg #[.int .u32 0, .int .i64 0, .int .i64 0, .int .i64 0], .slice none 0 0, .slice none 0 0, .int .i64 0, .int .i64 0, .int .i64 0] rfl (by kernel_rfl) (by kernel_rfl) (by kernel_rfl)
      (OpenSpec.preRow_of_cond 8 hx (by kernel_rfl) (fun k hk => by cases hk) (by kernel_rfl) (laid_met os))) ?_
  intro W base args ds gs before hval hW _ _ _ hL _ _
  exact contract H enc W base args ds gs before hval hW hL
set_option maxHeartbeats 20000000 in
theorem closedParts : joinedFacts Tryz.checked.prog 7 Tryz.f7 (OpenSpec.bare (OpenSpec.ofChange Rows.tapeSeeksSpec)) Rows.tapeSeeksRow = true := by
  unfold joinedFacts
  simp only [Bool.and_eq_true]
  repeat' apply And.intro
  all_goals (as_aux_lemma => kernel_rfl)
theorem said : Rows.TapeSeeksSaid :=
  OpenClaim.holds_of_cond 7 Tryz.f7 rfl rfl rfl rfl rfl rfl rfl ⟨rfl, rfl, rfl, rfl, rfl⟩ rfl rfl rfl rfl rfl (by kernel_rfl) Tryz.func7 closedParts
    (of_decide_eq_true (by kernel_rfl)) (by unfold Func.isWrapper; first | (rw [if_pos (by decide +kernel)]; kernel_rfl) | (rw [if_neg (by decide +kernel)]; exact ⟨rfl, rfl⟩))
    (fun os started H enc _ F => by rw [OpenClaim.pre_eq_preRow]; exact lifted os started H enc F)
end
end Go.Proofs.YtibeihcpehikoaaGreat
