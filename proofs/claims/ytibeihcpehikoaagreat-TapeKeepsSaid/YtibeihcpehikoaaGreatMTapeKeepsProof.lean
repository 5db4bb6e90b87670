/-
  TapeKeeps: what is recorded is verified, packed, and read as it was.
  No condition.
-/
import Derived.Deep.DeepHandedRow
import Derived.Lib.LaidTab
import Derived.SevenTiedAt
import Derived.ChangeAt
import Derived.Test.YtibeihcpehikoaaGreatNn8
import Derived.Test.YtibeihcpehikoaaGreatChecked
namespace Go.Proofs.YtibeihcpehikoaaGreat
section
set_option maxHeartbeats 20000000
open Go.RowKit Go.WideShapes Go.ChangeShapes Go.ChangeAt
set_option maxRecDepth 100000
theorem own : ownKnob Tryz.prog.godebug = none := by kernel_rfl
theorem contract (H : Type) (enc : TypeId × Value → H) (W : World) (base : Nat) (args : Array Value) (ds gs : List (DataW H)) (before : List MemPlace)
  (hval : ∀ (j : Nat) t v, Tryz.f9.params[j]? = some t → args[j]? = some v → Value.okWide Tryz.prog W .any base t v)
  (hW : DataW.Whole enc Tryz.prog Tryz.f9.params.toList Rows.tapeKeepsSpec.vars false W args.toList ds gs before) (_hL : laidMetH Tryz.prog Rows.tapeKeepsRow.laid W) :
  Calls Tryz.prog 9 args W fun e W' => ∃ v, e = .returned v ∧ Rows.tapeKeepsSpec.post enc Tryz.prog Tryz.f9 false true false false W args v W' := by
 have hW0 := hW
 obtain ⟨p, q, hA, hV, rfl, -, -⟩ := hW
 rw [Tryz.params9] at hA hval
 obtain ⟨v0, vs0, d0, ds0, p0, q0, hargs, rfl, rfl, h0, r0⟩ := trodAll_cons hA
 obtain ⟨v1, vs1, d1, ds1, p1, q1, rfl, rfl, rfl, h1, r1⟩ := trodAll_cons r0
 obtain ⟨v2, vs2, d2, ds2, p2, q2, rfl, rfl, rfl, h2, r2⟩ := trodAll_cons r1
 obtain ⟨rfl, rfl, rfl⟩ := trodAll_nil r2
 obtain rfl : args = #[v0, v1, v2] := by cases args; simp_all
 obtain ⟨rfl, rfl⟩ := trodVars_none hV
 obtain ⟨gs, gd, gx, gy, rfl, g1, g2⟩ := open_cfg (hval 0 _ _ rfl rfl) h0
 obtain ⟨pA, pc, pl, rfl, pn, pr, pf⟩ := open_bytes (hval 1 _ _ rfl rfl) h1
 obtain ⟨qA, qc, ql, rfl, qn, qr, qf⟩ := open_bytes (hval 2 _ _ rfl rfl) h2
 refine (keeps_any step_is gs gd gx gy pA qA pc qc pl ql W g1 pn.1 qn.1 ⟨Nat.le_trans pn.1 (Nat.le_trans pn.2 (by simp [maxLen])), Nat.le_trans qn.1 (Nat.le_trans qn.2 (by simp [maxLen]))⟩ pr qr).mono fun e W' ⟨he, hb⟩ => ?_
 subst he
 exact ⟨_, rfl, law_post (by kernel_rfl) (by kernel_rfl) rfl Tryz.underlying4 rfl rfl hW0 hb⟩
theorem laid_met (os : Os) : laidMet Tryz.prog Rows.tapeKeepsRow.laid (((World.holding Tryz.prog os ⟨#[], #[], []⟩)).forCall (fun _ _ => 0) ⟨#[], #[.agg #[.int .u32 0, .int .i64 0, .int .i64 0, .int .i64 0], .slice none 0 0, .slice none 0 0], []⟩).memory :=
 laidMet_of_run' 8 (by kernel_rfl) (by kernel_rfl)
theorem reads (os : Os) {H : Type} (enc : TypeId × Value → H) : ∃ places, DataW.whole enc Tryz.prog (((World.holding Tryz.prog os ⟨#[], #[], []⟩)).forCall (fun _ _ => 0) ⟨#[], #[.agg #[.int .u32 0, .int .i64 0, .int .i64 0, .int .i64 0], .slice none 0 0, .slice none 0 0], []⟩).memory Tryz.f9.params.toList Rows.tapeKeepsSpec.vars false #[(.agg #[.int .u32 0, .int .i64 0, .int .i64 0, .int .i64 0] : Value), .slice none 0 0, .slice none 0 0].toList 8 = some ([.agg [.lit (.int .u32 0), .lit (.int .i64 0), .lit (.int .i64 0), .lit (.int .i64 0)], .nil, .nil], [], places) :=
 ⟨[], by kernel_rfl⟩
set_option maxRecDepth 100000 in
theorem lifted (os : Os) (started : os.Started) (H : Type) (enc : TypeId × Value → H) (F : Stop.Interp) :
  ReturnsInHanded {} Tryz.checked os 9 .any ((OpenSpec.ofChange Rows.tapeKeepsSpec).preRow enc Tryz.prog Tryz.f9 Rows.tapeKeepsRow.domain false Rows.tapeKeepsRow.laid) (((OpenSpec.ofChange Rows.tapeKeepsSpec).at F).post enc Tryz.prog Tryz.f9 false true false false) := by
 obtain ⟨places, hx⟩ := reads os enc
 refine returnsInHanded_of_row (C := Tryz.checked) (s := (OpenSpec.ofChange Rows.tapeKeepsSpec)) own started (by kernel_rfl) Tryz.func9
  (witness_row_at (enc := enc) (C := Tryz.checked) false (World.holding Tryz.prog os ⟨#[], #[], []⟩) #[.agg #[.int .u32 0, .int .i64 0, .int .i64 0, .int .i64 0], .slice none 0 0, .slice none 0 0] rfl (by kernel_rfl) (by kernel_rfl) (by kernel_rfl)
   (OpenSpec.preRow_of_cond 8 hx (by kernel_rfl) (fun k hk => by cases hk) (by kernel_rfl) (laid_met os))) ?_
 intro W base args ds gs before hval hW _ _ _ hL _ _
 exact contract H enc W base args ds gs before hval hW hL
theorem closedParts : joinedFacts Tryz.checked.prog 9 Tryz.f9 (OpenSpec.bare (OpenSpec.ofChange Rows.tapeKeepsSpec)) Rows.tapeKeepsRow = true := by
 unfold joinedFacts
 simp only [Bool.and_eq_true]
 repeat' apply And.intro
 all_goals (as_aux_lemma => kernel_rfl)
theorem said : Rows.TapeKeepsSaid :=
 OpenClaim.holds_of_cond 9 Tryz.f9 rfl rfl rfl rfl rfl rfl rfl ⟨rfl, rfl, rfl, rfl, rfl⟩ rfl rfl rfl rfl rfl (by kernel_rfl) Tryz.func9 closedParts
  (of_decide_eq_true (by kernel_rfl)) (by unfold Func.isWrapper; first | (rw [if_pos (by decide +kernel)]; kernel_rfl) | (rw [if_neg (by decide +kernel)]; exact ⟨rfl, rfl⟩))
  (fun os started H enc _ F => by rw [OpenClaim.pre_eq_preRow]; exact lifted os started H enc F)
end
end Go.Proofs.YtibeihcpehikoaaGreat
