/-
  PROVED HERE: promptbooklaw17.LedgerPlays answers true for every input, and leaves its arguments as they were.
  CONDITIONS: none beyond the row's own.
-/
import Derived.ChangeAt
import Derived.Deep.DeepHandedRow
import Derived.Test.YteccmklacgpodaaMLPlW
import Derived.Test.YteccmklacgpodaaChecked
namespace Go.Proofs.Yteccmklacgpodaa
open Go.RowKit Go.WideShapes Go.ChangeShapes Go.ChangeAt
set_option maxRecDepth 100000
theorem own : ownKnob Try.prog.godebug = none := by kernel_rfl
theorem contract (H : Type) (enc : TypeId × Value → H) (W : World) (base : Nat) (args : Array Value) (ds gs : List (DataW H)) (before : List MemPlace)
    (hval : ∀ (j : Nat) t v, Try.f5.params[j]? = some t → args[j]? = some v → Value.okWide Try.prog W .any base t v)
    (hW : DataW.Whole enc Try.prog Try.f5.params.toList Rows.ledgerPlaysSpec.vars false W args.toList ds gs before) (_hL : laidMetH Try.prog Rows.ledgerPlaysRow.laid W) :
    Calls Try.prog 5 args W fun e W' => ∃ v, e = .returned v ∧ Rows.ledgerPlaysSpec.post enc Try.prog Try.f5 false true false false W args v W' := by
  have hW0 := hW
  obtain ⟨p, q, hA, hV, rfl, -, -⟩ := hW
  rw [Try.params5] at hA hval
  obtain ⟨v0, vs0, d0, ds0, p0, q0, hargs, rfl, rfl, h0, r0⟩ := trodAll_cons hA
  obtain ⟨v1, vs1, d1, ds1, p1, q1, rfl, rfl, rfl, h1, r1⟩ := trodAll_cons r0
  obtain ⟨v2, vs2, d2, ds2, p2, q2, rfl, rfl, rfl, h2, r2⟩ := trodAll_cons r1
  obtain ⟨rfl, rfl, rfl⟩ := trodAll_nil r2
  obtain rfl : args = #[v0, v1, v2] := by cases args; simp_all
  obtain ⟨rfl, rfl⟩ := trodVars_none hV
  obtain ⟨s, rfl, rfl, rfl, sw⟩ := open_int Try.underlying3 (hval 0 _ _ rfl rfl) h0
  obtain ⟨lA, lc, ll, rfl, ln, lr, lf⟩ := open_acts (hval 1 _ _ rfl rfl) h1
  obtain ⟨k, rfl, rfl, rfl, kw⟩ := open_int Try.underlying3 (hval 2 _ _ rfl rfl) h2
  refine (plays_any s lA lc ll k (bounds_i64 kw) W lr lf).mono fun e W' ⟨he, hb⟩ => ?_
  subst he
  exact ⟨_, rfl, law_post (by kernel_rfl) (by kernel_rfl) rfl Try.underlying4 rfl rfl hW0 hb⟩
theorem laid_met (os : Os) : laidMet Try.prog Rows.ledgerPlaysRow.laid (((World.holding Try.prog os ⟨#[], #[], []⟩)).forCall (fun _ _ => 0) ⟨#[], #[.int .i64 0, .slice none 0 0, .int .i64 0], []⟩).memory :=
  laidMet_of_run' 8 (by kernel_rfl) (by kernel_rfl)
theorem reads (os : Os) {H : Type} (enc : TypeId × Value → H) : ∃ places, DataW.whole enc Try.prog (((World.holding Try.prog os ⟨#[], #[], []⟩)).forCall (fun _ _ => 0) ⟨#[], #[.int .i64 0, .slice none 0 0, .int .i64 0], []⟩).memory Try.f5.params.toList Rows.ledgerPlaysSpec.vars false #[(.int .i64 0 : Value), .slice none 0 0, .int .i64 0].toList 8 = some ([.lit (.int .i64 0), .nil, .lit (.int .i64 0)], [], places) :=
  ⟨[], by kernel_rfl⟩
set_option maxRecDepth 100000 in
theorem lifted (os : Os) (started : os.Started) (H : Type) (enc : TypeId × Value → H) (F : Stop.Interp) :
    ReturnsInHanded {} Try.checked os 5 .any ((OpenSpec.ofChange Rows.ledgerPlaysSpec).preRow enc Try.prog Try.f5 Rows.ledgerPlaysRow.domain false Rows.ledgerPlaysRow.laid) (((OpenSpec.ofChange Rows.ledgerPlaysSpec).at F).post enc Try.prog Try.f5 false true false false) := by
  obtain ⟨places, hx⟩ := reads os enc
  refine returnsInHanded_of_row (C := Try.checked) (s := (OpenSpec.ofChange Rows.ledgerPlaysSpec)) own started (by kernel_rfl) Try.func5
    (witness_row_at (enc := enc) (C := Try.checked) false (World.holding Try.prog os ⟨#[], #[], []⟩) #[.int .i64 0, .slice none 0 0, .int .i64 0] rfl (by kernel_rfl) (by kernel_rfl) (by kernel_rfl)
      (OpenSpec.preRow_of_cond 8 hx (by kernel_rfl) (fun k hk => by cases hk) (by kernel_rfl) (laid_met os))) ?_
  intro W base args ds gs before hval hW _ _ _ hL _ _
  exact contract H enc W base args ds gs before hval hW hL
theorem said : Rows.LedgerPlaysSaid :=
  OpenClaim.holds_of_cond 5 Try.f5 rfl rfl rfl rfl rfl rfl rfl ⟨rfl, rfl, rfl, rfl, rfl⟩ rfl rfl rfl rfl rfl (by kernel_rfl) Try.func5 (by kernel_rfl)
    (of_decide_eq_true (by kernel_rfl)) (by unfold Func.isWrapper; first | (rw [if_pos (by decide +kernel)]; kernel_rfl) | (rw [if_neg (by decide +kernel)]; exact ⟨rfl, rfl⟩))
    (fun os started H enc _ F => by rw [OpenClaim.pre_eq_preRow]; exact lifted os started H enc F)
end Go.Proofs.Yteccmklacgpodaa
