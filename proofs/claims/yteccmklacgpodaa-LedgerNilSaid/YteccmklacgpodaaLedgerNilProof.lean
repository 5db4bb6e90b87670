/-
  PROVED HERE: promptbooklaw17.LedgerNil answers true for every input, and leaves its arguments as they were.
  CONDITIONS: none beyond the row's own.
-/
import Derived.Test.YteccmklacgpodaaAw17
import Derived.Test.YteccmklacgpodaaActO
import Derived.Test.YteccmklacgpodaaChecked
import Derived.ChangeAt
import Derived.Deep.DeepHandedRow
namespace Go.Proofs.Yteccmklacgpodaa
open Go.RowKit Go.WideShapes Go.ChangeShapes Go.ChangeAt
set_option maxRecDepth 100000
set_option linter.unusedSimpArgs false
set_option maxHeartbeats 2000000 in
theorem lnil_any (a : ActP) (w : World) : Calls Try.prog 6 #[.agg #[.int .i64 a.kind, .int .i64 a.frame, .slice a.A a.evs.length a.c, .int .i64 a.by_]] w fun e w' => e = .returned (.bool true) ∧ Below w.heap.size w w' := by
  obtain ⟨n, hn⟩ : ∃ n, a.evs.length = n := ⟨_, rfl⟩
  rw [hn]
  clear hn
  obtain ⟨w1, hw1⟩ : ∃ w1, w1 = w.alloc (.cells #[.int .i64 a.kind, .int .i64 a.frame, .slice a.A n a.c, .int .i64 a.by_] 32) := ⟨_, rfl⟩
  have HB : Hid (Below w.heap.size w w1) := Lib.hid (by rw [hw1]; exact bAlloc (Below.refl _ _) _)
  have HA : Hid (Blk w1 w.heap.size 32 #[.int .i64 a.kind, .int .i64 a.frame, .slice a.A n a.c, .int .i64 a.by_]) := Lib.hid (by rw [hw1]; exact Blk.new _ _ _)
  go_enter Try.func6, Try.ntmps6
  go_upto_region 1 with fail
  rw [← hw1]
  clear hw1
  go_upto_region 3 with (first | (go_at_call 8; refine (awake_any _).mono ?_; rintro e w2 ⟨rfl, hb2⟩; have HB2 := Lib.hid (bTrans HB.out hb2); have HA2 := Lib.hid (HA.out.on hb2); clear hb2))
  have a0 := HA2.out.cell 0
  have a1 := HA2.out.cell 1
  have a2 := HA2.out.cell 2
  have a3 := HA2.out.cell 3
  have la := HA2.out.lt
  simp only [List.getElem?_toArray, List.getElem?_cons_zero, List.getElem?_cons_succ] at a0 a1 a2 a3
  obtain ⟨d, hd⟩ : ∃ d, decide (farA a.frame a.by_ n) = d := ⟨_, rfl⟩
  have HF := Lib.hid (far_any a.kind a.frame a.by_ a.A n a.c w2)
  rw [hd] at HF
  clear hd HA HB
  cases d
  · go_upto_region 6 with (first | (go_at_call 10; refine HF.out.mono ?_; rintro e w3 ⟨rfl, hb3⟩; have HB3 := Lib.hid (bTrans HB2.out hb3); have HA3 := Lib.hid (HA2.out.on hb3); clear hb3))
    clear a0 a1 a2 a3 la HF HA2 HB2
    have a0 := HA3.out.cell 0
    have a1 := HA3.out.cell 1
    have a2 := HA3.out.cell 2
    have a3 := HA3.out.cell 3
    have la := HA3.out.lt
    simp only [List.getElem?_toArray, List.getElem?_cons_zero, List.getElem?_cons_succ] at a0 a1 a2 a3
    go_upto_region 7 with (first | (go_at_call 14; refine (tell_nil _ _ _ _ _ _).mono ?_; rintro e w4 ⟨rfl, hb4⟩; have HB4 := Lib.hid (bTrans HB3.out hb4); have HA4 := Lib.hid (HA3.out.on hb4); clear hb4))
    clear a0 a1 a2 a3 la HA3 HB3
    have a3 := HA4.out.cell 3
    have la := HA4.out.lt
    simp only [List.getElem?_toArray, List.getElem?_cons_zero, List.getElem?_cons_succ] at a3
    go_wp2_with (first
      | (go_at_call 11; refine (commit_nil _ _).mono ?_; rintro e w5 ⟨rfl, rfl⟩)
      | (go_at_call 23; refine (halt_nil _).mono ?_; rintro e w5 ⟨rfl, rfl⟩)
      | (go_at_call 13; refine (live_nil _).mono ?_; rintro e w5 ⟨rfl, rfl⟩)
      | (go_at_call 12; refine (committed_nil _).mono ?_; rintro e w5 ⟨rfl, rfl⟩)
      | (go_at_call 21; refine (told_nil _ _).mono ?_; rintro e w5 ⟨rfl, rfl⟩)
      | (go_at_call 20; refine (halted_nil _).mono ?_; rintro e w5 ⟨rfl, rfl⟩))
    go_ret
    exact ⟨rfl, HB4.out⟩
  · go_wp2_with (first | (go_at_call 10; refine HF.out.mono ?_; rintro e w3 ⟨rfl, hb3⟩; have HB3 := Lib.hid (bTrans HB2.out hb3); clear hb3))
    go_ret
    exact ⟨rfl, HB3.out⟩
theorem own : ownKnob Try.prog.godebug = none := by kernel_rfl
theorem contract (H : Type) (enc : TypeId × Value → H) (W : World) (base : Nat) (args : Array Value) (ds gs : List (DataW H)) (before : List MemPlace)
    (hval : ∀ (j : Nat) t v, Try.f6.params[j]? = some t → args[j]? = some v → Value.okWide Try.prog W .any base t v)
    (hW : DataW.Whole enc Try.prog Try.f6.params.toList Rows.ledgerNilSpec.vars false W args.toList ds gs before) (_hL : laidMetH Try.prog Rows.ledgerNilRow.laid W) :
    Calls Try.prog 6 args W fun e W' => ∃ v, e = .returned v ∧ Rows.ledgerNilSpec.post enc Try.prog Try.f6 false true false false W args v W' := by
  have hW0 := hW
  obtain ⟨p, q, hA, hV, rfl, -, -⟩ := hW
  rw [Try.params6] at hA hval
  obtain ⟨v0, vs0, d0, ds0, p0, q0, hargs, rfl, rfl, h0, r0⟩ := trodAll_cons hA
  obtain ⟨rfl, rfl, rfl⟩ := trodAll_nil r0
  obtain rfl : args = #[v0] := by cases args; simp_all
  obtain ⟨rfl, rfl⟩ := trodVars_none hV
  obtain ⟨a, rfl, af⟩ := open_act (hval 0 _ _ rfl rfl) h0
  refine (lnil_any a W).mono fun e W' ⟨he, hb⟩ => ?_
  subst he
  exact ⟨_, rfl, law_post (by kernel_rfl) (by kernel_rfl) rfl Try.underlying4 rfl rfl hW0 hb⟩
theorem laid_met (os : Os) : laidMet Try.prog Rows.ledgerNilRow.laid (((World.holding Try.prog os ⟨#[], #[], []⟩)).forCall (fun _ _ => 0) ⟨#[], #[.agg #[.int .i64 0, .int .i64 0, .slice none 0 0, .int .i64 0]], []⟩).memory :=
  laidMet_of_run' 8 (by kernel_rfl) (by kernel_rfl)
theorem reads (os : Os) {H : Type} (enc : TypeId × Value → H) : ∃ places, DataW.whole enc Try.prog (((World.holding Try.prog os ⟨#[], #[], []⟩)).forCall (fun _ _ => 0) ⟨#[], #[.agg #[.int .i64 0, .int .i64 0, .slice none 0 0, .int .i64 0]], []⟩).memory Try.f6.params.toList Rows.ledgerNilSpec.vars false #[(.agg #[.int .i64 0, .int .i64 0, .slice none 0 0, .int .i64 0] : Value)].toList 8 = some ([.agg [.lit (.int .i64 0), .agg [.lit (.int .i64 0), .nil], .lit (.int .i64 0)]], [], places) :=
  ⟨[], by kernel_rfl⟩
set_option maxRecDepth 100000 in
theorem lifted (os : Os) (started : os.Started) (H : Type) (enc : TypeId × Value → H) (F : Stop.Interp) :
    ReturnsInHanded {} Try.checked os 6 .any ((OpenSpec.ofChange Rows.ledgerNilSpec).preRow enc Try.prog Try.f6 Rows.ledgerNilRow.domain false Rows.ledgerNilRow.laid) (((OpenSpec.ofChange Rows.ledgerNilSpec).at F).post enc Try.prog Try.f6 false true false false) := by
  obtain ⟨places, hx⟩ := reads os enc
  refine returnsInHanded_of_row (C := Try.checked) (s := (OpenSpec.ofChange Rows.ledgerNilSpec)) own started (by kernel_rfl) Try.func6
    (witness_row_at (enc := enc) (C := Try.checked) false (World.holding Try.prog os ⟨#[], #[], []⟩) #[.agg #[.int .i64 0, .int .i64 0, .slice none 0 0, .int .i64 0]] rfl (by kernel_rfl) (by kernel_rfl) (by kernel_rfl)
      (OpenSpec.preRow_of_cond 8 hx (by kernel_rfl) (fun k hk => by cases hk) (by kernel_rfl) (laid_met os))) ?_
  intro W base args ds gs before hval hW _ _ _ hL _ _
  exact contract H enc W base args ds gs before hval hW hL
theorem said : Rows.LedgerNilSaid :=
  OpenClaim.holds_of_cond 6 Try.f6 rfl rfl rfl rfl rfl rfl rfl ⟨rfl, rfl, rfl, rfl, rfl⟩ rfl rfl rfl rfl rfl (by kernel_rfl) Try.func6 (by kernel_rfl)
    (of_decide_eq_true (by kernel_rfl)) (by unfold Func.isWrapper; first | (rw [if_pos (by decide +kernel)]; kernel_rfl) | (rw [if_neg (by decide +kernel)]; exact ⟨rfl, rfl⟩))
    (fun os started H enc _ F => by rw [OpenClaim.pre_eq_preRow]; exact lifted os started H enc F)
end Go.Proofs.Yteccmklacgpodaa
