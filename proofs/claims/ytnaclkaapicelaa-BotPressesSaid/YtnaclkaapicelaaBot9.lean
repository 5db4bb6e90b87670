/-
  BotPresses: in any state, as any player, of any skill: what a bot sees, and what it presses, are what the document says; it is an input.
  No condition.
-/
import Derived.Test.YtnaclkaapicelaaBot8
import Derived.Test.YtnaclkaapicelaaR12s
import Derived.Deep.DeepHandedRow
import Derived.Lib.LaidTab
import Derived.SevenTiedAt
namespace Go.Proofs.Ytnaclkaapicelaa
open Go.RowKit Go.WideShapes Go.ChangeShapes
set_option maxRecDepth 100000
set_option linter.unusedSimpArgs false
theorem begin1_fit : FitS (beginS 1) := by
  have : ∀ i : Fin 60, (Lit.int (kdS i.1) (beginS 1 i.1)).wf = true := by decide +kernel
  exact fun i hi => this ⟨i, hi⟩
theorem begin1_see : dotZ (beginS 1) 0 = 4194304 ∧ crossZ (beginS 1) 0 = 0 ∧ pressZ (beginS 1) 0 1 = 4 := by decide +kernel
set_option maxHeartbeats 4000000 in
theorem awake30_any (w : World) : Calls Try.prog 15 #[] w fun e w' => e = .returned (.bool true) ∧ Below w.heap.size w w' := by
  obtain ⟨S, hS⟩ : ∃ S, beginS 1 = S := ⟨_, rfl⟩
  have hsee := begin1_see
  have hfit := begin1_fit
  rw [hS] at hsee hfit
  obtain ⟨h1, h2, h3⟩ := hsee
  have HSI : Hid (∀ W, Calls Try.prog 16 #[.agg (stCells S).toArray, .int .i64 0] W fun e w' => e = .returned (.tuple #[.int .i32 4194304, .int .i32 0]) ∧ Below W.heap.size W w') := Lib.hid (fun W => by
    have := sight_any S 0 W (by decide) hfit
    rw [h1, h2] at this
    exact this)
  have HPR : Hid (∀ W, Calls Try.prog 18 #[.agg (stCells S).toArray, .int .i64 0, .int .i64 1] W fun e w' => e = .returned (.int .u8 4) ∧ Below W.heap.size W w') := Lib.hid (fun W => by
    have := press_any S W 0 1 hfit
    rw [h3] at this
    exact this)
  have HBG : Hid (∀ W, Calls Try.prog 20 #[.int .u32 1] W fun e w' => e = .returned (.agg (stCells S).toArray) ∧ Below W.heap.size W w') := Lib.hid (fun W => by rw [← hS]; exact r12Begin_any 1 W)
  have HSZ : Hid ((stCells S).toArray.size = 60) := Lib.hid (by rw [List.size_toArray, stCells_length])
  clear h1 h2 h3 hS hfit
  go_enter Try.func15, Try.ntmps15
  go_upto_region 2 with (first
    | (go_at_call 20; refine (HBG.out _).mono ?_; rintro e w1 ⟨rfl, hb1⟩; have HB1 := Lib.hid hb1; clear hb1)
    | (refine wpList_store_mid rfl 33 (.tmp 1) (.tmp 4) rfl w1.heap.size 0 (stCells S).toArray rfl rfl (there_new _ _ _ (by rw [HSZ.out]; rfl)) (by kernel_rfl) (all_oneCell_toArray (int_one _)) ?_))
  refine named_put (F := fun W => Code.wp _ _ _ _ W) (by rw [Array.length_toList, List.size_toArray, stCells_length]; rfl) ?_
  intro w2 hk2 hb2 hz2
  rw [Array.toArray_toList] at hk2
  have HK2 := Lib.hid hk2
  have HB2 := Lib.hid (bTrans HB1.out hb2)
  have hl2 := hk2.lt
  clear hk2 hb2 hz2 HB1
  go_wp2_with (first
    | (refine wpList_load_mid rfl 33 (.tmp 1) rfl w1.heap.size 0 rfl (stCells S) _ (Blk.range HK2.out) Try.underlying33 rfl (by kernel_rfl) ?_)
    | (refine wpList_load_midG rfl 33 (.tmp 1) rfl w1.heap.size 0 rfl (stCells S) _ (Blk.range HK3.out) Try.underlying33 rfl (by kernel_rfl) ?_)
    | (go_at_call 16; refine (HSI.out _).mono ?_; rintro e w3 ⟨rfl, k3⟩; have HK3 := Lib.hid (HK2.out.on k3); have HB3 := Lib.hid (bTrans HB2.out k3); clear k3)
    | (go_at_call 18; refine (HPR.out _).mono ?_; rintro e w4 ⟨rfl, k4⟩; have HB4 := Lib.hid (bTrans HB3.out k4); clear k4))
  go_ret
  exact ⟨rfl, HB4.out⟩
theorem u8_le63 {x : Int} (h : 0 ≤ x ∧ x ≤ 63) : decide (x ≤ 63) = true := decide_eq_true h.2
theorem pressZ_bd (S : Nat → Int) (who skill : Int) : 0 ≤ pressZ S who skill ∧ pressZ S who skill ≤ 63 := by
  unfold pressZ
  split
  · exact pressTo_bd _ _ _
  · omega
set_option maxHeartbeats 2000000 in
theorem sight_no (S : Nat → Int) (who : Int) (h : inB who 0 1 = false) (w : World) : Calls Try.prog 16 #[.agg (stCells S).toArray, .int .i64 who] w fun e w' => e = .returned (.tuple #[.int .i32 0, .int .i32 0]) ∧ Below w.heap.size w w' := by
  have HB0 := Lib.hid (show Below w.heap.size w (w.alloc (.cells (stCells S).toArray 33)) from bAlloc (Below.refl _ _) _)
  have H0 := Lib.hid h
  clear h
  go_enter Try.func16, Try.ntmps16
  go_wp2_with (first | (go_at_call 38; refine (bw _ _ _ _ _ H0.out).mono ?_; rintro e w1 ⟨rfl, rfl⟩))
  go_ret2
  exact ⟨rfl, HB0.out⟩
set_option maxHeartbeats 2000000 in
theorem rsight_no (S : Nat → Int) (who : Int) (h : inB who 0 1 = false) (w : World) : Calls Try.prog 17 #[.agg (stCells S).toArray, .int .i64 who] w fun e w' => e = .returned (.tuple #[.int .i32 0, .int .i32 0]) ∧ Below w.heap.size w w' := by
  have HB0 := Lib.hid (show Below w.heap.size w (w.alloc (.cells (stCells S).toArray 33)) from bAlloc (Below.refl _ _) _)
  by_cases h0 : who < 0
  · have g0 : decide (who < 0) = true := decide_eq_true h0
    clear h h0
    go_enter Try.func17, Try.ntmps17
    go_wp2_with fail
    go_ret2
    exact ⟨rfl, HB0.out⟩
  have g0 : decide (who < 0) = false := decide_eq_false h0
  have h1 : 1 < who := by
    by_cases h1 : 1 < who
    · exact h1
    · rw [inB_ok (show 0 ≤ who ∧ who ≤ 1 by omega)] at h; cases h
  have g1 : decide (1 < who) = true := decide_eq_true h1
  clear h h0 h1
  go_enter Try.func17, Try.ntmps17
  go_wp2_with fail
  go_ret2
  exact ⟨rfl, HB0.out⟩
/-- Both see the same. -/
theorem sightS (S : Nat → Int) (who : Int) (hf : FitS S) : ∃ d c : Int, (∀ W, Calls Try.prog 16 #[.agg (stCells S).toArray, .int .i64 who] W fun e w' => e = .returned (.tuple #[.int .i32 d, .int .i32 c]) ∧ Below W.heap.size W w') ∧ (∀ W, Calls Try.prog 17 #[.agg (stCells S).toArray, .int .i64 who] W fun e w' => e = .returned (.tuple #[.int .i32 d, .int .i32 c]) ∧ Below W.heap.size W w') := by
  cases h : inB who 0 1
  · exact ⟨0, 0, sight_no S who h, rsight_no S who h⟩
  · rw [inB_iff'] at h
    obtain ⟨i, rfl⟩ := Int.eq_ofNat_of_zero_le h.1
    have hi : i < 2 := by omega
    exact ⟨_, _, fun W => sight_any S i W hi hf, fun W => rsight_x S i hi hf W⟩
set_option maxHeartbeats 4000000 in
theorem presses_any (S : Nat → Int) (who skill : Int) (w : World) (hf : FitS S) : Calls Try.prog 5 #[.agg (stCells S).toArray, .int .i64 who, .int .i64 skill] w fun e w' => e = .returned (.bool true) ∧ Below w.heap.size w w' := by
  obtain ⟨d, c, hA, hB⟩ := sightS S who hf
  have HA := Lib.hid hA
  have HB := Lib.hid hB
  have hpb := pressZ_bd S who skill
  have hP := fun W => press_any S W who skill hf
  have hR := fun W => rpress_any S who skill W hf
  obtain ⟨p, hp⟩ : ∃ p, pressZ S who skill = p := ⟨_, rfl⟩
  rw [hp] at hpb hP hR
  have HP := Lib.hid hP
  have HR := Lib.hid hR
  have g63 := u8_le63 hpb
  clear hA hB hP hR hp hf hpb
  go_enter Try.func5, Try.ntmps5
  go_upto_region 1 with fail
  refine named1 (F := fun W => Code.wp _ _ _ _ W) ?_
  intro w0 k0 hb0 hz0
  have HK0 := Lib.hid k0
  have HB0 := Lib.hid hb0
  clear k0 hb0 hz0
  go_upto_region 3 with (first
    | (go_at_call 15; refine (awake30_any _).mono ?_; rintro e w1 ⟨rfl, k1⟩; have HK1 := Lib.hid (HK0.out.on k1); have HB1 := Lib.hid (bTrans HB0.out k1); clear k1))
  go_upto_region 4 with (first
    | (refine wpList_load_mid rfl 33 (.tmp 3) rfl w.heap.size 0 rfl (stCells S) _ (Blk.range HK1.out) Try.underlying33 rfl (by kernel_rfl) ?_)
    | (go_at_call 16; refine (HA.out _).mono ?_; rintro e w2 ⟨rfl, k2⟩; have HK2 := Lib.hid (HK1.out.on k2); have HB2 := Lib.hid (bTrans HB1.out k2); clear k2))
  go_upto_region 5 with (first
    | (refine wpList_load_mid rfl 33 (.tmp 3) rfl w.heap.size 0 rfl (stCells S) _ (Blk.range HK2.out) Try.underlying33 rfl (by kernel_rfl) ?_)
    | (go_at_call 17; refine (HB.out _).mono ?_; rintro e w3 ⟨rfl, k3⟩; have HK3 := Lib.hid (HK2.out.on k3); have HB3 := Lib.hid (bTrans HB2.out k3); clear k3))
  go_upto_region 6 with (first
    | (refine wpList_load_mid rfl 33 (.tmp 3) rfl w.heap.size 0 rfl (stCells S) _ (Blk.range HK3.out) Try.underlying33 rfl (by kernel_rfl) ?_)
    | (go_at_call 18; refine (HP.out _).mono ?_; rintro e w4 ⟨rfl, k4⟩; have HK4 := Lib.hid (HK3.out.on k4); have HB4 := Lib.hid (bTrans HB3.out k4); clear k4))
  go_wp2_with (first
    | (refine wpList_load_midG rfl 33 (.tmp 3) rfl w.heap.size 0 rfl (stCells S) _ (Blk.range HK4.out) Try.underlying33 rfl (by kernel_rfl) ?_)
    | (go_at_call 19; refine (HR.out _).mono ?_; rintro e w5 ⟨rfl, k5⟩; have HB5 := Lib.hid (bTrans HB4.out k5); clear k5))
  go_ret
  exact ⟨rfl, HB5.out⟩
theorem own : ownKnob Try.prog.godebug = none := by kernel_rfl
theorem contract (H : Type) (enc : TypeId × Value → H) (W : World) (base : Nat) (args : Array Value) (ds gs : List (DataW H)) (before : List MemPlace)
    (hval : ∀ (j : Nat) t v, Try.f5.params[j]? = some t → args[j]? = some v → Value.okWide Try.prog W .any base t v)
    (hW : DataW.Whole enc Try.prog Try.f5.params.toList Rows.botPressesSpec.vars false W args.toList ds gs before) (_hL : laidMetH Try.prog Rows.botPressesRow.laid W) :
    Calls Try.prog 5 args W fun e W' => ∃ v, e = .returned v ∧ Rows.botPressesSpec.post enc Try.prog Try.f5 false true false false W args v W' := by
  have hW0 := hW
  obtain ⟨p, q, hA, hV, rfl, -, -⟩ := hW
  rw [Try.params5] at hA hval
  obtain ⟨v0, vs0, d0, ds0, p0, q0, hargs, rfl, rfl, h0, r0⟩ := trodAll_cons hA
  obtain ⟨v1, vs1, d1, ds1, p1, q1, rfl, rfl, rfl, h1, r1⟩ := trodAll_cons r0
  obtain ⟨v2, vs2, d2, ds2, p2, q2, rfl, rfl, rfl, h2, r2⟩ := trodAll_cons r1
  obtain ⟨rfl, rfl, rfl⟩ := trodAll_nil r2
  obtain rfl : args = #[v0, v1, v2] := by cases args; simp_all
  obtain ⟨rfl, rfl⟩ := trodVars_none hV
  obtain ⟨s, rfl, sf⟩ := open_state (hval 0 _ _ rfl rfl) h0
  obtain ⟨a, rfl, rfl, rfl, aw⟩ := open_int Try.underlying3 (hval 1 _ _ rfl rfl) h1
  obtain ⟨b, rfl, rfl, rfl, bw⟩ := open_int Try.underlying3 (hval 2 _ _ rfl rfl) h2
  refine (presses_any s a b W sf).mono fun e W' ⟨he, hb⟩ => ?_
  subst he
  exact ⟨_, rfl, law_post (by kernel_rfl) (by kernel_rfl) rfl Try.underlying4 rfl rfl hW0 hb⟩
theorem laid_met (os : Os) : laidMet Try.prog Rows.botPressesRow.laid (((World.holding Try.prog os ⟨#[], #[], []⟩)).forCall (fun _ _ => 0) ⟨#[], #[witSt, .int .i64 0, .int .i64 0], []⟩).memory :=
  laidMet_of_run' 8 (by kernel_rfl) (by kernel_rfl)
theorem reads (os : Os) {H : Type} (enc : TypeId × Value → H) : ∃ places, DataW.whole enc Try.prog (((World.holding Try.prog os ⟨#[], #[], []⟩)).forCall (fun _ _ => 0) ⟨#[], #[witSt, .int .i64 0, .int .i64 0], []⟩).memory Try.f5.params.toList Rows.botPressesSpec.vars false #[(witSt : Value), .int .i64 0, .int .i64 0].toList 8 = some ([.agg [.lit (.int .i64 0), .lit (.int .u32 0), .lit (.int .i64 0), .lit (.int .i64 0), .agg [.agg [.agg [.lit (.int .i32 0), .lit (.int .i32 0)], .agg [.lit (.int .i32 0), .lit (.int .i32 0)], .lit (.int .i64 0), .lit (.int .i64 0), .lit (.int .i64 0), .lit (.int .i64 0), .lit (.int .i64 0), .lit (.int .i64 0)], .agg [.agg [.lit (.int .i32 0), .lit (.int .i32 0)], .agg [.lit (.int .i32 0), .lit (.int .i32 0)], .lit (.int .i64 0), .lit (.int .i64 0), .lit (.int .i64 0), .lit (.int .i64 0), .lit (.int .i64 0), .lit (.int .i64 0)]], .agg [.agg [.agg [.lit (.int .i32 0), .lit (.int .i32 0)], .agg [.lit (.int .i32 0), .lit (.int .i32 0)], .lit (.int .i64 0), .lit (.int .i64 0)], .agg [.agg [.lit (.int .i32 0), .lit (.int .i32 0)], .agg [.lit (.int .i32 0), .lit (.int .i32 0)], .lit (.int .i64 0), .lit (.int .i64 0)], .agg [.agg [.lit (.int .i32 0), .lit (.int .i32 0)], .agg [.lit (.int .i32 0), .lit (.int .i32 0)], .lit (.int .i64 0), .lit (.int .i64 0)], .agg [.agg [.lit (.int .i32 0), .lit (.int .i32 0)], .agg [.lit (.int .i32 0), .lit (.int .i32 0)], .lit (.int .i64 0), .lit (.int .i64 0)], .agg [.agg [.lit (.int .i32 0), .lit (.int .i32 0)], .agg [.lit (.int .i32 0), .lit (.int .i32 0)], .lit (.int .i64 0), .lit (.int .i64 0)], .agg [.agg [.lit (.int .i32 0), .lit (.int .i32 0)], .agg [.lit (.int .i32 0), .lit (.int .i32 0)], .lit (.int .i64 0), .lit (.int .i64 0)]]], .lit (.int .i64 0), .lit (.int .i64 0)], [], places) :=
  ⟨[], by kernel_rfl⟩
set_option maxRecDepth 100000 in
theorem lifted (os : Os) (started : os.Started) (H : Type) (enc : TypeId × Value → H) (F : Stop.Interp) :
    ReturnsInHanded {} Try.checked os 5 .any ((OpenSpec.ofChange Rows.botPressesSpec).preRow enc Try.prog Try.f5 Rows.botPressesRow.domain false Rows.botPressesRow.laid) (((OpenSpec.ofChange Rows.botPressesSpec).at F).post enc Try.prog Try.f5 false true false false) := by
  obtain ⟨places, hx⟩ := reads os enc
  refine returnsInHanded_of_row (C := Try.checked) (s := (OpenSpec.ofChange Rows.botPressesSpec)) own started (by kernel_rfl) Try.func5
    (witness_row_at (enc := enc) (C := Try.checked) false (World.holding Try.prog os ⟨#[], #[], []⟩) #[witSt, .int .i64 0, .int .i64 0] rfl (by kernel_rfl) (by kernel_rfl) (by kernel_rfl)
      (OpenSpec.preRow_of_cond 8 hx (by kernel_rfl) (fun k hk => by cases hk) (by kernel_rfl) (laid_met os))) ?_
  intro W base args ds gs before hval hW _ _ _ hL _ _
  exact contract H enc W base args ds gs before hval hW hL
theorem said : Rows.BotPressesSaid :=
  OpenClaim.holds_of_cond 5 Try.f5 rfl rfl rfl rfl rfl rfl rfl ⟨rfl, rfl, rfl, rfl, rfl⟩ rfl rfl rfl rfl rfl (by kernel_rfl) Try.func5 (by kernel_rfl)
    (of_decide_eq_true (by kernel_rfl)) (by unfold Func.isWrapper; first | (rw [if_pos (by decide +kernel)]; kernel_rfl) | (rw [if_neg (by decide +kernel)]; exact ⟨rfl, rfl⟩))
    (fun os started H enc _ F => by rw [OpenClaim.pre_eq_preRow]; exact lifted os started H enc F)
end Go.Proofs.Ytnaclkaapicelaa
