/-
  PROVED HERE: promptbooklaw34.ReelCuts answers true for every input, and leaves its arguments as they were.
  CONDITIONS: the row's own ('laid': the weights' table reads as the program's text lays it; the card ties that).
-/
import Derived.Test.YtillajaghkefbaaDoorReelLaw
import Derived.Test.YtillajaghkefbaaDoorCards
import Derived.Test.YtillajaghkefbaaDoorTie
import Derived.Deep.DeepHandedRow
import Derived.Lib.LaidTab
namespace Go.Proofs.YtillajaghkefbaaDoor
open Go.RowKit Go.WideShapes Go.ChangeShapes Go.ChangeAt

set_option maxRecDepth 100000 in
set_option maxHeartbeats 1000000 in
theorem walk_no (A : Option Addr) (c : Nat) (l : List Ev) (fr ld tr kd : Int) (w : World) (hw : Weights w) (hr : Rd w w.heap.size A (l.flatMap Ev.cells)) (hl : l.length ≤ 60) (hfr : ¬ (400 < fr ∧ fr ≤ 1073741824)) (hno : argsOk l fr ld tr = false) :
    Calls Tryd.prog 3 #[.slice A l.length c, .int .i64 fr, .int .i64 ld, .int .i64 tr, .int .i64 kd] w fun e w' => e = .returned (.bool true) ∧ Below w.heap.size w w' := by
  have HW := Lib.hid hw
  have HR := Lib.hid hr
  have HN := Lib.hid hno
  clear hw hr hno
  go_enter Tryd.func3, Tryd.ntmps3
  go_wp2_with fail
  refine (awake_any _ HW.out).mono ?_
  rintro e w1 ⟨rfl, hb1⟩
  go_wp2_with fail
  all_goals
    refine (Cuts_no _ _ _ _ _ _ _ (by omega) ((HR.out.below hb1 (Nat.le_refl _)).more hb1.size) HN.out).mono ?_
    rintro e w2 ⟨rfl, hb2⟩
    go_wp2_with fail
    refine (weight_any _ _ (HW.out.on (bTrans hb1 hb2))).mono ?_
    rintro e w3 ⟨rfl, rfl⟩
    go_wp2_with fail
    refine (refWeight_any _ _).mono ?_
    rintro e w3 ⟨rfl, rfl⟩
    have hwk : (weightOf kd != weightOf kd) = false := by simp
    go_wp2_with fail
    refine (Fits_any _ _ _ _ _ _ _ (by omega) ((HR.out.below (bTrans hb1 hb2) (Nat.le_refl _)).more (bTrans hb1 hb2).size)).mono ?_
    rintro e w4 ⟨rfl, hb4⟩
    rw [HN.out]
    go_wp2
    go_ret
    exact ⟨rfl, bTrans (bTrans hb1 hb2) hb4⟩

set_option maxRecDepth 100000 in
set_option maxHeartbeats 1000000 in
theorem walk_yes (A : Option Addr) (c : Nat) (l : List Ev) (N : Nat) (ld tr kd : Int) (w : World) (hw : Weights w) (hr : Rd w w.heap.size A (l.flatMap Ev.cells)) (hl : l.length ≤ 60) (hfr : N ≤ 400) (hyes : argsOk l N ld tr = true) :
    Calls Tryd.prog 3 #[.slice A l.length c, .int .i64 N, .int .i64 ld, .int .i64 tr, .int .i64 kd] w fun e w' => e = .returned (.bool true) ∧ Below w.heap.size w w' := by
  have HW := Lib.hid hw
  have HR := Lib.hid hr
  have HN := Lib.hid hyes
  simp only [argsOk, Bool.and_eq_true, frameOk_iff] at hyes
  obtain ⟨⟨⟨-, ⟨b2, b2'⟩⟩, ⟨b3, b3'⟩⟩, hev⟩ := hyes
  have HEV := Lib.hid (evsOk_mem N l 0 hev)
  have hsame := cuts_are_runs l N ld tr b2 b3 hev
  have hlen : (refCuts l N ld tr).length ≤ 1000 := by
    rw [refCuts, List.length_map]
    have := runsTo_length (marks l ld tr) N
    omega
  have HS := Lib.hid hsame
  have HL := Lib.hid hlen
  clear hw hr hev hsame hlen
  go_enter Tryd.func3, Tryd.ntmps3
  go_wp2_with fail
  refine (awake_any _ HW.out).mono ?_
  rintro e w1 ⟨rfl, hb1⟩
  go_wp2_with fail
  all_goals
    refine (Cuts_yes _ _ _ _ _ _ _ (HW.out.on hb1) (by omega) ((HR.out.below hb1 (Nat.le_refl _)).more hb1.size) HN.out).mono ?_
    rw [HS.out]
    rintro e w2 ⟨A', cp, rfl, hown, hb2⟩
    have HO := Lib.hid hown
    clear hown
    go_wp2_with fail
    refine (weight_any _ _ (HW.out.on (bTrans hb1 hb2))).mono ?_
    rintro e w3 ⟨rfl, rfl⟩
    go_wp2_with fail
    refine (refWeight_any _ _).mono ?_
    rintro e w3 ⟨rfl, rfl⟩
    have hwk : (weightOf kd != weightOf kd) = false := by simp
    go_wp2_with fail
    refine (Fits_any _ _ _ _ _ _ _ (by omega) ((HR.out.below (bTrans hb1 hb2) (Nat.le_refl _)).more (bTrans hb1 hb2).size)).mono ?_
    rintro e w4 ⟨rfl, hb4⟩
    rw [HN.out]
    go_wp2_with fail
    refine (refCuts_any _ _ _ _ _ _ _ (by omega) ((HR.out.below (bTrans (bTrans hb1 hb2) hb4) (Nat.le_refl _)).more (bTrans (bTrans hb1 hb2) hb4).size) hfr b2 b2' b3 b3' HEV.out).mono ?_
    rintro e w5 ⟨A2, cp2, rfl, hown2, hb5⟩
    have HO2 := Lib.hid hown2
    clear hown2
    go_wp2_with fail
    refine (same_yes _ _ _ _ _ _ HL.out ((HO.out.rd.below hb4 (Nat.le_refl _)).more hb4.size |>.below hb5 (Nat.le_refl _) |>.more hb5.size) HO2.out.rd).mono ?_
    rintro e w6 ⟨rfl, hb6⟩
    go_wp2
    go_ret
    exact ⟨rfl, bTrans (bTrans (bTrans (bTrans hb1 hb2) hb4) hb5) hb6⟩

set_option maxRecDepth 100000 in
set_option maxHeartbeats 1000000 in
theorem walk_out (A : Option Addr) (c n : Nat) (fr ld tr kd : Int) (w : World) (hw : Weights w) (hn : n ≤ maxLen) (hl : 60 < n ∨ (400 < fr ∧ fr ≤ 1073741824)) :
    Calls Tryd.prog 3 #[.slice A n c, .int .i64 fr, .int .i64 ld, .int .i64 tr, .int .i64 kd] w fun e w' => e = .returned (.bool true) ∧ Below w.heap.size w w' := by
  have HW := Lib.hid hw
  clear hw
  unfold maxLen at hn
  rcases Nat.lt_or_ge 60 n with hl' | hl'
  · go_enter Tryd.func3, Tryd.ntmps3
    go_wp2_with fail
    refine (awake_any _ HW.out).mono ?_
    rintro e w1 ⟨rfl, hb1⟩
    go_wp2
    go_ret
    exact ⟨rfl, hb1⟩
  · have h1 : 400 < fr ∧ fr ≤ 1073741824 := by omega
    obtain ⟨h1, h2⟩ := h1
    clear hl
    go_enter Tryd.func3, Tryd.ntmps3
    go_wp2_with fail
    refine (awake_any _ HW.out).mono ?_
    rintro e w1 ⟨rfl, hb1⟩
    go_wp2
    go_ret
    exact ⟨rfl, hb1⟩

theorem walk_any (A : Option Addr) (c : Nat) (l : List Ev) (fr ld tr kd : Int) (w : World) (hw : Weights w) (hr : Rd w w.heap.size A (l.flatMap Ev.cells)) (hn : l.length ≤ maxLen) :
    Calls Tryd.prog 3 #[.slice A l.length c, .int .i64 fr, .int .i64 ld, .int .i64 tr, .int .i64 kd] w fun e w' => e = .returned (.bool true) ∧ Below w.heap.size w w' := by
  by_cases h : 60 < l.length ∨ (400 < fr ∧ fr ≤ 1073741824)
  · exact walk_out A c l.length fr ld tr kd w hw hn h
  · rw [not_or] at h
    obtain ⟨h1, h2⟩ := h
    cases hk : argsOk l fr ld tr with
    | false => exact walk_no A c l fr ld tr kd w hw hr (by omega) h2 hk
    | true =>
      have h3 : 0 ≤ fr ∧ fr ≤ 1073741824 := by
        have h4 := hk
        simp only [argsOk, Bool.and_eq_true, frameOk_iff] at h4
        exact h4.1.1.1
      obtain ⟨N, rfl⟩ := Int.eq_ofNat_of_zero_le h3.1
      exact walk_yes A c l N ld tr kd w hw hr (by omega) (by omega) hk

theorem own : ownKnob Tryd.prog.godebug = none := by kernel_rfl
theorem gTab : Tryd.prog.globalNamed "promptbook/reel.weights" = some 0 := by kernel_rfl
theorem gTabType : (Tryd.prog.globals[0]?).map (·.type) = some 50 := by kernel_rfl
theorem cellsTab : Tryd.prog.cellsOf 50 = 10 := by kernel_rfl
theorem table {W : World} (h : laidMetH Tryd.prog Rows.reelCutsRow.laid W) : Weights W := by
  have ht : Lib.TabIs Tryd.prog W "promptbook/reel.weights" .i64 [0, 0, 3, 0, 2, 10, 0, 8, 0, 0] :=
    Lib.tabIs_of_head (rest := []) gTab gTabType Tryd.underlying50 Tryd.underlying3 Tryd.cellsInt cellsTab h
  have hc : ∀ (i : Nat) (hi : i < 10), W.cell? ⟨0, i, none⟩ = some (.int .i64 ([0, 0, 3, 0, 2, 10, 0, 8, 0, 0].getD i 0)) := fun i hi => ht.cell gTab i hi
  exact ⟨block_lt_of_cell (hc 0 (by omega)), hc 0 (by omega), hc 1 (by omega), hc 2 (by omega), hc 3 (by omega), hc 4 (by omega), hc 5 (by omega), hc 6 (by omega), hc 7 (by omega), hc 8 (by omega), hc 9 (by omega)⟩

theorem contract (H : Type) (enc : TypeId × Value → H) (W : World) (base : Nat) (args : Array Value) (ds gs : List (DataW H)) (before : List MemPlace)
    (hval : ∀ (j : Nat) t v, Tryd.f3.params[j]? = some t → args[j]? = some v → Value.okWide Tryd.prog W .any base t v)
    (hW : DataW.Whole enc Tryd.prog Tryd.f3.params.toList Rows.reelCutsSpec.vars false W args.toList ds gs before) (hL : laidMetH Tryd.prog Rows.reelCutsRow.laid W) :
    Calls Tryd.prog 3 args W fun e W' => ∃ v, e = .returned v ∧ Rows.reelCutsSpec.post enc Tryd.prog Tryd.f3 false true false false W args v W' := by
  have hW0 := hW
  obtain ⟨p, q, hA, hV, rfl, -, -⟩ := hW
  rw [Tryd.params3] at hA hval
  obtain ⟨v0, vs0, d0, ds0, p0, q0, hargs, rfl, rfl, h0, r0⟩ := trodAll_cons hA
  obtain ⟨v1, vs1, d1, ds1, p1, q1, rfl, rfl, rfl, h1, r1⟩ := trodAll_cons r0
  obtain ⟨v2, vs2, d2, ds2, p2, q2, rfl, rfl, rfl, h2, r2⟩ := trodAll_cons r1
  obtain ⟨v3, vs3, d3, ds3, p3, q3, rfl, rfl, rfl, h3, r3⟩ := trodAll_cons r2
  obtain ⟨v4, vs4, d4, ds4, p4, q4, rfl, rfl, rfl, h4, r4⟩ := trodAll_cons r3
  obtain ⟨rfl, rfl, rfl⟩ := trodAll_nil r4
  obtain rfl : args = #[v0, v1, v2, v3, v4] := by cases args; simp_all
  obtain ⟨rfl, rfl⟩ := trodVars_none hV
  obtain ⟨A, c, l, rfl, hn, hr, -⟩ := open_events (hval 0 _ _ rfl rfl) h0
  obtain ⟨fr, rfl, rfl, rfl, -⟩ := open_int Tryd.underlying3 (hval 1 _ _ rfl rfl) h1
  obtain ⟨ld, rfl, rfl, rfl, -⟩ := open_int Tryd.underlying3 (hval 2 _ _ rfl rfl) h2
  obtain ⟨tr, rfl, rfl, rfl, -⟩ := open_int Tryd.underlying3 (hval 3 _ _ rfl rfl) h3
  obtain ⟨kd, rfl, rfl, rfl, -⟩ := open_int Tryd.underlying3 (hval 4 _ _ rfl rfl) h4
  refine (walk_any A c l fr ld tr kd W (table hL) hr hn).mono fun e W' ⟨he, hb⟩ => ?_
  subst he
  exact ⟨_, rfl, law_post (by kernel_rfl) (by kernel_rfl) rfl Tryd.underlying4 rfl rfl hW0 hb⟩

/-- A world for the witness: the settled one, the table holding what its initialiser lays. -/
noncomputable def laidWorld (os : Os) : World :=
  { World.holding Tryd.prog os ⟨#[], #[], []⟩ with heap := (World.holding Tryd.prog os ⟨#[], #[], []⟩).heap.modify 0 fun
      | .cells _ t frozen => .cells #[.int .i64 0, .int .i64 0, .int .i64 3, .int .i64 0, .int .i64 2, .int .i64 10, .int .i64 0, .int .i64 8, .int .i64 0, .int .i64 0] t frozen
      | o => o }
theorem laid_met (os : Os) : laidMet Tryd.prog Rows.reelCutsRow.laid ((laidWorld os).forCall (fun _ _ => 0) ⟨#[], #[.slice none 0 0, .int .i64 0, .int .i64 0, .int .i64 0, .int .i64 0], []⟩).memory :=
  laidMet_of_run' 8 (by kernel_rfl) (by kernel_rfl)
theorem reads (os : Os) {H : Type} (enc : TypeId × Value → H) : ∃ places, DataW.whole enc Tryd.prog ((laidWorld os).forCall (fun _ _ => 0) ⟨#[], #[.slice none 0 0, .int .i64 0, .int .i64 0, .int .i64 0, .int .i64 0], []⟩).memory Tryd.f3.params.toList Rows.reelCutsSpec.vars false #[Value.slice none 0 0, .int .i64 0, .int .i64 0, .int .i64 0, .int .i64 0].toList 8 = some ([.nil, .lit (.int .i64 0), .lit (.int .i64 0), .lit (.int .i64 0), .lit (.int .i64 0)], [], places) :=
  ⟨[], by kernel_rfl⟩

set_option maxRecDepth 100000 in
theorem lifted (os : Os) (started : os.Started) (H : Type) (enc : TypeId × Value → H) (F : Stop.Interp) :
    ReturnsInHanded {} Tryd.checked os 3 .any ((OpenSpec.ofChange Rows.reelCutsSpec).preRow enc Tryd.prog Tryd.f3 Rows.reelCutsRow.domain false Rows.reelCutsRow.laid) (((OpenSpec.ofChange Rows.reelCutsSpec).at F).post enc Tryd.prog Tryd.f3 false true false false) := by
  obtain ⟨places, hx⟩ := reads os enc
  refine returnsInHanded_of_row (C := Tryd.checked) (s := OpenSpec.ofChange Rows.reelCutsSpec) own started (by kernel_rfl) Tryd.func3
    (witness_row_at (enc := enc) (C := Tryd.checked) false (laidWorld os) #[.slice none 0 0, .int .i64 0, .int .i64 0, .int .i64 0, .int .i64 0] rfl (by kernel_rfl) (by kernel_rfl) (by kernel_rfl)
      (OpenSpec.preRow_of_cond 8 hx (by kernel_rfl) (fun k hk => by cases hk) (by kernel_rfl) (laid_met os))) ?_
  intro W base args ds gs before hval hW _ _ _ hL _ _
  exact contract H enc W base args ds gs before hval hW hL

theorem said : Rows.ReelCutsSaid :=
  OpenClaim.holds_of_cond 3 Tryd.f3 rfl rfl rfl rfl rfl rfl rfl ⟨rfl, rfl, rfl, rfl, rfl⟩ rfl rfl rfl rfl rfl (by kernel_rfl) Tryd.func3 (by kernel_rfl)
    (of_decide_eq_true (by kernel_rfl)) (by unfold Func.isWrapper; first | (rw [if_pos (by decide +kernel)]; kernel_rfl) | (rw [if_neg (by decide +kernel)]; exact ⟨rfl, rfl⟩))
    (fun os started H enc _ F => by rw [OpenClaim.pre_eq_preRow]; exact lifted os started H enc F)

theorem plain (f : FuncId) (fn : Func) (hf : Tryd.pinned.checked.prog.funcNamed "promptbook/promptbooklaw34.ReelCuts" = some f) (hfn : Tryd.pinned.checked.prog.funcs[f]? = some fn) :
    false = Tryd.pinned.checked.prog.looks [] ∧ ∀ (j : Nat) t, fn.params[j]? = some t → Tryd.pinned.checked.prog.wantsStandIn t = false := by
  obtain rfl : f = 3 := Option.some.inj ((show Tryd.prog.funcNamed "promptbook/promptbooklaw34.ReelCuts" = some 3 by kernel_rfl).symm.trans hf) |>.symm
  obtain rfl : fn = Tryd.f3 := (Option.some.inj (Tryd.func3.symm.trans hfn)).symm
  refine ⟨by kernel_rfl, fun j t ht => ?_⟩
  rw [Tryd.params3] at ht
  have hm := Array.mem_of_getElem? ht
  simp only [List.mem_toArray, List.mem_cons, List.not_mem_nil, or_false] at hm
  rcases hm with rfl | rfl | rfl | rfl | rfl
  · exact (show Tryd.prog.wantsStandIn 22 = false by kernel_rfl)
  all_goals exact (show Tryd.prog.wantsStandIn 3 = false by kernel_rfl)

/-- ████ ReelCuts ████ -/
theorem reelCuts_card : Rows.ReelCutsCardSaid :=
  Claim7.holds_tied_plain_at .later [] _ _ _ _ said (fun _ h => by cases h) (by kernel_rfl) (fun _ h => by cases h) reelCuts_row_tie rfl ⟨rfl, rfl⟩ (by kernel_rfl) rfl plain (by kernel_rfl)
end Go.Proofs.YtillajaghkefbaaDoor
