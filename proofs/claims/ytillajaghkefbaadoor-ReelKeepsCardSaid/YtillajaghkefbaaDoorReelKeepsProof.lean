/-
  PROVED HERE: promptbooklaw34.ReelKeeps answers true for every input, and leaves its arguments as they were.
  CONDITIONS: the row's own ('laid': the weights' table reads as the program's text lays it; the card ties that).
-/
import Derived.Test.YtillajaghkefbaaDoorReelKeepsPlain
import Derived.Test.YtillajaghkefbaaDoorReelLaw
import Derived.Test.YtillajaghkefbaaDoorReelOf
import Derived.Test.YtillajaghkefbaaDoorCards
import Derived.Test.YtillajaghkefbaaDoorTie
import Derived.Deep.DeepHandedRow
import Derived.Lib.LaidTab
namespace Go.Proofs.YtillajaghkefbaaDoor.Keeps
open Go.RowKit Go.WideShapes Go.ChangeShapes Go.ChangeAt

set_option maxRecDepth 100000 in
set_option maxHeartbeats 4000000 in
theorem walk_yes (A : Option Addr) (c : Nat) (l : List Ev) (fr ld tr : Int) (w : World) (hw : Weights w) (hr : Rd w w.heap.size A (l.flatMap Ev.cells)) (hl : l.length ≤ 60) (hyes : argsOk l fr ld tr = true) :
    Calls Tryd.prog 4 #[.slice A l.length c, .int .i64 fr, .int .i64 ld, .int .i64 tr] w fun e w' => e = .returned (.bool true) ∧ Below w.heap.size w w' := by
  have HW := Lib.hid hw
  have HR := Lib.hid hr
  have HN := Lib.hid hyes
  simp only [argsOk, Bool.and_eq_true, frameOk_iff] at hyes
  obtain ⟨⟨⟨⟨f0, f1⟩, ⟨b2, b2'⟩⟩, ⟨b3, b3'⟩⟩, hev⟩ := hyes
  have hk := kept l fr ld tr f0 f1 b2 b3 (by omega) hev
  have HK := Lib.hid hk
  have hLn := hk.short
  have hLl : (cutsOf l fr ld tr).length ≤ 60 := by omega
  clear hw hr hev hk hLn
  go_enter Tryd.func4, Tryd.ntmps4
  go_wp2_with fail
  refine (awake_any _ HW.out).mono ?_
  rintro e w1 ⟨rfl, hb1⟩
  go_wp2_with fail
  refine (Cuts_yes _ _ _ _ _ _ _ (HW.out.on hb1) (by omega) ((HR.out.below hb1 (Nat.le_refl _)).more hb1.size) HN.out).mono ?_
  generalize cutsOf l fr ld tr = L at *
  rintro e w2 ⟨A', cp, rfl, hown, hb2⟩
  have hb := bTrans hb1 hb2
  have HO := Lib.hid (hown.more hb1.size)
  clear hown hb1 hb2
  go_wp2_with fail
  go_loopw [11, 12] (fun v i wr => ∃ k : Nat, k ≤ L.length ∧ i = .int .i64 k ∧ ∃ z, v = .int .i64 z ∧ Hid (z = sumW (L.take k)) ∧ 0 ≤ z ∧ z ≤ k * 600 ∧ wr = w2) (fun _ i _ => L.length - (intOf i).toNat)
  case atStart => exact ⟨0, Nat.zero_le _, rfl, 0, rfl, rfl, by omega, by omega, rfl⟩
  case round =>
    obtain ⟨k, hkl, rfl, z, rfl, hz, z0, z1, rfl⟩ := hrel
    by_cases hlt : k < L.length
    · obtain ⟨b, off, rfl, hB, hc⟩ := HO.out.rd.at_ Cut.cells_length (by omega) hlt
      have c2 := hc 2 _ rfl
      clear hc
      obtain ⟨q1, q2⟩ := HK.out.weights L[k] (List.getElem_mem hlt)
      have q3 : L[k].weight ≤ 600 := by omega
      clear q2
      go_wp2
      go_roundw
      case rel => exact ⟨k + 1, by omega, by go_num, _, rfl, (show _ = _ by rw [sumW_take L k hlt, ← hz.out]), by omega, by omega, trivial⟩
      case measure => simp [intOf]; omega
    · have hz' : z = sumW L := by rw [hz.out, List.take_of_length_le (by omega)]
      subst hz'
      clear hz
      go_wp2
      go_loopw [13, 14, 15, 16, 17] (fun v i _ _ _ w' => ∃ n : Nat, n ≤ l.length ∧ i = .int .i64 n ∧ ∃ z, v = .int .i64 z ∧ Hid (z = sumE (l.take n)) ∧ 0 ≤ z ∧ z ≤ n * 10 ∧ Below wr.heap.size wr w') (fun _ i _ _ _ _ => l.length - (intOf i).toNat)
      case atStart => exact ⟨0, Nat.zero_le _, rfl, 0, rfl, rfl, by omega, by omega, Below.refl _ _⟩
      case round =>
        obtain ⟨n, hnl, rfl, y, rfl, hy, y0, y1, hb3⟩ := hrel
        obtain ⟨wo, rfl⟩ : ∃ wo : World, wo = wr := ⟨_, rfl⟩
        by_cases hnlt : n < l.length
        · obtain ⟨b, off, rfl, hB, h0, -, h2, -, -, -, -, -, -⟩ := (HR.out.below (bTrans hb hb3) (Nat.le_refl _)).ev hnlt
          obtain ⟨v0, v1⟩ := weightOf_bd l[n].kind
          have HB3 := Lib.hid hb3
          go_wp2_with fail
          refine (refWeight_any _ _).mono ?_
          rintro e w4 ⟨rfl, rfl⟩
          go_wp2_with fail
          refine (inside_any _ _ L l[n].frame _ (by omega) ((HO.out.rd.below HB3.out (Nat.le_refl _)).more HB3.out.size)).mono ?_
          rintro e w4 ⟨rfl, hb4⟩
          have hcell : w4.cell? ⟨b, off + n * 9, none⟩ = some (.int .i64 l[n].frame) := (hb4.cell (p := ⟨b, off + n * 9, none⟩) (block_lt_of_cell h0)).trans h0
          have hyt : y + weightOf l[n].kind = sumE (l.take (n + 1)) := by rw [sumE_take l n hnlt, ← hy.out]
          have HYT := Lib.hid hyt
          clear hyt hy h0 h2
          have hb5 := bTrans hb3 hb4
          have HB5 := Lib.hid hb5
          clear hb3 hb4 hb5 HB3
          by_cases hwp : 0 < weightOf l[n].kind
          · obtain ⟨j, hj, hK, hB', hc1, hc2⟩ := HK.out.inside l[n] (List.getElem_mem hnlt) hwp
            rw [hK, hB']
            obtain ⟨b', off', rfl, hBB, hc⟩ := (HO.out.rd.below HB5.out (Nat.le_refl _)).at_ Cut.cells_length (by omega) hj
            have d0 := hc 0 _ rfl
            have d1 := hc 1 _ rfl
            rw [Nat.add_zero] at d0
            clear hc hK hB'
            have g1 : decide (0 < weightOf l[n].kind) = true := by simpa using hwp
            have g2 : decide (l[n].frame < L[j].frm) = false := by simpa using hc1
            have g3 : decide (L[j].to_ ≤ l[n].frame) = false := by simpa using hc2
            have i1 : (0 : Int) ≤ (n : Int) := Int.natCast_nonneg _
            have i2 : (n : Int) < (l.length : Int) := by omega
            have i3 : (0 : Int) ≤ (j : Int) := Int.natCast_nonneg _
            have i4 : (j : Int) < (L.length : Int) := by omega
            go_wp2
            go_quiet (fail)
            go_wp2
            go_roundw
            case rel => exact ⟨n + 1, by omega, by go_num, _, rfl, HYT.out, by omega, by omega, below_drewN HB5.out _⟩
            case measure => simp [intOf]; omega
          · have g1 : decide (0 < weightOf l[n].kind) = false := by simpa using hwp
            go_wp2
            go_quiet (fail)
            go_wp2
            go_roundw
            case rel => exact ⟨n + 1, by omega, by go_num, _, rfl, HYT.out, by omega, by omega, below_drewN HB5.out _⟩
            case measure => simp [intOf]; omega
        · have hy' : y = sumE l := by rw [hy.out, List.take_of_length_le (by omega)]
          subst hy'
          clear hy
          have HB3 := Lib.hid hb3
          have hsum := HK.out.sum
          have hlen := HK.out.len
          rw [hsum]
          clear hsum hb3
          go_wp2_with fail
          refine (right_yes _ _ L _ (by omega) ((HO.out.rd.below HB3.out (Nat.le_refl _)).more HB3.out.size) HK.out.right).mono ?_
          rintro e w4 ⟨rfl, hb4⟩
          go_wp2_with fail
          refine (of_any _ _ L _ (by omega) (((HO.out.rd.below HB3.out (Nat.le_refl _)).more HB3.out.size).below hb4 (Nat.le_refl _) |>.more hb4.size)).mono ?_
          rintro e w5 ⟨A2, cp2, rfl, hown2, hb5⟩
          have HO2 := Lib.hid hown2
          clear hown2
          go_wp2_with fail
          refine (rRight_yes _ _ L _ (by omega) HO2.out.rd HK.out.right).mono ?_
          rintro e w6 ⟨rfl, hb6⟩
          have h7 := bTrans (bTrans (bTrans HB3.out hb4) hb5) hb6
          go_wp2_with fail
          refine (length_any _ _ L _ (by omega) ((HO.out.rd.below h7 (Nat.le_refl _)).more h7.size) HK.out.ends).mono ?_
          rintro e w7 ⟨rfl, hb7⟩
          go_wp2
          go_ret
          exact ⟨rfl, bTrans hb (bTrans h7 hb7)⟩
set_option maxRecDepth 100000 in
set_option maxHeartbeats 1000000 in
theorem walk_no (A : Option Addr) (c : Nat) (l : List Ev) (fr ld tr : Int) (w : World) (hw : Weights w) (hr : Rd w w.heap.size A (l.flatMap Ev.cells)) (hl : l.length ≤ 60) (hno : argsOk l fr ld tr = false) :
    Calls Tryd.prog 4 #[.slice A l.length c, .int .i64 fr, .int .i64 ld, .int .i64 tr] w fun e w' => e = .returned (.bool true) ∧ Below w.heap.size w w' := by
  have HW := Lib.hid hw
  have HR := Lib.hid hr
  have HN := Lib.hid hno
  clear hw hr hno
  go_enter Tryd.func4, Tryd.ntmps4
  go_wp2_with fail
  refine (awake_any _ HW.out).mono ?_
  rintro e w1 ⟨rfl, hb1⟩
  go_wp2_with fail
  refine (Cuts_no _ _ _ _ _ _ _ (by omega) ((HR.out.below hb1 (Nat.le_refl _)).more hb1.size) HN.out).mono ?_
  rintro e w2 ⟨rfl, hb2⟩
  go_wp2
  go_ret
  exact ⟨rfl, bTrans hb1 hb2⟩

set_option maxRecDepth 100000 in
set_option maxHeartbeats 1000000 in
theorem walk_out (A : Option Addr) (c n : Nat) (fr ld tr : Int) (w : World) (hw : Weights w) (hn : n ≤ maxLen) (hl : 60 < n) :
    Calls Tryd.prog 4 #[.slice A n c, .int .i64 fr, .int .i64 ld, .int .i64 tr] w fun e w' => e = .returned (.bool true) ∧ Below w.heap.size w w' := by
  have HW := Lib.hid hw
  clear hw
  unfold maxLen at hn
  go_enter Tryd.func4, Tryd.ntmps4
  go_wp2_with fail
  refine (awake_any _ HW.out).mono ?_
  rintro e w1 ⟨rfl, hb1⟩
  go_wp2
  go_ret
  exact ⟨rfl, hb1⟩

theorem walk_any (A : Option Addr) (c : Nat) (l : List Ev) (fr ld tr : Int) (w : World) (hw : Weights w) (hr : Rd w w.heap.size A (l.flatMap Ev.cells)) (hn : l.length ≤ maxLen) :
    Calls Tryd.prog 4 #[.slice A l.length c, .int .i64 fr, .int .i64 ld, .int .i64 tr] w fun e w' => e = .returned (.bool true) ∧ Below w.heap.size w w' := by
  by_cases h : 60 < l.length
  · exact walk_out A c l.length fr ld tr w hw hn h
  · cases hk : argsOk l fr ld tr with
    | false => exact walk_no A c l fr ld tr w hw hr (by omega) hk
    | true => exact walk_yes A c l fr ld tr w hw hr (by omega) hk

theorem gTab : Tryd.prog.globalNamed "promptbook/reel.weights" = some 0 := by kernel_rfl
theorem gTabType : (Tryd.prog.globals[0]?).map (·.type) = some 50 := by kernel_rfl
theorem cellsTab : Tryd.prog.cellsOf 50 = 10 := by kernel_rfl
theorem table {W : World} (h : laidMetH Tryd.prog Rows.reelKeepsRow.laid W) : Weights W := by
  have ht : Lib.TabIs Tryd.prog W "promptbook/reel.weights" .i64 [0, 0, 3, 0, 2, 10, 0, 8, 0, 0] :=
    Lib.tabIs_of_head (rest := []) gTab gTabType Tryd.underlying50 Tryd.underlying3 Tryd.cellsInt cellsTab h
  have hc : ∀ (i : Nat) (hi : i < 10), W.cell? ⟨0, i, none⟩ = some (.int .i64 ([0, 0, 3, 0, 2, 10, 0, 8, 0, 0].getD i 0)) := fun i hi => ht.cell gTab i hi
  exact ⟨block_lt_of_cell (hc 0 (by omega)), hc 0 (by omega), hc 1 (by omega), hc 2 (by omega), hc 3 (by omega), hc 4 (by omega), hc 5 (by omega), hc 6 (by omega), hc 7 (by omega), hc 8 (by omega), hc 9 (by omega)⟩
/-- A world for the witness: the settled one, the table holding what its initialiser lays. -/
noncomputable def laidWorld (os : Os) : World :=
  { World.holding Tryd.prog os ⟨#[], #[], []⟩ with heap := (World.holding Tryd.prog os ⟨#[], #[], []⟩).heap.modify 0 fun
      | .cells _ t frozen => .cells #[.int .i64 0, .int .i64 0, .int .i64 3, .int .i64 0, .int .i64 2, .int .i64 10, .int .i64 0, .int .i64 8, .int .i64 0, .int .i64 0] t frozen
      | o => o }
theorem own : ownKnob Tryd.prog.godebug = none := by kernel_rfl
theorem contract (H : Type) (enc : TypeId × Value → H) (W : World) (base : Nat) (args : Array Value) (ds gs : List (DataW H)) (before : List MemPlace)
    (hval : ∀ (j : Nat) t v, Tryd.f4.params[j]? = some t → args[j]? = some v → Value.okWide Tryd.prog W .any base t v)
    (hW : DataW.Whole enc Tryd.prog Tryd.f4.params.toList Rows.reelKeepsSpec.vars false W args.toList ds gs before) (hL : laidMetH Tryd.prog Rows.reelKeepsRow.laid W) :
    Calls Tryd.prog 4 args W fun e W' => ∃ v, e = .returned v ∧ Rows.reelKeepsSpec.post enc Tryd.prog Tryd.f4 false true false false W args v W' := by
  have hW0 := hW
  obtain ⟨p, q, hA, hV, rfl, -, -⟩ := hW
  rw [Tryd.params4] at hA hval
  obtain ⟨v0, vs0, d0, ds0, p0, q0, hargs, rfl, rfl, h0, r0⟩ := trodAll_cons hA
  obtain ⟨v1, vs1, d1, ds1, p1, q1, rfl, rfl, rfl, h1, r1⟩ := trodAll_cons r0
  obtain ⟨v2, vs2, d2, ds2, p2, q2, rfl, rfl, rfl, h2, r2⟩ := trodAll_cons r1
  obtain ⟨v3, vs3, d3, ds3, p3, q3, rfl, rfl, rfl, h3, r3⟩ := trodAll_cons r2
  obtain ⟨rfl, rfl, rfl⟩ := trodAll_nil r3
  obtain rfl : args = #[v0, v1, v2, v3] := by cases args; simp_all
  obtain ⟨rfl, rfl⟩ := trodVars_none hV
  obtain ⟨aA, ac, al, rfl, an, ar, af⟩ := open_events (hval 0 _ _ rfl rfl) h0
  obtain ⟨b, rfl, rfl, rfl, bw⟩ := open_int Tryd.underlying3 (hval 1 _ _ rfl rfl) h1
  obtain ⟨d, rfl, rfl, rfl, dw⟩ := open_int Tryd.underlying3 (hval 2 _ _ rfl rfl) h2
  obtain ⟨e, rfl, rfl, rfl, ew⟩ := open_int Tryd.underlying3 (hval 3 _ _ rfl rfl) h3
  refine (walk_any aA ac al b d e W (table hL) ar an).mono fun e W' ⟨he, hb⟩ => ?_
  subst he
  exact ⟨_, rfl, law_post (by kernel_rfl) (by kernel_rfl) rfl Tryd.underlying4 rfl rfl hW0 hb⟩
theorem laid_met (os : Os) : laidMet Tryd.prog Rows.reelKeepsRow.laid (((laidWorld os)).forCall (fun _ _ => 0) ⟨#[], #[.slice none 0 0, .int .i64 0, .int .i64 0, .int .i64 0], []⟩).memory :=
  laidMet_of_run' 8 (by kernel_rfl) (by kernel_rfl)
theorem reads (os : Os) {H : Type} (enc : TypeId × Value → H) : ∃ places, DataW.whole enc Tryd.prog (((laidWorld os)).forCall (fun _ _ => 0) ⟨#[], #[.slice none 0 0, .int .i64 0, .int .i64 0, .int .i64 0], []⟩).memory Tryd.f4.params.toList Rows.reelKeepsSpec.vars false #[(.slice none 0 0 : Value), .int .i64 0, .int .i64 0, .int .i64 0].toList 8 = some ([.nil, .lit (.int .i64 0), .lit (.int .i64 0), .lit (.int .i64 0)], [], places) :=
  ⟨[], by kernel_rfl⟩
set_option maxRecDepth 100000 in
theorem lifted (os : Os) (started : os.Started) (H : Type) (enc : TypeId × Value → H) (F : Stop.Interp) :
    ReturnsInHanded {} Tryd.checked os 4 .any ((OpenSpec.ofChange Rows.reelKeepsSpec).preRow enc Tryd.prog Tryd.f4 Rows.reelKeepsRow.domain false Rows.reelKeepsRow.laid) (((OpenSpec.ofChange Rows.reelKeepsSpec).at F).post enc Tryd.prog Tryd.f4 false true false false) := by
  obtain ⟨places, hx⟩ := reads os enc
  refine returnsInHanded_of_row (C := Tryd.checked) (s := (OpenSpec.ofChange Rows.reelKeepsSpec)) own started (by kernel_rfl) Tryd.func4
    (witness_row_at (enc := enc) (C := Tryd.checked) false (laidWorld os) #[.slice none 0 0, .int .i64 0, .int .i64 0, .int .i64 0] rfl (by kernel_rfl) (by kernel_rfl) (by kernel_rfl)
      (OpenSpec.preRow_of_cond 8 hx (by kernel_rfl) (fun k hk => by cases hk) (by kernel_rfl) (laid_met os))) ?_
  intro W base args ds gs before hval hW _ _ _ hL _ _
  exact contract H enc W base args ds gs before hval hW hL
theorem said : Rows.ReelKeepsSaid :=
  OpenClaim.holds_of_cond 4 Tryd.f4 rfl rfl rfl rfl rfl rfl rfl ⟨rfl, rfl, rfl, rfl, rfl⟩ rfl rfl rfl rfl rfl (by kernel_rfl) Tryd.func4 (by kernel_rfl)
    (of_decide_eq_true (by kernel_rfl)) (by unfold Func.isWrapper; first | (rw [if_pos (by decide +kernel)]; kernel_rfl) | (rw [if_neg (by decide +kernel)]; exact ⟨rfl, rfl⟩))
    (fun os started H enc _ F => by rw [OpenClaim.pre_eq_preRow]; exact lifted os started H enc F)
theorem plain (f : FuncId) (fn : Func) (hf : Tryd.pinned.checked.prog.funcNamed "promptbook/promptbooklaw34.ReelKeeps" = some f) (hfn : Tryd.pinned.checked.prog.funcs[f]? = some fn) :
    false = Tryd.pinned.checked.prog.looks [] ∧ ∀ (j : Nat) t, fn.params[j]? = some t → Tryd.pinned.checked.prog.wantsStandIn t = false := by
  obtain rfl : f = 4 := Option.some.inj ((show Tryd.prog.funcNamed "promptbook/promptbooklaw34.ReelKeeps" = some 4 by kernel_rfl).symm.trans hf) |>.symm
  obtain rfl : fn = Tryd.f4 := (Option.some.inj (Tryd.func4.symm.trans hfn)).symm
  refine ⟨by kernel_rfl, fun j t ht => ?_⟩
  rw [Tryd.params4] at ht
  have hm := Array.mem_of_getElem? ht
  simp only [List.mem_toArray, List.mem_cons, List.not_mem_nil, or_false] at hm
  have hall : ∀ x ∈ [22, 3], Tryd.prog.wantsStandIn x = false := by
    intro x hx
    simp only [List.mem_cons, List.not_mem_nil, or_false] at hx
    rcases hx with rfl | rfl
    · exact (show Tryd.prog.wantsStandIn 22 = false by kernel_rfl)
    · exact (show Tryd.prog.wantsStandIn 3 = false by kernel_rfl)
  refine hall t ?_
  rcases hm with rfl | rfl | rfl | rfl <;> simp
/-- ████ ReelKeeps ████ -/
theorem card : Rows.ReelKeepsCardSaid :=
  Claim7.holds_tied_plain_at .later [] _ _ _ _ said (fun _ h => by cases h) (by kernel_rfl) (fun _ h => by cases h) reelKeeps_row_tie rfl ⟨rfl, rfl⟩ (by kernel_rfl) rfl plain (by kernel_rfl)
end Go.Proofs.YtillajaghkefbaaDoor.Keeps
