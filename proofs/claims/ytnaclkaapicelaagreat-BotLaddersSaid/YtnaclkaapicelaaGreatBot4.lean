/-
  What a bot goes by, laid out: the region that builds it.
-/
import Derived.Test.YtnaclkaapicelaaGreatBot3
import Derived.Test.YtnaclkaapicelaaGreatHeld
import Derived.Test.YtnaclkaapicelaaGreatRow
import Derived.Deep.DeepCutAuto
namespace Go.Proofs.YtnaclkaapicelaaGreat
open Go.RowKit
set_option maxRecDepth 100000
theorem vw_one (S : Nat → Int) (i : Nat) (d c : Int) : ∀ v ∈ vwCells S i d c, v.oneCell' = true := fun v hv => by
  simp only [vwCells, List.mem_append, List.mem_cons, List.not_mem_nil, or_false] at hv
  rcases hv with hv | hv | rfl | rfl | rfl
  · obtain ⟨j, -, rfl⟩ := List.mem_map.1 hv; rfl
  · obtain ⟨j, -, rfl⟩ := List.mem_map.1 hv; rfl
  all_goals rfl
theorem vw_length (S : Nat → Int) (i : Nat) (d c : Int) : (vwCells S i d c).length = 73 := by
  simp [vwCells, stCells_length, plCells_length]
theorem st_range {w : World} {g : Nat} {S : Nat → Int} (h : Blk w g 33 (stCells S).toArray) (i : Nat) (hi : i < 2) : w.rangeAt g (4 + i * 10) (plCells (getP S i)) := fun j v hv => by
  have hj : j < 10 := by have := (List.getElem?_eq_some_iff.1 hv).1; rwa [plCells_length] at this
  rw [st_cell h (4 + i * 10 + j) (by omega), kdS_p i j hi hj, ← hv]
  simp [plCells, rowOf, hj, getP]
theorem Tryz.infoVw : (Tryz.prog.info? 136).map (fun i => (i.zero, i.size, i.bytes)) = some (some (.agg (vwCells (fun _ => 0) 0 0 0).toArray), 73, 432) := by kernel_rfl
theorem alloc_vw (w : World) : (Instr.alloc 136 true (.tuple #[])).run Tryz.prog w = .ok (.pointer (some ⟨w.heap.size, 0, none⟩)) (w.alloc (.cells (vwCells (fun _ => 0) 0 0 0).toArray 136)) := by
  obtain ⟨i0, hi0, hz0, hz1, hz2⟩ := info_parts Tryz.infoVw
  simp [Instr.alloc, zeroValue, typeInfo, hi0, hz0, newVar, newRow, Value.cells]
theorem VwBlk.set71 {w : World} {g : Nat} {S : Nat → Int} {i : Nat} {d c : Int} (h : VwBlk w g S i d c) (v : Int) : VwBlk (w.setCell ⟨g, 71, none⟩ (.int .i32 v)) g S i v c := by
  have := Blk.set h 71 (.int .i32 v)
  unfold VwBlk
  have e : (vwCells S i v c).toArray = (vwCells S i d c).toArray.setIfInBounds 71 (.int .i32 v) := by
    rw [List.setIfInBounds_toArray]
    unfold vwCells
    rw [List.set_append_right _ _ (by rw [stCells_length]; decide), stCells_length, List.set_append_right _ _ (by rw [plCells_length]; decide), plCells_length]
    rfl
  rw [e]
  exact this
theorem VwBlk.set72 {w : World} {g : Nat} {S : Nat → Int} {i : Nat} {d c : Int} (h : VwBlk w g S i d c) (v : Int) : VwBlk (w.setCell ⟨g, 72, none⟩ (.int .i32 v)) g S i d v := by
  have := Blk.set h 72 (.int .i32 v)
  unfold VwBlk
  have e : (vwCells S i d v).toArray = (vwCells S i d c).toArray.setIfInBounds 72 (.int .i32 v) := by
    rw [List.setIfInBounds_toArray]
    unfold vwCells
    rw [List.set_append_right _ _ (by rw [stCells_length]; decide), stCells_length, List.set_append_right _ _ (by rw [plCells_length]; decide), plCells_length]
    rfl
  rw [e]
  exact this
theorem dotZ_f32 (S : Nat → Int) (i : Nat) : F32 (dotZ S i) := sat_bd _
theorem crossZ_f32 (S : Nat → Int) (i : Nat) : F32 (crossZ S i) := sat_bd _
theorem inB_iff' (n lo hi : Int) : inB n lo hi = true ↔ lo ≤ n ∧ n ≤ hi := by unfold inB; simp
theorem rightS_iff0 (S : Nat → Int) : rightS S = true → 0 ≤ S 0 ∧ S 0 ≤ 1073741824 := by
  intro h
  unfold rightS rightT at h
  simp only [Bool.and_eq_true] at h
  have := h.2.2.2.1
  unfold inB at this
  simpa using this
section
variable (S : Nat → Int) (w : World)
set_option maxHeartbeats 4000000 in
theorem press_0 (k : Nat) (hk : k ≤ 3) (hf : FitS S) (hr : rightS S = true) (hd : S (4 + 0 * 10 + 8) ≤ 0) : Calls Tryz.prog 46 #[.agg (stCells S).toArray, .int .i64 0, .int .i64 k] w fun e w' => e = .returned (.int .u8 (pressTo S 0 (k + 1))) ∧ Below w.heap.size w w' := by
  have hi : 0 < 2 := by decide
  have hS0 := rightS_iff0 S hr
  have HK := Lib.hid (show Blk (w.alloc (.cells (stCells S).toArray 33)) w.heap.size 33 (stCells S).toArray from Blk.new _ _ _)
  have hb : Below w.heap.size w (w.alloc (.cells (stCells S).toArray 33)) := bAlloc (Below.refl _ _) _
  have HR := Lib.hid (fun W => right_yes S W hr)
  have H0 := Lib.hid (show inB 0 0 1 = true by decide)
  have H1 := Lib.hid (show inB k 0 3 = true from inB_ok ⟨by omega, by omega⟩)
  have HSI := Lib.hid (fun W => sight_0 S hf W)
  have HTU := Lib.hid (fun W => turn_any S 0 (dotZ S 0) (crossZ S 0) W (dotZ_f32 _ _) (crossZ_f32 _ _))
  have HDR := Lib.hid (fun W => drive_any S 0 (dotZ S 0) (crossZ S 0) W hi hf)
  have HFI := Lib.hid (fun W => fire_any S 0 (dotZ S 0) (crossZ S 0) W (dotZ_f32 _ _) (crossZ_f32 _ _))
  have HDA := Lib.hid (fun W => dash_any S 0 (dotZ S 0) (crossZ S 0) W hf hS0)
  clear hf hr hS0
  obtain ⟨q, hq⟩ : ∃ q, S (4 + 0 * 10 + 8) = q := ⟨_, rfl⟩
  rw [hq] at hd
  have HD := Lib.hid hq
  clear hq
  go_enter Tryz.func46, Tryz.ntmps46
  go_upto_region 3 with (first | (refine wpList_load_midG rfl 33 (.tmp 3) rfl w.heap.size 0 rfl (stCells S) _ (Blk.range HK.out) Tryz.underlying33 rfl (by kernel_rfl) ?_) | (go_at_call 9; refine (HR.out _).mono ?_; rintro e w2 ⟨rfl, k2⟩; have HK2 := Lib.hid (HK.out.on k2); have c8 := st_down S 0 HK2.out hi; rw [HD.out] at c8; have hl2 := HK2.out.lt) | (go_at_call 47; first | ((with_reducible refine (bw 0 0 1 _ _ H0.out).mono ?_); rintro e w1 ⟨rfl, rfl⟩) | ((with_reducible refine (bw k 0 3 _ _ H1.out).mono ?_); rintro e w1 ⟨rfl, rfl⟩)))
  refine wp_region_held_drew (S := fun w' => w'.rangeAt w.heap.size 0 (stCells S) ∧ w'.rangeAt w.heap.size (4 + 0 * 10) (plCells (getP S 0))) (by kernel_rfl) ⟨Blk.range HK2.out, st_range HK2.out 0 hi⟩ (fun hHeld => ?_)
  refine wpAnyH_take (i := 0) (v := .agg (stCells S).toArray) rfl (by kernel_rfl) (by kernel_rfl) (by kernel_rfl) (fun _ _ _ h => h) (yieldsIf_load_mid (by rfl) 33 (.tmp 3) rfl w.heap.size 0 rfl (stCells S) _ (fun w h => h.1) Tryz.underlying33 rfl (by kernel_rfl)) hHeld ?_
  simp only [List.getElem_toArray, List.getElem_cons_zero, Act.put, List.setIfInBounds_toArray, List.set_cons_zero, List.set_cons_succ]
  refine wpAnyH_take (i := 1) (v := .int .i64 0) rfl (by kernel_rfl) (by kernel_rfl) (by kernel_rfl) (fun _ _ _ h => h) (yieldsIf_run (by rfl) (fun w => by kernel_rfl)) hHeld ?_
  simp only [List.getElem_toArray, List.getElem_cons_succ, List.getElem_cons_zero, Act.put, List.setIfInBounds_toArray, List.set_cons_zero, List.set_cons_succ]
  refine wpAnyH_take (i := 2) (v := .pointer (some ⟨w.heap.size, 4, none⟩)) rfl (by kernel_rfl) (by kernel_rfl) (by kernel_rfl) (fun _ _ _ h => h) (yieldsIf_run (by rfl) (fun w => by kernel_rfl)) hHeld ?_
  simp only [List.getElem_toArray, List.getElem_cons_succ, List.getElem_cons_zero, Act.put, List.setIfInBounds_toArray, List.set_cons_zero, List.set_cons_succ]
  refine wpAnyH_take (i := 3) (v := .pointer (some ⟨w.heap.size, 4 + 0 * 10, none⟩)) rfl (by kernel_rfl) (by kernel_rfl) (by kernel_rfl) (fun _ _ _ h => h) (yieldsIf_run (by rfl) (fun w => by kernel_rfl)) hHeld ?_
  simp only [List.getElem_toArray, List.getElem_cons_succ, List.getElem_cons_zero, Act.put, List.setIfInBounds_toArray, List.set_cons_zero, List.set_cons_succ]
  refine wpAnyH_take (i := 4) (v := .agg (plCells (getP S 0)).toArray) rfl (by kernel_rfl) (by kernel_rfl) (by kernel_rfl) (fun _ _ _ h => h) (yieldsIf_load_mid (by rfl) 27 (.tmp 35) rfl w.heap.size (4 + 0 * 10) rfl (plCells (getP S 0)) _ (fun w h => h.2) Tryz.underlying27 rfl (by kernel_rfl)) hHeld ?_
  simp only [List.getElem_toArray, List.getElem_cons_succ, List.getElem_cons_zero, Act.put, List.setIfInBounds_toArray, List.set_cons_zero, List.set_cons_succ]
  refine wpAnyH_take (i := 5) (v := .int .i64 0) rfl (by kernel_rfl) (by kernel_rfl) (by kernel_rfl) (fun _ _ _ h => h) (yieldsIf_run (by rfl) (fun w => by kernel_rfl)) hHeld ?_
  simp only [List.getElem_toArray, List.getElem_cons_succ, List.getElem_cons_zero, Act.put, List.setIfInBounds_toArray, List.set_cons_zero, List.set_cons_succ]
  refine wpAnyH_take (i := 6) (v := .agg (vwCells S 0 0 0).toArray) rfl (by kernel_rfl) (by kernel_rfl) (by kernel_rfl) (fun _ _ _ h => h) (yieldsIf_build (by rfl) 136 _ rfl _ (by kernel_rfl)) hHeld ?_
  simp only [List.getElem_toArray, List.getElem_cons_succ, List.getElem_cons_zero, Act.put, List.setIfInBounds_toArray, List.set_cons_zero, List.set_cons_succ]
  refine wpAnyH_all (rs := [7]) (by kernel_rfl) (by decide) (fun j hj => ?_)
  have hj7 : j = 7 := List.mem_singleton.1 hj
  subst hj7
  refine wpOp_wp rfl (by rfl) (wp_run (v := .pointer (some ⟨w2.heap.size, 0, none⟩)) (w' := w2.drew.alloc (.cells (vwCells (fun _ => 0) 0 0 0).toArray 136)) (by unfold execOp; rfl) ⟨?_, ?_⟩)
  · exact ⟨fun j v hv => (Below.cell ((Below.refl _ w2).drew.alloc (Nat.le_refl _) _) hl2).trans (hHeld.1 j v hv), fun j v hv => (Below.cell ((Below.refl _ w2).drew.alloc (Nat.le_refl _) _) hl2).trans (hHeld.2 j v hv)⟩
  simp only [List.getElem_toArray, List.getElem_cons_succ, List.getElem_cons_zero, Act.put, List.setIfInBounds_toArray, List.set_cons_zero, List.set_cons_succ]
  have HN := Lib.hid (Blk.new w2.drew 136 (vwCells (fun _ => 0) 0 0 0).toArray)
  refine wpAnyH_all (rs := [8]) (by kernel_rfl) (by decide) (fun j hj => ?_)
  have hj8 : j = 8 := List.mem_singleton.1 hj
  subst hj8
  refine wpOp_wp rfl (by rfl) ?_
  have hbW : Below w2.heap.size w2 ((w2.drew.alloc (.cells (vwCells (fun _ => 0) 0 0 0).toArray 136)).setCells w2.heap.size 0 (vwCells S 0 0 0)) := bSetCells ((Below.refl _ w2).drew.alloc (Nat.le_refl _) _) (Nat.le_refl _) _ _
  refine wp_store_mid 136 (.tmp 7) (.tmp 38) rfl w2.heap.size 0 (vwCells S 0 0 0).toArray rfl rfl (HN.out.there (by simp [vw_length])) (by kernel_rfl) (all_oneCell_toArray (vw_one S 0 0 0)) ⟨⟨?_, ?_⟩, ?_⟩
  · exact fun j v hv => (Below.cell hbW hl2).trans (hHeld.1 j v hv)
  · exact fun j v hv => (Below.cell hbW hl2).trans (hHeld.2 j v hv)
  refine wpAnyH_done (by kernel_rfl) ?_ _
  simp only [List.getElem_toArray, List.getElem_cons_succ, List.getElem_cons_zero, Act.put]
  have hvw : VwBlk ((w2.drew.alloc (.cells (vwCells (fun _ => 0) 0 0 0).toArray 136)).setCells w2.heap.size 0 (vwCells S 0 0 0)) w2.heap.size S 0 0 0 := HN.out.whole (vwCells S 0 0 0) (by simp [vw_length])
  obtain ⟨w3, hw3⟩ : ∃ w3, (w2.drew.alloc (.cells (vwCells (fun _ => 0) 0 0 0).toArray 136)).setCells w2.heap.size 0 (vwCells S 0 0 0) = w3 := ⟨_, rfl⟩
  have HK3 := Lib.hid (HK2.out.on hbW)
  have hb3 : Below w.heap.size w ((w2.drew.alloc (.cells (vwCells (fun _ => 0) 0 0 0).toArray 136)).setCells w2.heap.size 0 (vwCells S 0 0 0)) := bTrans (bTrans hb k2) hbW
  have hle : w.heap.size ≤ w2.heap.size := by omega
  rw [hw3] at hvw HK3 hb3 ⊢
  have HV3 := Lib.hid hvw
  have HB3 := Lib.hid hb3
  clear hw3 hbW hvw hb3 HN hHeld hj k2 hb c8 HK2 HK
  have hl3 : w2.heap.size < w3.heap.size := Blk.lt HV3.out
  go_wp2_with (first | (refine wpList_load_mid rfl 33 (.tmp 3) rfl w.heap.size 0 rfl (stCells S) _ (Blk.range HK3.out) Tryz.underlying33 rfl (by kernel_rfl) ?_))
  refine (HSI.out _).mono ?_
  rintro e w4 ⟨rfl, k4⟩
  have hv4 := Blk.on HV3.out k4
  have hb4 := bTrans HB3.out k4
  have e71 : w4.cell? ⟨w2.heap.size, 71, none⟩ = some (.int .i32 0) := VwBlk.dot hv4
  have e72 : w4.cell? ⟨w2.heap.size, 72, none⟩ = some (.int .i32 0) := VwBlk.cross hv4
  have y71 := Blk.frozen hv4 71
  have y72 := Blk.frozen hv4 72
  have hl4 : w2.heap.size < w4.heap.size := Blk.lt hv4
  have HV5 := Lib.hid ((VwBlk.set71 hv4 (dotZ S 0)).set72 (crossZ S 0))
  have HB5 := Lib.hid (bSetG (bSetG hb4 hle 71 (.int .i32 (dotZ S 0))) hle 72 (.int .i32 (crossZ S 0)))
  clear hv4 hb4 k4 HV3 HB3 HK3
  have hk4 : (k : Int) ≤ 3 := by omega
  go_upto_region 6 with fail
  obtain ⟨w5, hw5⟩ : ∃ w5, w5 = (w4.setCell ⟨w2.heap.size, 71, none⟩ (.int .i32 (dotZ S 0))).setCell ⟨w2.heap.size, 72, none⟩ (.int .i32 (crossZ S 0)) := ⟨_, rfl⟩
  rw [← hw5] at HV5 HB5 ⊢
  clear hw5 e71 e72 y71 y72 hl4 hl3
  have hfb : Blk (w5.alloc (.cells #[.func (.func 93) #[] #[], .func (.func 94) #[] #[], .func (.func 95) #[] #[], .func (.func 96) #[] #[]] 138)) w5.heap.size 138 #[.func (.func 93) #[] #[], .func (.func 94) #[] #[], .func (.func 95) #[] #[], .func (.func 96) #[] #[]] := Blk.new _ _ _
  have hvb := Lib.hid (Blk.alloc HV5.out (.cells #[.func (.func 93) #[] #[], .func (.func 94) #[] #[], .func (.func 95) #[] #[], .func (.func 96) #[] #[]] 138))
  have hbb := bAlloc HB5.out (.cells #[.func (.func 93) #[] #[], .func (.func 94) #[] #[], .func (.func 95) #[] #[], .func (.func 96) #[] #[]] 138)
  have hfh := Lib.hid hfb
  go_wp2_with fail
  obtain ⟨gf, hgf⟩ : ∃ gf, w5.heap.size = gf := ⟨_, rfl⟩
  obtain ⟨w6, hw6⟩ : ∃ w6, w5.alloc (.cells #[.func (.func 93) #[] #[], .func (.func 94) #[] #[], .func (.func 95) #[] #[], .func (.func 96) #[] #[]] 138) = w6 := ⟨_, rfl⟩
  rw [hw6] at hvb hbb hfh ⊢
  rw [hgf] at hfh ⊢
  clear hw6 hgf hfb HV5 HB5
  go_loopw [8, 52] (fun vin vi wr => ∃ j : Nat, j ≤ k + 1 ∧ vi = .int .i64 j ∧ vin = .int .u8 (pressTo S 0 j) ∧ Hid (VwBlk wr w2.heap.size S 0 (dotZ S 0) (crossZ S 0)) ∧ Hid (Blk wr gf 138 #[.func (.func 93) #[] #[], .func (.func 94) #[] #[], .func (.func 95) #[] #[], .func (.func 96) #[] #[]]) ∧ Below w.heap.size w wr) (fun _ i _ => (k + 1) - (intOf i).toNat)
  case atStart => exact ⟨0, by omega, rfl, by rw [pressTo_0], hvb, hfh, hbb⟩
  case round =>
    clear hvb hfh hbb
    obtain ⟨j, hj1, rfl, rfl, HV, HFN, hbr⟩ := hrel
    have f0 := HFN.out.cell 0
    have f1 := HFN.out.cell 1
    have f2 := HFN.out.cell 2
    have f3 := HFN.out.cell 3
    simp only [List.getElem?_toArray, List.getElem?_cons_zero, List.getElem?_cons_succ] at f0 f1 f2 f3
    by_cases hlt : j < k + 1
    · have hj4 : j = 0 ∨ j = 1 ∨ j = 2 ∨ j = 3 := by omega
      rcases hj4 with rfl | rfl | rfl | rfl
      · have HOR := or_0 S 0
        go_wp2_with (first | (refine wpList_load_row rfl 136 (.tmp 7) rfl w2.heap.size rfl 136 (vwCells S 0 (dotZ S 0) (crossZ S 0)).toArray (0, 0) _ HV.out Tryz.underlying136 rfl (by kernel_rfl) ?_) | (go_at_call 93; refine (HTU.out _).mono ?_; rintro e w7 ⟨rfl, k7⟩))
        go_roundw
        case rel => exact ⟨1, by omega, rfl, rfl, Lib.hid (Blk.on HV.out k7), Lib.hid (HFN.out.on k7), bTrans hbr k7⟩
        case measure => simp [intOf] <;> omega
      · have HOR := or_1 S 0
        go_wp2_with (first | (refine wpList_load_row rfl 136 (.tmp 7) rfl w2.heap.size rfl 136 (vwCells S 0 (dotZ S 0) (crossZ S 0)).toArray (0, 0) _ HV.out Tryz.underlying136 rfl (by kernel_rfl) ?_) | (go_at_call 94; refine (HDR.out _).mono ?_; rintro e w7 ⟨rfl, k7⟩))
        go_roundw
        case rel => exact ⟨2, by omega, rfl, rfl, Lib.hid (Blk.on HV.out k7), Lib.hid (HFN.out.on k7), bTrans hbr k7⟩
        case measure => simp [intOf] <;> omega
      · have HOR := or_2 S 0
        go_wp2_with (first | (refine wpList_load_row rfl 136 (.tmp 7) rfl w2.heap.size rfl 136 (vwCells S 0 (dotZ S 0) (crossZ S 0)).toArray (0, 0) _ HV.out Tryz.underlying136 rfl (by kernel_rfl) ?_) | (go_at_call 95; refine (HFI.out _).mono ?_; rintro e w7 ⟨rfl, k7⟩))
        go_roundw
        case rel => exact ⟨3, by omega, rfl, rfl, Lib.hid (Blk.on HV.out k7), Lib.hid (HFN.out.on k7), bTrans hbr k7⟩
        case measure => simp [intOf] <;> omega
      · have HOR := or_3 S 0
        go_wp2_with (first | (refine wpList_load_row rfl 136 (.tmp 7) rfl w2.heap.size rfl 136 (vwCells S 0 (dotZ S 0) (crossZ S 0)).toArray (0, 0) _ HV.out Tryz.underlying136 rfl (by kernel_rfl) ?_) | (go_at_call 96; refine (HDA.out _).mono ?_; rintro e w7 ⟨rfl, k7⟩))
        go_roundw
        case rel => exact ⟨4, by omega, rfl, rfl, Lib.hid (Blk.on HV.out k7), Lib.hid (HFN.out.on k7), bTrans hbr k7⟩
        case measure => simp [intOf] <;> omega
    · obtain rfl : j = k + 1 := by omega
      go_wp2
      go_ret
      exact ⟨rfl, hbr⟩
set_option maxHeartbeats 4000000 in
theorem press_1 (k : Nat) (hk : k ≤ 3) (hf : FitS S) (hr : rightS S = true) (hd : S (4 + 1 * 10 + 8) ≤ 0) : Calls Tryz.prog 46 #[.agg (stCells S).toArray, .int .i64 1, .int .i64 k] w fun e w' => e = .returned (.int .u8 (pressTo S 1 (k + 1))) ∧ Below w.heap.size w w' := by
  have hi : 1 < 2 := by decide
  have hS0 := rightS_iff0 S hr
  have HK := Lib.hid (show Blk (w.alloc (.cells (stCells S).toArray 33)) w.heap.size 33 (stCells S).toArray from Blk.new _ _ _)
  have hb : Below w.heap.size w (w.alloc (.cells (stCells S).toArray 33)) := bAlloc (Below.refl _ _) _
  have HR := Lib.hid (fun W => right_yes S W hr)
  have H0 := Lib.hid (show inB 1 0 1 = true by decide)
  have H1 := Lib.hid (show inB k 0 3 = true from inB_ok ⟨by omega, by omega⟩)
  have HSI := Lib.hid (fun W => sight_1 S hf W)
  have HTU := Lib.hid (fun W => turn_any S 1 (dotZ S 1) (crossZ S 1) W (dotZ_f32 _ _) (crossZ_f32 _ _))
  have HDR := Lib.hid (fun W => drive_any S 1 (dotZ S 1) (crossZ S 1) W hi hf)
  have HFI := Lib.hid (fun W => fire_any S 1 (dotZ S 1) (crossZ S 1) W (dotZ_f32 _ _) (crossZ_f32 _ _))
  have HDA := Lib.hid (fun W => dash_any S 1 (dotZ S 1) (crossZ S 1) W hf hS0)
  clear hf hr hS0
  obtain ⟨q, hq⟩ : ∃ q, S (4 + 1 * 10 + 8) = q := ⟨_, rfl⟩
  rw [hq] at hd
  have HD := Lib.hid hq
  clear hq
  go_enter Tryz.func46, Tryz.ntmps46
  go_upto_region 3 with (first | (refine wpList_load_midG rfl 33 (.tmp 3) rfl w.heap.size 0 rfl (stCells S) _ (Blk.range HK.out) Tryz.underlying33 rfl (by kernel_rfl) ?_) | (go_at_call 9; refine (HR.out _).mono ?_; rintro e w2 ⟨rfl, k2⟩; have HK2 := Lib.hid (HK.out.on k2); have c8 := st_down S 1 HK2.out hi; rw [HD.out] at c8; have hl2 := HK2.out.lt) | (go_at_call 47; first | ((with_reducible refine (bw 1 0 1 _ _ H0.out).mono ?_); rintro e w1 ⟨rfl, rfl⟩) | ((with_reducible refine (bw k 0 3 _ _ H1.out).mono ?_); rintro e w1 ⟨rfl, rfl⟩)))
  refine wp_region_held_drew (S := fun w' => w'.rangeAt w.heap.size 0 (stCells S) ∧ w'.rangeAt w.heap.size (4 + 1 * 10) (plCells (getP S 1))) (by kernel_rfl) ⟨Blk.range HK2.out, st_range HK2.out 1 hi⟩ (fun hHeld => ?_)
  refine wpAnyH_take (i := 0) (v := .agg (stCells S).toArray) rfl (by kernel_rfl) (by kernel_rfl) (by kernel_rfl) (fun _ _ _ h => h) (yieldsIf_load_mid (by rfl) 33 (.tmp 3) rfl w.heap.size 0 rfl (stCells S) _ (fun w h => h.1) Tryz.underlying33 rfl (by kernel_rfl)) hHeld ?_
  simp only [List.getElem_toArray, List.getElem_cons_zero, Act.put, List.setIfInBounds_toArray, List.set_cons_zero, List.set_cons_succ]
  refine wpAnyH_take (i := 1) (v := .int .i64 1) rfl (by kernel_rfl) (by kernel_rfl) (by kernel_rfl) (fun _ _ _ h => h) (yieldsIf_run (by rfl) (fun w => by kernel_rfl)) hHeld ?_
  simp only [List.getElem_toArray, List.getElem_cons_succ, List.getElem_cons_zero, Act.put, List.setIfInBounds_toArray, List.set_cons_zero, List.set_cons_succ]
  refine wpAnyH_take (i := 2) (v := .pointer (some ⟨w.heap.size, 4, none⟩)) rfl (by kernel_rfl) (by kernel_rfl) (by kernel_rfl) (fun _ _ _ h => h) (yieldsIf_run (by rfl) (fun w => by kernel_rfl)) hHeld ?_
  simp only [List.getElem_toArray, List.getElem_cons_succ, List.getElem_cons_zero, Act.put, List.setIfInBounds_toArray, List.set_cons_zero, List.set_cons_succ]
  refine wpAnyH_take (i := 3) (v := .pointer (some ⟨w.heap.size, 4 + 1 * 10, none⟩)) rfl (by kernel_rfl) (by kernel_rfl) (by kernel_rfl) (fun _ _ _ h => h) (yieldsIf_run (by rfl) (fun w => by kernel_rfl)) hHeld ?_
  simp only [List.getElem_toArray, List.getElem_cons_succ, List.getElem_cons_zero, Act.put, List.setIfInBounds_toArray, List.set_cons_zero, List.set_cons_succ]
  refine wpAnyH_take (i := 4) (v := .agg (plCells (getP S 1)).toArray) rfl (by kernel_rfl) (by kernel_rfl) (by kernel_rfl) (fun _ _ _ h => h) (yieldsIf_load_mid (by rfl) 27 (.tmp 35) rfl w.heap.size (4 + 1 * 10) rfl (plCells (getP S 1)) _ (fun w h => h.2) Tryz.underlying27 rfl (by kernel_rfl)) hHeld ?_
  simp only [List.getElem_toArray, List.getElem_cons_succ, List.getElem_cons_zero, Act.put, List.setIfInBounds_toArray, List.set_cons_zero, List.set_cons_succ]
  refine wpAnyH_take (i := 5) (v := .int .i64 1) rfl (by kernel_rfl) (by kernel_rfl) (by kernel_rfl) (fun _ _ _ h => h) (yieldsIf_run (by rfl) (fun w => by kernel_rfl)) hHeld ?_
  simp only [List.getElem_toArray, List.getElem_cons_succ, List.getElem_cons_zero, Act.put, List.setIfInBounds_toArray, List.set_cons_zero, List.set_cons_succ]
  refine wpAnyH_take (i := 6) (v := .agg (vwCells S 1 0 0).toArray) rfl (by kernel_rfl) (by kernel_rfl) (by kernel_rfl) (fun _ _ _ h => h) (yieldsIf_build (by rfl) 136 _ rfl _ (by kernel_rfl)) hHeld ?_
  simp only [List.getElem_toArray, List.getElem_cons_succ, List.getElem_cons_zero, Act.put, List.setIfInBounds_toArray, List.set_cons_zero, List.set_cons_succ]
  refine wpAnyH_all (rs := [7]) (by kernel_rfl) (by decide) (fun j hj => ?_)
  have hj7 : j = 7 := List.mem_singleton.1 hj
  subst hj7
  refine wpOp_wp rfl (by rfl) (wp_run (v := .pointer (some ⟨w2.heap.size, 0, none⟩)) (w' := w2.drew.alloc (.cells (vwCells (fun _ => 0) 0 0 0).toArray 136)) (by unfold execOp; rfl) ⟨?_, ?_⟩)
  · exact ⟨fun j v hv => (Below.cell ((Below.refl _ w2).drew.alloc (Nat.le_refl _) _) hl2).trans (hHeld.1 j v hv), fun j v hv => (Below.cell ((Below.refl _ w2).drew.alloc (Nat.le_refl _) _) hl2).trans (hHeld.2 j v hv)⟩
  simp only [List.getElem_toArray, List.getElem_cons_succ, List.getElem_cons_zero, Act.put, List.setIfInBounds_toArray, List.set_cons_zero, List.set_cons_succ]
  have HN := Lib.hid (Blk.new w2.drew 136 (vwCells (fun _ => 0) 0 0 0).toArray)
  refine wpAnyH_all (rs := [8]) (by kernel_rfl) (by decide) (fun j hj => ?_)
  have hj8 : j = 8 := List.mem_singleton.1 hj
  subst hj8
  refine wpOp_wp rfl (by rfl) ?_
  have hbW : Below w2.heap.size w2 ((w2.drew.alloc (.cells (vwCells (fun _ => 0) 0 0 0).toArray 136)).setCells w2.heap.size 0 (vwCells S 1 0 0)) := bSetCells ((Below.refl _ w2).drew.alloc (Nat.le_refl _) _) (Nat.le_refl _) _ _
  refine wp_store_mid 136 (.tmp 7) (.tmp 38) rfl w2.heap.size 0 (vwCells S 1 0 0).toArray rfl rfl (HN.out.there (by simp [vw_length])) (by kernel_rfl) (all_oneCell_toArray (vw_one S 1 0 0)) ⟨⟨?_, ?_⟩, ?_⟩
  · exact fun j v hv => (Below.cell hbW hl2).trans (hHeld.1 j v hv)
  · exact fun j v hv => (Below.cell hbW hl2).trans (hHeld.2 j v hv)
  refine wpAnyH_done (by kernel_rfl) ?_ _
  simp only [List.getElem_toArray, List.getElem_cons_succ, List.getElem_cons_zero, Act.put]
  have hvw : VwBlk ((w2.drew.alloc (.cells (vwCells (fun _ => 0) 0 0 0).toArray 136)).setCells w2.heap.size 0 (vwCells S 1 0 0)) w2.heap.size S 1 0 0 := HN.out.whole (vwCells S 1 0 0) (by simp [vw_length])
  obtain ⟨w3, hw3⟩ : ∃ w3, (w2.drew.alloc (.cells (vwCells (fun _ => 0) 0 0 0).toArray 136)).setCells w2.heap.size 0 (vwCells S 1 0 0) = w3 := ⟨_, rfl⟩
  have HK3 := Lib.hid (HK2.out.on hbW)
  have hb3 : Below w.heap.size w ((w2.drew.alloc (.cells (vwCells (fun _ => 0) 0 0 0).toArray 136)).setCells w2.heap.size 0 (vwCells S 1 0 0)) := bTrans (bTrans hb k2) hbW
  have hle : w.heap.size ≤ w2.heap.size := by omega
  rw [hw3] at hvw HK3 hb3 ⊢
  have HV3 := Lib.hid hvw
  have HB3 := Lib.hid hb3
  clear hw3 hbW hvw hb3 HN hHeld hj k2 hb c8 HK2 HK
  have hl3 : w2.heap.size < w3.heap.size := Blk.lt HV3.out
  go_wp2_with (first | (refine wpList_load_mid rfl 33 (.tmp 3) rfl w.heap.size 0 rfl (stCells S) _ (Blk.range HK3.out) Tryz.underlying33 rfl (by kernel_rfl) ?_))
  refine (HSI.out _).mono ?_
  rintro e w4 ⟨rfl, k4⟩
  have hv4 := Blk.on HV3.out k4
  have hb4 := bTrans HB3.out k4
  have e71 : w4.cell? ⟨w2.heap.size, 71, none⟩ = some (.int .i32 0) := VwBlk.dot hv4
  have e72 : w4.cell? ⟨w2.heap.size, 72, none⟩ = some (.int .i32 0) := VwBlk.cross hv4
  have y71 := Blk.frozen hv4 71
  have y72 := Blk.frozen hv4 72
  have hl4 : w2.heap.size < w4.heap.size := Blk.lt hv4
  have HV5 := Lib.hid ((VwBlk.set71 hv4 (dotZ S 1)).set72 (crossZ S 1))
  have HB5 := Lib.hid (bSetG (bSetG hb4 hle 71 (.int .i32 (dotZ S 1))) hle 72 (.int .i32 (crossZ S 1)))
  clear hv4 hb4 k4 HV3 HB3 HK3
  have hk4 : (k : Int) ≤ 3 := by omega
  go_upto_region 6 with fail
  obtain ⟨w5, hw5⟩ : ∃ w5, w5 = (w4.setCell ⟨w2.heap.size, 71, none⟩ (.int .i32 (dotZ S 1))).setCell ⟨w2.heap.size, 72, none⟩ (.int .i32 (crossZ S 1)) := ⟨_, rfl⟩
  rw [← hw5] at HV5 HB5 ⊢
  clear hw5 e71 e72 y71 y72 hl4 hl3
  have hfb : Blk (w5.alloc (.cells #[.func (.func 93) #[] #[], .func (.func 94) #[] #[], .func (.func 95) #[] #[], .func (.func 96) #[] #[]] 138)) w5.heap.size 138 #[.func (.func 93) #[] #[], .func (.func 94) #[] #[], .func (.func 95) #[] #[], .func (.func 96) #[] #[]] := Blk.new _ _ _
  have hvb := Lib.hid (Blk.alloc HV5.out (.cells #[.func (.func 93) #[] #[], .func (.func 94) #[] #[], .func (.func 95) #[] #[], .func (.func 96) #[] #[]] 138))
  have hbb := bAlloc HB5.out (.cells #[.func (.func 93) #[] #[], .func (.func 94) #[] #[], .func (.func 95) #[] #[], .func (.func 96) #[] #[]] 138)
  have hfh := Lib.hid hfb
  go_wp2_with fail
  obtain ⟨gf, hgf⟩ : ∃ gf, w5.heap.size = gf := ⟨_, rfl⟩
  obtain ⟨w6, hw6⟩ : ∃ w6, w5.alloc (.cells #[.func (.func 93) #[] #[], .func (.func 94) #[] #[], .func (.func 95) #[] #[], .func (.func 96) #[] #[]] 138) = w6 := ⟨_, rfl⟩
  rw [hw6] at hvb hbb hfh ⊢
  rw [hgf] at hfh ⊢
  clear hw6 hgf hfb HV5 HB5
  go_loopw [8, 52] (fun vin vi wr => ∃ j : Nat, j ≤ k + 1 ∧ vi = .int .i64 j ∧ vin = .int .u8 (pressTo S 1 j) ∧ Hid (VwBlk wr w2.heap.size S 1 (dotZ S 1) (crossZ S 1)) ∧ Hid (Blk wr gf 138 #[.func (.func 93) #[] #[], .func (.func 94) #[] #[], .func (.func 95) #[] #[], .func (.func 96) #[] #[]]) ∧ Below w.heap.size w wr) (fun _ i _ => (k + 1) - (intOf i).toNat)
  case atStart => exact ⟨0, by omega, rfl, by rw [pressTo_0], hvb, hfh, hbb⟩
  case round =>
    clear hvb hfh hbb
    obtain ⟨j, hj1, rfl, rfl, HV, HFN, hbr⟩ := hrel
    have f0 := HFN.out.cell 0
    have f1 := HFN.out.cell 1
    have f2 := HFN.out.cell 2
    have f3 := HFN.out.cell 3
    simp only [List.getElem?_toArray, List.getElem?_cons_zero, List.getElem?_cons_succ] at f0 f1 f2 f3
    by_cases hlt : j < k + 1
    · have hj4 : j = 0 ∨ j = 1 ∨ j = 2 ∨ j = 3 := by omega
      rcases hj4 with rfl | rfl | rfl | rfl
      · have HOR := or_0 S 1
        go_wp2_with (first | (refine wpList_load_row rfl 136 (.tmp 7) rfl w2.heap.size rfl 136 (vwCells S 1 (dotZ S 1) (crossZ S 1)).toArray (0, 0) _ HV.out Tryz.underlying136 rfl (by kernel_rfl) ?_) | (go_at_call 93; refine (HTU.out _).mono ?_; rintro e w7 ⟨rfl, k7⟩))
        go_roundw
        case rel => exact ⟨1, by omega, rfl, rfl, Lib.hid (Blk.on HV.out k7), Lib.hid (HFN.out.on k7), bTrans hbr k7⟩
        case measure => simp [intOf] <;> omega
      · have HOR := or_1 S 1
        go_wp2_with (first | (refine wpList_load_row rfl 136 (.tmp 7) rfl w2.heap.size rfl 136 (vwCells S 1 (dotZ S 1) (crossZ S 1)).toArray (0, 0) _ HV.out Tryz.underlying136 rfl (by kernel_rfl) ?_) | (go_at_call 94; refine (HDR.out _).mono ?_; rintro e w7 ⟨rfl, k7⟩))
        go_roundw
        case rel => exact ⟨2, by omega, rfl, rfl, Lib.hid (Blk.on HV.out k7), Lib.hid (HFN.out.on k7), bTrans hbr k7⟩
        case measure => simp [intOf] <;> omega
      · have HOR := or_2 S 1
        go_wp2_with (first | (refine wpList_load_row rfl 136 (.tmp 7) rfl w2.heap.size rfl 136 (vwCells S 1 (dotZ S 1) (crossZ S 1)).toArray (0, 0) _ HV.out Tryz.underlying136 rfl (by kernel_rfl) ?_) | (go_at_call 95; refine (HFI.out _).mono ?_; rintro e w7 ⟨rfl, k7⟩))
        go_roundw
        case rel => exact ⟨3, by omega, rfl, rfl, Lib.hid (Blk.on HV.out k7), Lib.hid (HFN.out.on k7), bTrans hbr k7⟩
        case measure => simp [intOf] <;> omega
      · have HOR := or_3 S 1
        go_wp2_with (first | (refine wpList_load_row rfl 136 (.tmp 7) rfl w2.heap.size rfl 136 (vwCells S 1 (dotZ S 1) (crossZ S 1)).toArray (0, 0) _ HV.out Tryz.underlying136 rfl (by kernel_rfl) ?_) | (go_at_call 96; refine (HDA.out _).mono ?_; rintro e w7 ⟨rfl, k7⟩))
        go_roundw
        case rel => exact ⟨4, by omega, rfl, rfl, Lib.hid (Blk.on HV.out k7), Lib.hid (HFN.out.on k7), bTrans hbr k7⟩
        case measure => simp [intOf] <;> omega
    · obtain rfl : j = k + 1 := by omega
      go_wp2
      go_ret
      exact ⟨rfl, hbr⟩
/-- What a bot presses. -/
theorem press_any (who skill : Int) (hf : FitS S) : Calls Tryz.prog 46 #[.agg (stCells S).toArray, .int .i64 who, .int .i64 skill] w fun e w' => e = .returned (.int .u8 (pressZ S who skill)) ∧ Below w.heap.size w w' := by
  cases hc : (inB who 0 1 && (inB skill 0 3 && rightS S))
  · have : pressZ S who skill = 0 := by
      unfold pressZ
      rw [if_neg]
      intro h
      simp only [Bool.and_eq_true] at h
      simp [h.1, h.2.1, h.2.2.1] at hc
    rw [this]
    exact press_no S who skill w hc
  · simp only [Bool.and_eq_true, inB_iff'] at hc
    obtain ⟨⟨h0, h1⟩, ⟨h2, h3⟩, hr⟩ := hc
    obtain ⟨i, rfl⟩ := Int.eq_ofNat_of_zero_le h0
    obtain ⟨k, rfl⟩ := Int.eq_ofNat_of_zero_le h2
    have hi : i < 2 := by omega
    have hk : k ≤ 3 := by omega
    have b0 : inB (i : Int) 0 1 = true := inB_ok ⟨h0, h1⟩
    have b1 : inB (k : Int) 0 3 = true := inB_ok ⟨h2, h3⟩
    unfold pressZ
    rw [b0, b1, hr, Int.toNat_natCast, Int.toNat_natCast]
    by_cases hd : 0 < S (4 + i * 10 + 8)
    · have e : downB S i = true := decide_eq_true hd
      rw [e]
      exact press_down S i w k hi hk hr hd
    · have e : downB S i = false := decide_eq_false hd
      rw [e]
      have hi2 : i = 0 ∨ i = 1 := by omega
      rcases hi2 with rfl | rfl
      · exact press_0 S w k hk hf hr (by omega)
      · exact press_1 S w k hk hf hr (by omega)
end
end Go.Proofs.YtnaclkaapicelaaGreat
