/-
  GameSteps: a step of the game and the document's, from any state.
-/
import Derived.Test.YtnaclkaapicelaaGreatMRuns
import Derived.Test.YtnaclkaapicelaaGreatMOrd
import Derived.Test.YtnaclkaapicelaaGreatMa5
namespace Go.Proofs.YtnaclkaapicelaaGreat
open Go.RowKit
set_option maxRecDepth 100000
set_option linter.unusedSimpArgs false
theorem st_neq (T : Nat → Int) (w : World) : (binOp .neq 33 (.agg (stCells T).toArray) (.agg (stCells T).toArray)).run Tryz.prog w = .ok (.bool false) w := by
  have hX : (rowOf 60 T).length = (rowOf 60 kdS).length := by rw [rowOf_length, rowOf_length]
  have e : stCells T = ivals (rowOf 60 kdS) (rowOf 60 T) := by
    rw [ivals_row _ _ _ (rowOf_length _ _)]
    unfold stCells rowOf
    refine List.map_congr_left fun i hi => ?_
    have : i < 60 := by simpa using hi
    simp [List.getD_eq_getElem?_getD, this]
  have := neq_ints st_kinds (fun cs => by unfold valOf; rw [Tryz.underlying33]) (rowOf 60 T) (rowOf 60 T) hX hX e e w
  simpa using this
section
variable {S : Nat → Int} {n0 n1 : Nat} {seed : Int} {w : World}
set_option maxHeartbeats 16000000 in
theorem steps_bad (hE : stepE S n0 n1 ≠ 0) :
    Calls Tryz.prog 3 #[.agg (stCells S).toArray, .agg #[.int .u8 n0, .int .u8 n1], .int .u32 seed] w fun e w' => e = .returned (.bool true) ∧ Below w.heap.size w w' := by
  have hst := fun W => gStep_no (w := W) hE
  obtain ⟨TZ, htz⟩ : ∃ TZ, zeroT = TZ := ⟨_, rfl⟩
  obtain ⟨CZ, hcz⟩ : ∃ CZ : Array Value, (stCells TZ).toArray = CZ := ⟨_, rfl⟩
  have hbz := built_zero
  rw [htz] at hst hbz
  rw [hcz] at hst hbz
  obtain ⟨e0, he0⟩ : ∃ e0, stepE S n0 n1 = e0 := ⟨_, rfl⟩
  rw [he0] at hst
  have hsz : CZ.size = 60 := by rw [← hcz, List.size_toArray, stCells_length]
  have H1C : Hid (CZ.all (·.oneCell') = true) := Lib.hid (by rw [← hcz]; exact all_oneCell_toArray (int_one _))
  have HSZ : Hid ((Tryz.prog.info? 33).map (·.size) = some CZ.size) := Lib.hid (by rw [hsz]; kernel_rfl)
  have HEQ : Hid (∀ W : World, (binOp .eql 33 (.agg (stCells TZ).toArray) (.agg CZ)).run Tryz.prog W = .ok (.bool true) W) := Lib.hid (fun W => by rw [← hcz]; exact st_eql TZ W)
  have HSI := Lib.hid hsz
  have HCZ := Lib.hid hcz
  have HST := Lib.hid hst
  have HBZ := Lib.hid hbz
  have HE := Lib.hid hE
  have HE0 := Lib.hid he0
  have HRR := Lib.hid (fun W => r12Right_any S W)
  clear hst hcz hsz hbz htz hE he0
  obtain ⟨CB, hcb⟩ : ∃ CB : Array Value, (stCells (beginS seed)).toArray = CB := ⟨_, rfl⟩
  have hbeg := fun W => gBegin_any seed W
  have hrbg := fun W => r12Begin_any seed W
  have hne := fun (W : World) => st_neq (beginS seed) W
  rw [hcb] at hbeg hrbg
  rw [hcb] at hne
  have HBEG := Lib.hid hbeg
  have HRBG := Lib.hid hrbg
  have HNE := Lib.hid hne
  clear hbeg hrbg hcb hne
  go_enter Tryz.func3, Tryz.ntmps3
  go_upto_region 1 with fail
  refine named2 (F := fun W => Code.wp _ _ _ _ W) ?_
  intro w1 k0 k1 hb1 hz1
  have HK1 := Lib.hid k0
  have HI1 := Lib.hid k1
  have HB1 := Lib.hid hb1
  clear k0 k1 hb1 hz1
  go_upto_region 3 with (first | (go_at_call 7; refine (awake12_any _).mono ?_; rintro e w2 ⟨rfl, hb2⟩; have HK2 := Lib.hid (HK1.out.on hb2); have HI2 := Lib.hid (HI1.out.on hb2); have HB2 := Lib.hid (bTrans HB1.out hb2); clear hb2))
  clear HK1 HI1 HB1
  have hls := HK2.out.lt
  have i0 := HI2.out.cell 0
  have i1 := HI2.out.cell 1
  have hli := HI2.out.lt
  simp only [List.getElem?_toArray, List.getElem?_cons_zero, List.getElem?_cons_succ] at i0 i1
  go_upto_region 4 with (first
    | (refine wpList_load_mid rfl 33 (.tmp 3) rfl w.heap.size 0 rfl (stCells S) _ (Blk.range HK2.out) Tryz.underlying33 rfl (by kernel_rfl) ?_)
    | (go_at_call 8; refine (HST.out _).mono ?_; rintro e w3 ⟨rfl, hb3⟩; have HK3 := Lib.hid (HK2.out.on hb3); have HI3 := Lib.hid (HI2.out.on hb3); have HB3 := Lib.hid (bTrans HB2.out hb3); clear hb3)
    | (refine wpList_store_mid rfl 33 (.tmp 7) (.tmp 18) rfl w3.heap.size 0 CZ rfl rfl (there_new _ _ _ (by rw [HSI.out]; rfl)) HSZ.out H1C.out ?_))
  refine named_put (F := fun W => Code.wp _ _ _ _ W) (by rw [Array.length_toList, HSI.out]; rfl) ?_
  intro w4 hk4 hb4 hz4
  rw [Array.toArray_toList, ← HCZ.out] at hk4
  have HK4 := Lib.hid (HK3.out.on hb4)
  have HI4 := Lib.hid (HI3.out.on hb4)
  have HB4 := Lib.hid (bTrans HB3.out hb4)
  have HN4 := Lib.hid hk4
  have hgl := hk4.lt
  obtain ⟨gn, hgn⟩ : ∃ gn, w3.heap.size = gn := ⟨_, rfl⟩
  rw [hgn] at HN4 hgl ⊢
  clear hk4 hb4 hz4 hgn HST HK2 HI2 HB2 HK3 HI3 HB3 HSZ H1C HSI hls i0 i1 hli
  have hls4 := HK4.out.lt
  have hKp := Keeps.base w4
  refine wp_region_mixed [.held, .make, .held, .make, .pure, .pure, .pure, .make, .pure, .make, .pure, .pure] (fun | 1 => valF (.bool (rightS S)) | 3 => valF (.bool (rightS S)) | _ => valF (.agg CB)) (by kernel_rfl) (by kernel_rfl) ?_
  refine mix_load rfl rfl (by assumption) 33 (.tmp 3) rfl w.heap.size 0 rfl (stCells S) _ hls4 (Blk.range HK4.out) Tryz.underlying33 rfl (by kernel_rfl) ?_
  simp only [Act.put, List.setIfInBounds_toArray, List.set_cons_zero, List.set_cons_succ]
  refine mix_make rfl rfl (by assumption) valF_st (fun W hW => ?_) ?_
  · have HS2 := Lib.hid (valF_of (gRight_any S W))
    go_simp
    exact HS2.out
  rintro _ rfl hKp2
  simp only [Act.put, List.setIfInBounds_toArray, List.set_cons_zero, List.set_cons_succ]
  refine mix_load rfl rfl (by assumption) 33 (.tmp 3) rfl w.heap.size 0 rfl (stCells S) _ hls4 (Blk.range HK4.out) Tryz.underlying33 rfl (by kernel_rfl) ?_
  simp only [Act.put, List.setIfInBounds_toArray, List.set_cons_zero, List.set_cons_succ]
  refine mix_make rfl rfl (by assumption) valF_st (fun W hW => ?_) ?_
  · have HS2 := Lib.hid (valF_of (r12Right_any S W))
    go_simp
    exact HS2.out
  rintro _ rfl hKp3
  simp only [Act.put, List.setIfInBounds_toArray, List.set_cons_zero, List.set_cons_succ]
  (refine mix_pure rfl rfl rfl (fun K hK => ?_); go_big_quiet_op; refine hK _ ?_; clear hK K)
  (refine mix_pure rfl rfl rfl (fun K hK => ?_); go_big_quiet_op; refine hK _ ?_; clear hK K)
  (refine mix_pure rfl rfl rfl (fun K hK => ?_); go_big_quiet_op; refine hK _ ?_; clear hK K)
  refine mix_make rfl rfl (by assumption) valF_st (fun W hW => ?_) ?_
  · have HS2 := Lib.hid (valF_of (HBEG.out W))
    go_simp
    exact HS2.out
  rintro _ rfl hKp4
  simp only [Act.put, List.setIfInBounds_toArray, List.set_cons_zero, List.set_cons_succ]
  (refine mix_pure rfl rfl rfl (fun K hK => ?_); go_big_quiet_op; refine hK _ ?_; clear hK K)
  refine mix_make rfl rfl (by assumption) valF_st (fun W hW => ?_) ?_
  · have HS2 := Lib.hid (valF_of (HRBG.out W))
    go_simp
    exact HS2.out
  rintro _ rfl hKp5
  simp only [Act.put, List.setIfInBounds_toArray, List.set_cons_zero, List.set_cons_succ]
  refine mix_run (.bool false) rfl rfl (runs_neq rfl rfl rfl (by kernel_rfl) HNE.out) ?_
  simp only [Act.put, List.setIfInBounds_toArray, List.set_cons_zero, List.set_cons_succ]
  (refine mix_pure rfl rfl rfl (fun K hK => ?_); go_big_quiet_op; refine hK _ ?_; clear hK K)
  refine mix_nil ?_
  rintro w5 ⟨⟨⟨⟨hg, -⟩, -⟩, -⟩, -⟩
  have hg : Grown w4 w5 := hg
  have HK5 := Lib.hid (HK4.out.on hg)
  have HI5 := Lib.hid (HI4.out.on hg)
  have HB5 := Lib.hid (bTrans HB4.out hg)
  have HN5 := Lib.hid (HN4.out.on hg)
  have hls := HK5.out.lt
  have hli := HI5.out.lt
  clear HK4 HI4 HB4 HN4 hls4 hKp hKp2 hKp3 hKp4 hKp5 hg hgl HBEG HRBG HNE
  have hE := HE.out
  have hE0 := HE0.out
  unfold stepE at hE hE0
  cases hr : rightS S
  · as_aux_lemma =>
      have h1 : e0 = 1 := by rw [← hE0, if_pos (.inl hr)]
      subst h1
      rw [hr] at HRR
      clear hE hE0 hr
      go_wp2_with (first
        | (refine wpList_load_mid rfl 33 (.tmp 3) rfl w.heap.size 0 rfl (stCells S) _ (Blk.range HK5.out) Tryz.underlying33 rfl (by kernel_rfl) ?_)
        | (go_at_call 10; refine (HRR.out _).mono ?_; rintro e w6 ⟨rfl, hb6⟩; have HN6 := Lib.hid (HN5.out.on hb6); have HB6 := Lib.hid (bTrans HB5.out hb6); have k6 := HK5.out.on hb6; have f0 : w6.cell? ⟨w.heap.size, 0, none⟩ = some (.int .i64 (S 0)) := st_cell k6 0 (by decide); have l6 := k6.lt; have i0 := (HI5.out.on hb6).cell 0; have i1 := (HI5.out.on hb6).cell 1; have li6 := (HI5.out.on hb6).lt; simp only [List.getElem?_toArray, List.getElem?_cons_zero, List.getElem?_cons_succ] at i0 i1; clear hb6 k6)
        | (refine wpList_load_mid rfl 33 (.tmp 7) rfl gn 0 rfl (stCells TZ) _ (Blk.range HN6.out) Tryz.underlying33 rfl (by kernel_rfl) ?_)
        | (refine wpList_built rfl 33 [] rfl CZ [] rfl HBZ.out ?_)
        | (refine wpList_runs (.bool true) rfl (runs_eql rfl rfl rfl (by kernel_rfl) HEQ.out _) ?_))
      all_goals (go_ret; exact ⟨rfl, HB6.out⟩)
  · rw [hr] at HRR
    by_cases h64 : 64 ≤ n0
    · as_aux_lemma =>
        have h1 : e0 = 1 := by rw [← hE0, if_pos (.inr (.inl h64))]
        subst h1
        have gx : decide ((63 : Int) < (n0 : Int)) = true := decide_eq_true (by omega)
        clear hE hE0 hr h64
        go_wp2_with (first
          | (refine wpList_load_mid rfl 33 (.tmp 3) rfl w.heap.size 0 rfl (stCells S) _ (Blk.range HK5.out) Tryz.underlying33 rfl (by kernel_rfl) ?_)
          | (go_at_call 10; refine (HRR.out _).mono ?_; rintro e w6 ⟨rfl, hb6⟩; have HN6 := Lib.hid (HN5.out.on hb6); have HB6 := Lib.hid (bTrans HB5.out hb6); have k6 := HK5.out.on hb6; have f0 : w6.cell? ⟨w.heap.size, 0, none⟩ = some (.int .i64 (S 0)) := st_cell k6 0 (by decide); have l6 := k6.lt; have i0 := (HI5.out.on hb6).cell 0; have i1 := (HI5.out.on hb6).cell 1; have li6 := (HI5.out.on hb6).lt; simp only [List.getElem?_toArray, List.getElem?_cons_zero, List.getElem?_cons_succ] at i0 i1; clear hb6 k6)
          | (refine wpList_load_mid rfl 33 (.tmp 7) rfl gn 0 rfl (stCells TZ) _ (Blk.range HN6.out) Tryz.underlying33 rfl (by kernel_rfl) ?_)
          | (refine wpList_built rfl 33 [] rfl CZ [] rfl HBZ.out ?_)
          | (refine wpList_runs (.bool true) rfl (runs_eql rfl rfl rfl (by kernel_rfl) HEQ.out _) ?_))
        all_goals (go_ret; exact ⟨rfl, HB6.out⟩)
    · have gx : decide ((63 : Int) < (n0 : Int)) = false := decide_eq_false (by omega)
      by_cases h65 : 64 ≤ n1
      · as_aux_lemma =>
          have h1 : e0 = 1 := by rw [← hE0, if_pos (.inr (.inr h65))]
          subst h1
          have gy : decide ((63 : Int) < (n1 : Int)) = true := decide_eq_true (by omega)
          clear hE hE0 hr h64 h65
          go_wp2_with (first
            | (refine wpList_load_mid rfl 33 (.tmp 3) rfl w.heap.size 0 rfl (stCells S) _ (Blk.range HK5.out) Tryz.underlying33 rfl (by kernel_rfl) ?_)
            | (go_at_call 10; refine (HRR.out _).mono ?_; rintro e w6 ⟨rfl, hb6⟩; have HN6 := Lib.hid (HN5.out.on hb6); have HB6 := Lib.hid (bTrans HB5.out hb6); have k6 := HK5.out.on hb6; have f0 : w6.cell? ⟨w.heap.size, 0, none⟩ = some (.int .i64 (S 0)) := st_cell k6 0 (by decide); have l6 := k6.lt; have i0 := (HI5.out.on hb6).cell 0; have i1 := (HI5.out.on hb6).cell 1; have li6 := (HI5.out.on hb6).lt; simp only [List.getElem?_toArray, List.getElem?_cons_zero, List.getElem?_cons_succ] at i0 i1; clear hb6 k6)
            | (refine wpList_load_mid rfl 33 (.tmp 7) rfl gn 0 rfl (stCells TZ) _ (Blk.range HN6.out) Tryz.underlying33 rfl (by kernel_rfl) ?_)
            | (refine wpList_built rfl 33 [] rfl CZ [] rfl HBZ.out ?_)
            | (refine wpList_runs (.bool true) rfl (runs_eql rfl rfl rfl (by kernel_rfl) HEQ.out _) ?_))
          all_goals (go_ret; exact ⟨rfl, HB6.out⟩)
      · as_aux_lemma =>
          have gy : decide ((63 : Int) < (n1 : Int)) = false := decide_eq_false (by omega)
          have hno : ¬ (rightS S = false ∨ 64 ≤ n0 ∨ 64 ≤ n1) := by rw [hr]; simp; omega
          rw [if_neg hno] at hE hE0
          by_cases hF : S 0 = 1073741824
          · have h1 : e0 = 5 := by rw [← hE0, if_pos hF]
            subst h1
            clear hE hE0 hr h64 h65 hno
            go_wp2_with (first
              | (refine wpList_load_mid rfl 33 (.tmp 3) rfl w.heap.size 0 rfl (stCells S) _ (Blk.range HK5.out) Tryz.underlying33 rfl (by kernel_rfl) ?_)
              | (go_at_call 10; refine (HRR.out _).mono ?_; rintro e w6 ⟨rfl, hb6⟩; have HN6 := Lib.hid (HN5.out.on hb6); have HB6 := Lib.hid (bTrans HB5.out hb6); have k6 := HK5.out.on hb6; have f0 : w6.cell? ⟨w.heap.size, 0, none⟩ = some (.int .i64 (S 0)) := st_cell k6 0 (by decide); have l6 := k6.lt; have i0 := (HI5.out.on hb6).cell 0; have i1 := (HI5.out.on hb6).cell 1; have li6 := (HI5.out.on hb6).lt; simp only [List.getElem?_toArray, List.getElem?_cons_zero, List.getElem?_cons_succ] at i0 i1; clear hb6 k6)
              | (refine wpList_load_mid rfl 33 (.tmp 7) rfl gn 0 rfl (stCells TZ) _ (Blk.range HN6.out) Tryz.underlying33 rfl (by kernel_rfl) ?_)
              | (refine wpList_built rfl 33 [] rfl CZ [] rfl HBZ.out ?_)
              | (refine wpList_runs (.bool true) rfl (runs_eql rfl rfl rfl (by kernel_rfl) HEQ.out _) ?_))
            all_goals (go_ret; exact ⟨rfl, HB6.out⟩)
          · rw [if_neg hF] at hE
            exact absurd rfl hE
theorem stepS_page (h : StOk S) : PageOk (S 0) (stepS n0 n1 S).2 ∧ (stepS n0 n1 S).2.length ≤ 22 := by
  have h4 := stg4_page (n0 := n0) (n1 := n1) h 6 (by decide)
  have hev := (stg4_ok n0 n1 h 6 (by decide)).2.1.len
  have hn := (stg4_nor n0 n1 S 6).cnt
  rw [stepS_eq]
  show PageOk (S 0) (roundS (S 0) (stg4 n0 n1 S 6)).2 ∧ (roundS (S 0) (stg4 n0 n1 S 6)).2.length ≤ 22
  unfold roundS
  split
  · exact ⟨h4.tell 0 7 32768 12 0 0 h.m.fr (by rw [hn]; decide) (by decide) (by decide) (by decide) (by decide) (by decide), by rw [addE_length]; omega⟩
  · exact ⟨h4, by show (stg4 n0 n1 S 6).2.length ≤ 22; omega⟩
set_option maxHeartbeats 16000000 in
theorem steps_good (hok : StOk S) (hF : S 0 < 1073741824) (h0 : n0 < 64) (h1 : n1 < 64) :
    Calls Tryz.prog 3 #[.agg (stCells S).toArray, .agg #[.int .u8 n0, .int .u8 n1], .int .u32 seed] w fun e w' => e = .returned (.bool true) ∧ Below w.heap.size w w' := by
  have hst := fun W => gStep_yes (w := W) hok hF h0 h1
  obtain ⟨T, L, hTL⟩ : ∃ T L, stepS n0 n1 S = (T, L) := ⟨_, _, rfl⟩
  have hpg := stepS_page (n0 := n0) (n1 := n1) hok
  rw [hTL] at hpg
  simp only [hTL] at hst
  have hrs := fun W => r12Step_any (w := W) hok h0 h1 T L hTL
  have hor := ordered_page hpg.1 (by have := hpg.2; omega)
  have hl22 : L.length ≤ 22 := hpg.2
  obtain ⟨m, hm⟩ : ∃ m, L.length = m := ⟨_, rfl⟩
  simp only [hm] at hst
  obtain ⟨CE, hce⟩ : ∃ CE : Array Value, (stCells T).toArray = CE := ⟨_, rfl⟩
  rw [hce] at hst hrs
  have hsz : CE.size = 60 := by rw [← hce, List.size_toArray, stCells_length]
  have H1C : Hid (CE.all (·.oneCell') = true) := Lib.hid (by rw [← hce]; exact all_oneCell_toArray (int_one _))
  have HSZ : Hid ((Tryz.prog.info? 33).map (·.size) = some CE.size) := Lib.hid (by rw [hsz]; kernel_rfl)
  have HSI := Lib.hid hsz
  have HCE := Lib.hid hce
  have HST := Lib.hid hst
  have HRS := Lib.hid hrs
  have HOR := Lib.hid hor
  have HM := Lib.hid hm
  have HRR := Lib.hid (fun W => (r12Right_any S W).mono fun e w' ⟨he, hb⟩ => (⟨by rw [he, hok.right], hb⟩ : e = Ending.returned (.bool true) ∧ Below W.heap.size W w'))
  have gx : decide ((63 : Int) < (n0 : Int)) = false := decide_eq_false (by omega)
  have gy : decide ((63 : Int) < (n1 : Int)) = false := decide_eq_false (by omega)
  have gF : (S 0 == 1073741824) = false := by simp; omega
  clear hst hce hsz hrs hor hm hpg hTL hok h0 h1 hF
  obtain ⟨CB, hcb⟩ : ∃ CB : Array Value, (stCells (beginS seed)).toArray = CB := ⟨_, rfl⟩
  have hbeg := fun W => gBegin_any seed W
  have hrbg := fun W => r12Begin_any seed W
  have hne := fun (W : World) => st_neq (beginS seed) W
  rw [hcb] at hbeg hrbg
  rw [hcb] at hne
  have HBEG := Lib.hid hbeg
  have HRBG := Lib.hid hrbg
  have HNE := Lib.hid hne
  clear hbeg hrbg hcb hne
  go_enter Tryz.func3, Tryz.ntmps3
  go_upto_region 1 with fail
  refine named2 (F := fun W => Code.wp _ _ _ _ W) ?_
  intro w1 k0 k1 hb1 hz1
  have HK1 := Lib.hid k0
  have HI1 := Lib.hid k1
  have HB1 := Lib.hid hb1
  clear k0 k1 hb1 hz1
  go_upto_region 3 with (first | (go_at_call 7; refine (awake12_any _).mono ?_; rintro e w2 ⟨rfl, hb2⟩; have HK2 := Lib.hid (HK1.out.on hb2); have HI2 := Lib.hid (HI1.out.on hb2); have HB2 := Lib.hid (bTrans HB1.out hb2); clear hb2))
  clear HK1 HI1 HB1
  have hls := HK2.out.lt
  have i0 := HI2.out.cell 0
  have i1 := HI2.out.cell 1
  have hli := HI2.out.lt
  simp only [List.getElem?_toArray, List.getElem?_cons_zero, List.getElem?_cons_succ] at i0 i1
  go_upto_region 4 with (first
    | (refine wpList_load_mid rfl 33 (.tmp 3) rfl w.heap.size 0 rfl (stCells S) _ (Blk.range HK2.out) Tryz.underlying33 rfl (by kernel_rfl) ?_)
    | (go_at_call 8; refine (HST.out _).mono ?_; rintro e w3 ⟨AN, cN, rfl, ho3, hb3⟩; have HO3 := Lib.hid (ho3.more (Below.size HB2.out)); have HK3 := Lib.hid (HK2.out.on hb3); have HI3 := Lib.hid (HI2.out.on hb3); have HB3 := Lib.hid (bTrans HB2.out hb3); clear hb3 ho3)
    | (refine wpList_store_mid rfl 33 (.tmp 7) (.tmp 18) rfl w3.heap.size 0 CE rfl rfl (there_new _ _ _ (by rw [HSI.out]; rfl)) HSZ.out H1C.out ?_))
  refine named_put (F := fun W => Code.wp _ _ _ _ W) (by rw [Array.length_toList, HSI.out]; rfl) ?_
  intro w4 hk4 hb4 hz4
  rw [Array.toArray_toList, ← HCE.out] at hk4
  have HK4 := Lib.hid (HK3.out.on hb4)
  have HI4 := Lib.hid (HI3.out.on hb4)
  have HB4 := Lib.hid (bTrans HB3.out hb4)
  have HO4 := Lib.hid (HO3.out.below hb4)
  have HN4 := Lib.hid hk4
  have hgl := hk4.lt
  obtain ⟨gn, hgn⟩ : ∃ gn, w3.heap.size = gn := ⟨_, rfl⟩
  rw [hgn] at HN4 hgl ⊢
  clear hk4 hb4 hz4 hgn HST HK2 HI2 HB2 HK3 HI3 HB3 HO3 hls i0 i1 hli
  have hls4 := HK4.out.lt
  have hKp := Keeps.base w4
  refine wp_region_mixed [.held, .make, .held, .make, .pure, .pure, .pure, .make, .pure, .make, .pure, .pure] (fun | 1 => valF (.bool (rightS S)) | 3 => valF (.bool (rightS S)) | _ => valF (.agg CB)) (by kernel_rfl) (by kernel_rfl) ?_
  refine mix_load rfl rfl (by assumption) 33 (.tmp 3) rfl w.heap.size 0 rfl (stCells S) _ hls4 (Blk.range HK4.out) Tryz.underlying33 rfl (by kernel_rfl) ?_
  simp only [Act.put, List.setIfInBounds_toArray, List.set_cons_zero, List.set_cons_succ]
  refine mix_make rfl rfl (by assumption) valF_st (fun W hW => ?_) ?_
  · have HS2 := Lib.hid (valF_of (gRight_any S W))
    go_simp
    exact HS2.out
  rintro _ rfl hKp2
  simp only [Act.put, List.setIfInBounds_toArray, List.set_cons_zero, List.set_cons_succ]
  refine mix_load rfl rfl (by assumption) 33 (.tmp 3) rfl w.heap.size 0 rfl (stCells S) _ hls4 (Blk.range HK4.out) Tryz.underlying33 rfl (by kernel_rfl) ?_
  simp only [Act.put, List.setIfInBounds_toArray, List.set_cons_zero, List.set_cons_succ]
  refine mix_make rfl rfl (by assumption) valF_st (fun W hW => ?_) ?_
  · have HS2 := Lib.hid (valF_of (r12Right_any S W))
    go_simp
    exact HS2.out
  rintro _ rfl hKp3
  simp only [Act.put, List.setIfInBounds_toArray, List.set_cons_zero, List.set_cons_succ]
  (refine mix_pure rfl rfl rfl (fun K hK => ?_); go_big_quiet_op; refine hK _ ?_; clear hK K)
  (refine mix_pure rfl rfl rfl (fun K hK => ?_); go_big_quiet_op; refine hK _ ?_; clear hK K)
  (refine mix_pure rfl rfl rfl (fun K hK => ?_); go_big_quiet_op; refine hK _ ?_; clear hK K)
  refine mix_make rfl rfl (by assumption) valF_st (fun W hW => ?_) ?_
  · have HS2 := Lib.hid (valF_of (HBEG.out W))
    go_simp
    exact HS2.out
  rintro _ rfl hKp4
  simp only [Act.put, List.setIfInBounds_toArray, List.set_cons_zero, List.set_cons_succ]
  (refine mix_pure rfl rfl rfl (fun K hK => ?_); go_big_quiet_op; refine hK _ ?_; clear hK K)
  refine mix_make rfl rfl (by assumption) valF_st (fun W hW => ?_) ?_
  · have HS2 := Lib.hid (valF_of (HRBG.out W))
    go_simp
    exact HS2.out
  rintro _ rfl hKp5
  simp only [Act.put, List.setIfInBounds_toArray, List.set_cons_zero, List.set_cons_succ]
  refine mix_run (.bool false) rfl rfl (runs_neq rfl rfl rfl (by kernel_rfl) HNE.out) ?_
  simp only [Act.put, List.setIfInBounds_toArray, List.set_cons_zero, List.set_cons_succ]
  (refine mix_pure rfl rfl rfl (fun K hK => ?_); go_big_quiet_op; refine hK _ ?_; clear hK K)
  refine mix_nil ?_
  rintro w5 ⟨⟨⟨⟨hg, -⟩, -⟩, -⟩, -⟩
  have hg : Grown w4 w5 := hg
  have HK5 := Lib.hid (HK4.out.on hg)
  have HI5 := Lib.hid (HI4.out.on hg)
  have HB5 := Lib.hid (bTrans HB4.out hg)
  have HN5 := Lib.hid (HN4.out.on hg)
  have HO5 := Lib.hid (HO4.out.below hg)
  have hls := HK5.out.lt
  have hli := HI5.out.lt
  clear HK4 HI4 HB4 HN4 HO4 hls4 hKp hKp2 hKp3 hKp4 hKp5 hg hgl HBEG HRBG HNE
  go_upto_region 8 with (first
    | (refine wpList_load_mid rfl 33 (.tmp 3) rfl w.heap.size 0 rfl (stCells S) _ (Blk.range HK5.out) Tryz.underlying33 rfl (by kernel_rfl) ?_)
    | (go_at_call 10; refine (HRR.out _).mono ?_; rintro e w6 ⟨rfl, hb6⟩; have HN6 := Lib.hid (HN5.out.on hb6); have HO6 := Lib.hid (HO5.out.below hb6); have HB6 := Lib.hid (bTrans HB5.out hb6); have HK6 := Lib.hid (HK5.out.on hb6); have f0 : w6.cell? ⟨w.heap.size, 0, none⟩ = some (.int .i64 (S 0)) := st_cell HK6.out 0 (by decide); have l6 := HK6.out.lt; have i0 := (HI5.out.on hb6).cell 0; have i1 := (HI5.out.on hb6).cell 1; have li6 := (HI5.out.on hb6).lt; simp only [List.getElem?_toArray, List.getElem?_cons_zero, List.getElem?_cons_succ] at i0 i1; clear hb6))
  clear HK5 HN5 HO5 HB5 HI5 hls hli HRR
  go_upto_region 11 with (first
    | (refine wpList_load_mid rfl 33 (.tmp 3) rfl w.heap.size 0 rfl (stCells S) _ (Blk.range HK6.out) Tryz.underlying33 rfl (by kernel_rfl) ?_)
    | (go_at_call 13; refine (HRS.out _).mono ?_; rintro e w7 ⟨AM, nM, cM, rfl, ho7, hb7⟩; have HM7 := Lib.hid ho7; have HN7 := Lib.hid (HN6.out.on hb7); have HO7 := Lib.hid (HO6.out.below hb7); have HB7 := Lib.hid (bTrans HB6.out hb7); clear hb7 ho7)
    | (refine wpList_store_mid rfl 33 (.tmp 10) (.tmp 77) rfl w7.heap.size 0 CE rfl rfl (there_new _ _ _ (by rw [HSI.out]; rfl)) HSZ.out H1C.out ?_))
  refine named_put (F := fun W => Code.wp _ _ _ _ W) (by rw [Array.length_toList, HSI.out]; rfl) ?_
  intro w8 hk8 hb8 hz8
  rw [Array.toArray_toList, ← HCE.out] at hk8
  have HG8 := Lib.hid hk8
  have HM8 := Lib.hid (HM7.out.below hb8)
  have HN8 := Lib.hid (HN7.out.on hb8)
  have HO8 := Lib.hid (HO7.out.below hb8)
  have HB8 := Lib.hid (bTrans HB7.out hb8)
  have hnm : nM = m := by rw [HM8.out.len, HM.out]
  subst hnm
  have hg8 := hk8.lt
  have hn8 := HN8.out.lt
  obtain ⟨gm, hgm⟩ : ∃ gm, w7.heap.size = gm := ⟨_, rfl⟩
  rw [hgm] at HG8 hg8 ⊢
  have HSA : Hid (Calls Tryz.prog 14 #[.slice AN nM cN, .slice AM nM cM] w8 fun e w' => e = .returned (.bool true) ∧ Below w8.heap.size w8 w') := Lib.hid (by
    have := same_any AN AM cN cM L L w8 (by omega) HO8.out.rd HM8.out.rd
    rw [HM.out] at this
    refine this.mono ?_
    rintro e w' ⟨rfl, hb⟩
    exact ⟨by simp, hb⟩)
  have HOD : Hid (∀ W, Below w8.heap.size w8 W → Calls Tryz.prog 15 #[.slice AN nM cN] W fun e w' => e = .returned (.bool true) ∧ Below W.heap.size W w') := Lib.hid (fun W hW => by
    have := ordered_any AN cN L (by omega) W (HO8.out.below hW).rd
    rw [HM.out, HOR.out] at this
    exact this)
  clear hk8 hb8 hz8 HM7 HN7 HO7 HB7 HK6 HN6 HO6 HB6 HRS hgm
  go_wp2_with (first
    | (refine wpList_load_midG rfl 33 (.tmp 7) rfl gn 0 rfl (stCells T) _ (Blk.range HN8.out) Tryz.underlying33 rfl (by kernel_rfl) ?_)
    | (refine wpList_load_midG rfl 33 (.tmp 10) rfl gm 0 rfl (stCells T) _ (Blk.range HG8.out) Tryz.underlying33 rfl (by kernel_rfl) ?_)
    | (refine wpList_runs (.bool true) rfl (runs_eql rfl rfl rfl (by kernel_rfl) (fun W => st_eql T W) _) ?_)
    | (go_at_call 14; refine HSA.out.mono ?_; rintro e w9 ⟨rfl, hb9⟩; have HB9 := Lib.hid hb9; clear hb9)
    | (go_at_call 15; refine (HOD.out _ HB9.out).mono ?_; rintro e w10 ⟨rfl, hb10⟩; have HB10 := Lib.hid (bTrans (bTrans HB8.out HB9.out) hb10); clear hb10))
  all_goals (go_ret; exact ⟨rfl, HB10.out⟩)
end
end Go.Proofs.YtnaclkaapicelaaGreat
