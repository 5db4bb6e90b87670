/-
  The document's shot, walked.
-/
import Derived.Outline
import Derived.Deep.DeepCutAuto
import Derived.Test.YtnaclkaapicelaaGreatMa6
import Derived.Test.YtnaclkaapicelaaGreatMa3
namespace Go.Proofs.YtnaclkaapicelaaGreat
open Go.RowKit
set_option maxRecDepth 100000
set_option linter.unusedSimpArgs false
theorem arena_in (x y : Int) (w : World) (b : Bool) (h : arenaB x y = b) : Calls Tryz.prog 33 #[.agg #[.int .i32 (-4194304), .int .i32 (-4194304), .int .i32 4194304, .int .i32 4194304], .agg #[.int .i32 x, .int .i32 y]] w fun e w' => e = .returned (.bool b) ∧ Below w.heap.size w w' :=
  (r10Inside_any (-4194304) (-4194304) 4194304 4194304 x y w).mono fun _ _ ⟨h1, h2⟩ => ⟨by rw [h1]; exact congrArg (fun z => Ending.returned (.bool z)) h, h2⟩
section
variable {base : Nat} {S : Nat → Int} {A : Option Addr} {n c k : Nat} {F : Int} {L : List Ev} {w : World}
set_option maxHeartbeats 16000000 in
theorem r12Shot_any (hk : k < 6) (ho : OwnL w base 65 9 (.slice A n c) Ev.cells L) (hbw : base ≤ w.heap.size) (hp : PageOk F L) (hm : StM S) (hS : S 0 = F) (hF : 0 ≤ F ∧ F ≤ 1073741824) (h4 : getS S k 4 ≠ 0) {a b : Nat} (hev : EvN L a b) (ha : a ≤ 60) (hb : b ≤ 14) (T : Nat → Int) (M : List Ev)
    (hTM : flyS k F (S, L) = (T, M)) :
    Calls Tryz.prog 40 #[.agg (stCells S).toArray, .slice A n c, .int .i64 k] w fun e w' => ∃ A' n' c', e = .returned (.tuple #[.agg (stCells T).toArray, .slice A' n' c']) ∧ OwnL w' base 65 9 (.slice A' n' c') Ev.cells M ∧ Below w.heap.size w w' := by
  have HOW := Lib.hid ho
  have HPO := Lib.hid hp
  have hk2 : (k : Int) < 6 := by omega
  have HTM := Lib.hid hTM
  have HM := Lib.hid hm
  have HS0 := Lib.hid hS
  have HEV := Lib.hid hev
  have hsh := hm.sh k hk
  have HGS : Hid (∀ x, getS S k = x → x 4 = S (24 + k * 6 + 4)) := Lib.hid (fun x e => by rw [← e]; rfl)
  obtain ⟨x, hx⟩ : ∃ x, getS S k = x := ⟨_, rfl⟩
  have HX := Lib.hid hx
  rw [hx] at hsh h4
  have HSH := Lib.hid hsh
  have HX4 := Lib.hid h4
  obtain ⟨v, hv⟩ : ∃ v, x 5 - 1 = v := ⟨_, rfl⟩
  obtain ⟨X, hX⟩ : ∃ X, padd (x 0) (x 2) = X := ⟨_, rfl⟩
  obtain ⟨Y, hY⟩ : ∃ Y, padd (x 1) (x 3) = Y := ⟨_, rfl⟩
  have HPL : Hid (∀ W, Calls Tryz.prog 72 #[.agg #[.int .i32 (x 0), .int .i32 (x 1)], .agg #[.int .i32 (x 2), .int .i32 (x 3)]] W fun e w' => e = .returned (.agg #[.int .i32 X, .int .i32 Y]) ∧ Below W.heap.size W w') := Lib.hid (fun W => by
    rw [← hX, ← hY]
    exact r10Plus_any (by have := hsh.ax; unfold F32; omega) (by have := hsh.ay; unfold F32; omega) hsh.wx hsh.wy W)
  have HFX := Lib.hid (show F32 X by rw [← hX]; exact sat_bd _)
  have HFY := Lib.hid (show F32 Y by rw [← hY]; exact sat_bd _)
  have HY : Hid (upd (upd (upd x 5 v) 0 X) 1 Y = shotNext x) := Lib.hid (by unfold shotNext; rw [hv, hX, hY])
  have HV := Lib.hid hv
  have HNX := Lib.hid (show shotNext x 0 = X by rw [← hX]; rfl)
  have HNY := Lib.hid (show shotNext x 1 = Y by rw [← hY]; rfl)
  have HN4 := Lib.hid (show shotNext x 4 = x 4 from rfl)
  have HN5 := Lib.hid (show shotNext x 5 = v by rw [← hv]; rfl)
  have hx5 : 1 ≤ x 5 ∧ x 5 ≤ 40 := ⟨hsh.on h4, hsh.lf.2⟩
  have hvb : 0 ≤ v ∧ v < 40 := by omega
  have hlx := hx5
  clear ho hp hm hS hev hTM hsh h4 hX hY
  go_enter Tryz.func40, Tryz.ntmps40
  go_upto_region 1 with fail
  refine named2 (F := fun W => Code.wp _ _ _ _ W) ?_
  intro w1 k0 k1 hb1 hz1
  have HK0 := Lib.hid k0
  have HK1 := Lib.hid k1
  have HB1 := Lib.hid hb1
  have HZ1 := Lib.hid hz1
  have HRG : Hid (w1.rangeAt w.heap.size (24 + k * 6) (shCells x)) := Lib.hid (by rw [← HX.out]; exact sh_range k0 hk)
  have HT1 : Hid ((w1.alloc (.cells (shCells zeroS).toArray 30)).there w1.heap.size 0 (shCells x).toArray.size) := Lib.hid (there_new _ _ _ rfl)
  clear k0 k1 hb1 hz1
  go_upto_region 2 with (first
    | (refine wpList_load_mid rfl 30 (.tmp 13) rfl w.heap.size (24 + k * 6) rfl (shCells x) _ HRG.out Tryz.underlying30 rfl (by kernel_rfl) ?_)
    | (refine wpList_store_mid rfl 30 (.tmp 8) (.tmp 14) rfl w1.heap.size 0 (shCells x).toArray rfl rfl HT1.out (by kernel_rfl) (all_oneCell_toArray (sh_one x)) ?_))
  refine named_put (F := fun W => Code.wp _ _ _ _ W) (by rfl) ?_
  intro w2 hk2' hb2 hz2
  rw [HZ1.out] at hk2' ⊢
  rw [Array.toArray_toList] at hk2'
  have HSF : Hid (SF w w2 base S x A n c F L) := Lib.hid ⟨HK0.out.on hb2, ⟨_, by rfl, HK1.out.on hb2⟩, hk2', HOW.out.below (bTrans HB1.out hb2), HPO.out, hbw, bTrans HB1.out hb2⟩
  clear hk2' hb2 hz2 HK0 HK1 HB1 HZ1 HT1 HRG
  have c5 := HSF.out.cellx 5 (by decide) (k := .i64) rfl
  have z5 := HSF.out.zero 5
  have hlt := HSF.out.lt
  have H3' := HSF.out.setx 5 (by decide) (k := .i64) rfl v
  go_upto_region 3 with fail
  try rw [HV.out]
  obtain ⟨w3, hw3⟩ : ∃ w3, w2.setCell ⟨w.heap.size + 1 + 1, 5, none⟩ (.int .i64 v) = w3 := ⟨_, rfl⟩
  rw [hw3] at H3' ⊢
  have H3 := Lib.hid H3'
  clear hw3 H3' c5 z5 hlt HSF
  have hlt := H3.out.lt
  have c0 : w3.cell? ⟨w.heap.size + 1 + 1, 0, none⟩ = some (.int .i32 (x 0)) := H3.out.cellx 0 (by decide) (k := .i32) rfl
  have c1 : w3.cell? ⟨w.heap.size + 1 + 1, 1, none⟩ = some (.int .i32 (x 1)) := H3.out.cellx 1 (by decide) (k := .i32) rfl
  have c2 : w3.cell? ⟨w.heap.size + 1 + 1, 2, none⟩ = some (.int .i32 (x 2)) := H3.out.cellx 2 (by decide) (k := .i32) rfl
  have c3 : w3.cell? ⟨w.heap.size + 1 + 1, 3, none⟩ = some (.int .i32 (x 3)) := H3.out.cellx 3 (by decide) (k := .i32) rfl
  go_upto_region 4 with (first | (go_at_call 72; refine (HPL.out _).mono ?_; rintro e w4 ⟨rfl, hb4⟩; have H4 := Lib.hid (H3.out.on hb4); have hl4 := H4.out.lt; have z0 := H4.out.zero 0; have z1 := H4.out.zero 1; have q0 := H4.out.cellx 0 (by decide) (k := .i32) rfl; have q1 := H4.out.cellx 1 (by decide) (k := .i32) rfl; clear hb4))
  have h5 := (H4.out.setx 0 (by decide) (k := .i32) rfl X).setx 1 (by decide) (k := .i32) rfl Y
  rw [HY.out] at h5
  obtain ⟨w5, hw5⟩ : ∃ w5, (w4.setCell ⟨w.heap.size + 1 + 1, 0, none⟩ (.int .i32 X)).setCell ⟨w.heap.size + 1 + 1, 1, none⟩ (.int .i32 Y) = w5 := ⟨_, rfl⟩
  rw [hw5] at h5 ⊢
  have H5 := Lib.hid h5
  have HT5 : Hid (w5.there w.heap.size (24 + k * 6) (shCells zeroS).toArray.size) := Lib.hid (Blk.there h5.st (by show 24 + k * 6 + 6 ≤ _; rw [List.size_toArray, stCells_length]; omega))
  have h6 := h5.put hk zeroS
  clear hw5 h5 c0 c1 c2 c3 z0 z1 q0 q1 hlt hl4 H3 H4
  go_upto_region 5 with (first
    | (refine wpList_store_mid rfl 30 (.tmp 28) (.tmp 26) rfl w.heap.size (24 + k * 6) (shCells zeroS).toArray rfl rfl HT5.out (by kernel_rfl) (all_oneCell_toArray (sh_one zeroS)) ?_))
  obtain ⟨w6, hw6⟩ : ∃ w6, w5.setCells w.heap.size (24 + k * 6) (shCells zeroS) = w6 := ⟨_, rfl⟩
  rw [hw6] at h6
  first | rw [hw6] | rw [show (shCells zeroS).toArray.toList = shCells zeroS from rfl, hw6]
  have H6 := Lib.hid h6
  clear hw6 h6 H5 HT5
  simp only [Act.put, List.setIfInBounds_toArray, List.set_cons_zero, List.set_cons_succ]
  have c5 := H6.out.cellx 5 (by decide) (k := .i64) rfl
  rw [HN5.out] at c5
  have hlt := H6.out.lt
  by_cases hv0 : v = 0
  · as_aux_lemma =>
      have HT : Hid (T = putS S k zeroS ∧ M = L) := Lib.hid (by
        have := (flyS_gone (F := F) (L := L) (by rw [HX.out]; exact HX4.out) (.inl (by rw [HX.out, HV.out, hv0]))).symm.trans HTM.out
        exact ⟨(Prod.mk.inj this).1.symm, (Prod.mk.inj this).2.symm⟩)
      obtain ⟨rfl, rfl⟩ := HT.out
      subst hv0
      refine wp_region_mild (by kernel_rfl) (by kernel_rfl) ?_
      repeat (go_big_quiet_step ((fail)))
      refine wpQuiet_nil ?_
      intro w7 hw'
      obtain ⟨⟨wq, k7⟩, hw''⟩ := hw'
      subst hw''
      have H7 := Lib.hid (H6.out.on k7)
      clear k7 H6 c5 hlt
      have HS9 := Lib.hid (H7).out.st
      have HZ9 := Lib.hid (H7).out.re
      have HO9 := Lib.hid (H7).out.ow
      have HB9 := Lib.hid (H7).out.bl
      obtain ⟨Z, hZ, hBZ⟩ := (HZ9).out
      have HTH : Hid (w7.there (w.heap.size + 1) 0 (stCells (putS S k zeroS)).toArray.size) := Lib.hid (by rw [show (stCells (putS S k zeroS)).toArray.size = 60 from by rw [List.size_toArray, stCells_length]]; exact Blk.there hBZ (by rw [hZ]; decide))
      have hrg := World.rangeAt_setCells_same w7 (w.heap.size + 1) 0 (stCells (putS S k zeroS)) (by rw [stCells_length]; have := HTH.out; rwa [show (stCells (putS S k zeroS)).toArray.size = 60 from by rw [List.size_toArray, stCells_length]] at this)
      have HRES := Lib.hid (run_loadVar_mid (P := Tryz.prog) _ _ _ 33 (stCells (putS S k zeroS)) _ hrg Tryz.underlying33 rfl (by kernel_rfl))
      have HBX := Lib.hid (bSetCells (HB9).out (show w.heap.size ≤ w.heap.size + 1 by omega) 0 (stCells (putS S k zeroS)))
      have HOX := Lib.hid (OwnL.kept (row := some (w.heap.size + 1)) (HO9).out (oSetCells (World.grownBy.refl w7 _) 0 (stCells (putS S k zeroS))) (.inr (Blk.apart hBZ (HO9).out (by decide))))
      obtain ⟨wx, hwx⟩ : ∃ wx, w7.setCells (w.heap.size + 1) 0 (stCells (putS S k zeroS)) = wx := ⟨_, rfl⟩
      rw [hwx] at HRES HBX HOX
      have HWX : Hid (w7.setCells (w.heap.size + 1) 0 (stCells (putS S k zeroS)).toArray.toList = wx) := Lib.hid hwx
      have hls := (HS9).out.lt
      have hlz := hBZ.lt
      clear hZ hBZ hrg hwx
      go_wp2_with (first
        | (refine wpList_load_mid rfl 33 (.tmp 3) rfl w.heap.size 0 rfl (stCells (putS S k zeroS)) _ (Blk.range (HS9).out) Tryz.underlying33 rfl (by kernel_rfl) ?_)
        | (refine wpList_store_mid rfl 33 (.tmp 6) (.tmp 39) rfl (w.heap.size + 1) 0 (stCells (putS S k zeroS)).toArray rfl rfl HTH.out (by kernel_rfl) (all_oneCell_toArray (int_one (putS S k zeroS))) ?_; rw [HWX.out]))
      refine bodyPost_ret (results_c1 (a := 6) (t := 33) (x := 7) rfl rfl HRES.out) rfl ⟨_, _, _, rfl, HOX.out, HBX.out⟩
  · have hvb0 : (v == 0) = false := by simpa using hv0
    have c0 : w6.cell? ⟨w.heap.size + 1 + 1, 0, none⟩ = some (.int .i32 X) := by rw [← HNX.out]; exact H6.out.cellx 0 (by decide) (k := .i32) rfl
    have c1 : w6.cell? ⟨w.heap.size + 1 + 1, 1, none⟩ = some (.int .i32 Y) := by rw [← HNY.out]; exact H6.out.cellx 1 (by decide) (k := .i32) rfl
    cases har : arenaB X Y
    · as_aux_lemma =>
        have HT : Hid (T = putS S k zeroS ∧ M = L) := Lib.hid (by
          have := (flyS_gone (F := F) (L := L) (by rw [HX.out]; exact HX4.out) (.inr (by rw [HX.out, HNX.out, HNY.out]; exact har))).symm.trans HTM.out
          exact ⟨(Prod.mk.inj this).1.symm, (Prod.mk.inj this).2.symm⟩)
        obtain ⟨rfl, rfl⟩ := HT.out
        have HIN := Lib.hid har
        clear hv0 har
        refine wp_region_mild (by kernel_rfl) (by kernel_rfl) ?_
        repeat (go_big_quiet_step ((first | (go_at_call 34; exact mild_of (r12Box_64 _)) | (go_at_call 33; exact mild_of (arena_in _ _ _ _ HIN.out)))))
        refine wpQuiet_nil ?_
        intro w7 hw'
        obtain ⟨⟨wq, k7⟩, hw''⟩ := hw'
        subst hw''
        have H7 := Lib.hid (H6.out.on k7)
        clear k7 H6 c5 c0 c1 hlt
        have HS9 := Lib.hid (H7).out.st
        have HZ9 := Lib.hid (H7).out.re
        have HO9 := Lib.hid (H7).out.ow
        have HB9 := Lib.hid (H7).out.bl
        obtain ⟨Z, hZ, hBZ⟩ := (HZ9).out
        have HTH : Hid (w7.there (w.heap.size + 1) 0 (stCells (putS S k zeroS)).toArray.size) := Lib.hid (by rw [show (stCells (putS S k zeroS)).toArray.size = 60 from by rw [List.size_toArray, stCells_length]]; exact Blk.there hBZ (by rw [hZ]; decide))
        have hrg := World.rangeAt_setCells_same w7 (w.heap.size + 1) 0 (stCells (putS S k zeroS)) (by rw [stCells_length]; have := HTH.out; rwa [show (stCells (putS S k zeroS)).toArray.size = 60 from by rw [List.size_toArray, stCells_length]] at this)
        have HRES := Lib.hid (run_loadVar_mid (P := Tryz.prog) _ _ _ 33 (stCells (putS S k zeroS)) _ hrg Tryz.underlying33 rfl (by kernel_rfl))
        have HBX := Lib.hid (bSetCells (HB9).out (show w.heap.size ≤ w.heap.size + 1 by omega) 0 (stCells (putS S k zeroS)))
        have HOX := Lib.hid (OwnL.kept (row := some (w.heap.size + 1)) (HO9).out (oSetCells (World.grownBy.refl w7 _) 0 (stCells (putS S k zeroS))) (.inr (Blk.apart hBZ (HO9).out (by decide))))
        obtain ⟨wx, hwx⟩ : ∃ wx, w7.setCells (w.heap.size + 1) 0 (stCells (putS S k zeroS)) = wx := ⟨_, rfl⟩
        rw [hwx] at HRES HBX HOX
        have HWX : Hid (w7.setCells (w.heap.size + 1) 0 (stCells (putS S k zeroS)).toArray.toList = wx) := Lib.hid hwx
        have hls := (HS9).out.lt
        have hlz := hBZ.lt
        clear hZ hBZ hrg hwx
        go_wp2_with (first
          | (refine wpList_load_mid rfl 33 (.tmp 3) rfl w.heap.size 0 rfl (stCells (putS S k zeroS)) _ (Blk.range (HS9).out) Tryz.underlying33 rfl (by kernel_rfl) ?_)
          | (refine wpList_store_mid rfl 33 (.tmp 6) (.tmp 39) rfl (w.heap.size + 1) 0 (stCells (putS S k zeroS)).toArray rfl rfl HTH.out (by kernel_rfl) (all_oneCell_toArray (int_one (putS S k zeroS))) ?_; rw [HWX.out]))
        refine bodyPost_ret (results_c1 (a := 6) (t := 33) (x := 7) rfl rfl HRES.out) rfl ⟨_, _, _, rfl, HOX.out, HBX.out⟩
    · as_aux_lemma =>
        have HIN := Lib.hid har
        have HV0 := Lib.hid hv0
        clear hv0 har
        refine wp_region_mild (by kernel_rfl) (by kernel_rfl) ?_
        repeat (go_big_quiet_step ((first | (go_at_call 34; exact mild_of (r12Box_64 _)) | (go_at_call 33; exact mild_of (arena_in _ _ _ _ HIN.out)))))
        refine wpQuiet_nil ?_
        intro w7 hw'
        obtain ⟨⟨wq, k7⟩, hw''⟩ := hw'
        subst hw''
        have H7 := Lib.hid (H6.out.on k7)
        clear k7 H6 c5 c0 c1 hlt hvb0
        have hlt := H7.out.lt
        have c4 : w7.cell? ⟨w.heap.size + 1 + 1, 4, none⟩ = some (.int .i64 (x 4)) := by rw [← HN4.out]; exact H7.out.cellx 4 (by decide) (k := .i64) rfl
        obtain ⟨o, ho⟩ : ∃ o, otherOf (x 4) = o := ⟨_, rfl⟩
        have ho2 : o < 2 := by rw [← ho]; unfold otherOf; split <;> decide
        have ho2' : (o : Int) < 2 := by omega
        have HO := Lib.hid ho
        have HOV : Hid (if x 4 = 2 then o = 0 else o = 1) := Lib.hid (by rw [← ho]; unfold otherOf; split <;> rfl)
        clear ho
        have HGP : Hid (∀ j, j < 10 → getP (putS S k zeroS) o j = getP S o j) := Lib.hid (fun j hj => getP_putS S o k ho2 zeroS j hj)
        go_upto_if 43 with fail
        go_cut [9] (fun v9 wx => v9 = .int .i64 (o : Int) ∧ SF w wx base (putS S k zeroS) (shotNext x) A n c F L)
        case first =>
          by_cases hx2 : x 4 = 2
          · have ho0 : o = 0 := by have := HOV.out; rwa [if_pos hx2] at this
            rw [hx2] at c4
            go_wp2_with fail
            go_meet
            exact ⟨by rw [ho0]; rfl, H7.out⟩
          · have ho0 : o = 1 := by have := HOV.out; rwa [if_neg hx2] at this
            have hx2' : (x 4 == 2) = false := by simpa using hx2
            clear hx2
            go_wp2_with fail
            go_meet
            exact ⟨by rw [ho0]; rfl, H7.out⟩
        case rest =>
        obtain ⟨rfl, hc8⟩ := hcut
        have H8 := Lib.hid hc8
        clear hc8 H7 c4 hlt HOV
        obtain ⟨p, hp⟩ : ∃ p, getP S o = p := ⟨_, rfl⟩
        have HP := Lib.hid hp
        have hpm := HM.out.pl o ho2
        rw [hp] at hpm HGP
        have HPM := Lib.hid hpm
        have hpc : plCells (getP (putS S k zeroS) o) = plCells p := rowOf_congr fun j hj => by rw [HGP.out j hj]
        have HRG : Hid (wc.rangeAt w.heap.size (4 + o * 10) (plCells p)) := Lib.hid (by rw [← hpc]; exact pl_range H8.out.st ho2)
        have HT8 : Hid ((wc.alloc (.cells (plCells (fun _ => 0)).toArray 27)).there wc.heap.size 0 (plCells p).toArray.size) := Lib.hid (there_new _ _ _ rfl)
        have hls := H8.out.st.lt
        clear hp hpm hpc
        go_upto_region 11 with (first
          | (refine wpList_load_mid rfl 27 (.tmp 46) rfl w.heap.size (4 + o * 10) rfl (plCells p) _ HRG.out Tryz.underlying27 rfl (by kernel_rfl) ?_)
          | (refine wpList_store_mid rfl 27 (.tmp 10) (.tmp 47) rfl wc.heap.size 0 (plCells p).toArray rfl rfl HT8.out (by kernel_rfl) (all_oneCell_toArray (pl_one _)) ?_))
        refine named_put (F := fun W => Code.wp _ _ _ _ W) (by rw [Array.length_toList, List.size_toArray, plCells_length]; rfl) ?_
        intro w9 hk9 hb9 hz9
        rw [Array.toArray_toList] at hk9
        obtain ⟨gp, hgp⟩ : ∃ gp, wc.heap.size = gp := ⟨_, rfl⟩
        have h9 : SP w w9 base wc.heap.size (putS S k zeroS) (shotNext x) p A n c F L := ⟨H8.out.on hb9, hk9, H8.out.lt⟩
        rw [hgp] at h9 ⊢
        have H9 := Lib.hid h9
        clear h9 hk9 hb9 hz9 hgp hls H8 HRG HT8
        simp only [Act.put, List.setIfInBounds_toArray, List.set_cons_zero, List.set_cons_succ]
        have hlt := H9.out.sf.lt
        have hlg := H9.out.pl.lt
        have c8 : w9.cell? ⟨gp, 8, none⟩ = some (.int .i64 (p 8)) := H9.out.cellp 8 (by decide) (k := .i64) rfl
        by_cases hd : 0 < p 8
        · as_aux_lemma =>
            have hT : T = putS S k (shotNext x) ∧ M = L := by
              have h8 : S (4 + o * 10 + 8) = p 8 := by rw [← HP.out]; rfl
              have hh : hitB S (shotNext (getS S k)) (otherOf (getS S k 4)) = false := by
                rw [HX.out, HO.out]; unfold hitB; rw [decide_eq_false (by rw [h8]; omega)]; rfl
              have := (flyS_on (F := F) (L := L) (by rw [HX.out]; exact HX4.out) (by rw [HX.out, HV.out]; exact HV0.out) (by rw [HX.out, HNX.out, HNY.out]; exact HIN.out) hh).symm.trans HTM.out
              rw [HX.out] at this
              exact ⟨(Prod.mk.inj this).1.symm, (Prod.mk.inj this).2.symm⟩
            obtain ⟨rfl, rfl⟩ := hT
            have H10 := H9
            clear HP HPM H9
            have hls := H10.out.sf.st.lt
            have h11 := H10.out.sf.put hk (shotNext x)
            rw [putS_putS] at h11
            have HT10 : Hid (w9.there w.heap.size (24 + k * 6) (shCells (shotNext x)).toArray.size) := Lib.hid (Blk.there H10.out.sf.st (by show 24 + k * 6 + 6 ≤ _; rw [List.size_toArray, stCells_length]; omega))
            go_upto_region 13 with (first
              | (refine wpList_load_mid rfl 30 (.tmp 8) rfl (w.heap.size + 1 + 1) 0 rfl (shCells (shotNext x)) _ (Blk.range H10.out.sf.sh) Tryz.underlying30 rfl (by kernel_rfl) ?_)
              | (refine wpList_store_mid rfl 30 (.tmp 62) (.tmp 60) rfl w.heap.size (24 + k * 6) (shCells (shotNext x)).toArray rfl rfl HT10.out (by kernel_rfl) (all_oneCell_toArray (sh_one _)) ?_))
            obtain ⟨w11, hw11⟩ : ∃ w11, w9.setCells w.heap.size (24 + k * 6) (shCells (shotNext x)) = w11 := ⟨_, rfl⟩
            rw [hw11] at h11
            first | rw [hw11] | rw [show (shCells (shotNext x)).toArray.toList = shCells (shotNext x) from rfl, hw11]
            have H11 := Lib.hid h11
            clear hw11 h11 H10 HT10 hls
            have HS9 := Lib.hid (H11).out.st
            have HZ9 := Lib.hid (H11).out.re
            have HO9 := Lib.hid (H11).out.ow
            have HB9 := Lib.hid (H11).out.bl
            obtain ⟨Z, hZ, hBZ⟩ := (HZ9).out
            have HTH : Hid (w11.there (w.heap.size + 1) 0 (stCells (putS S k (shotNext x))).toArray.size) := Lib.hid (by rw [show (stCells (putS S k (shotNext x))).toArray.size = 60 from by rw [List.size_toArray, stCells_length]]; exact Blk.there hBZ (by rw [hZ]; decide))
            have hrg := World.rangeAt_setCells_same w11 (w.heap.size + 1) 0 (stCells (putS S k (shotNext x))) (by rw [stCells_length]; have := HTH.out; rwa [show (stCells (putS S k (shotNext x))).toArray.size = 60 from by rw [List.size_toArray, stCells_length]] at this)
            have HRES := Lib.hid (run_loadVar_mid (P := Tryz.prog) _ _ _ 33 (stCells (putS S k (shotNext x))) _ hrg Tryz.underlying33 rfl (by kernel_rfl))
            have HBX := Lib.hid (bSetCells (HB9).out (show w.heap.size ≤ w.heap.size + 1 by omega) 0 (stCells (putS S k (shotNext x))))
            have HOX := Lib.hid (OwnL.kept (row := some (w.heap.size + 1)) (HO9).out (oSetCells (World.grownBy.refl w11 _) 0 (stCells (putS S k (shotNext x)))) (.inr (Blk.apart hBZ (HO9).out (by decide))))
            obtain ⟨wx, hwx⟩ : ∃ wx, w11.setCells (w.heap.size + 1) 0 (stCells (putS S k (shotNext x))) = wx := ⟨_, rfl⟩
            rw [hwx] at HRES HBX HOX
            have HWX : Hid (w11.setCells (w.heap.size + 1) 0 (stCells (putS S k (shotNext x))).toArray.toList = wx) := Lib.hid hwx
            have hls := (HS9).out.lt
            have hlz := hBZ.lt
            clear hZ hBZ hrg hwx
            go_wp2_with (first
              | (refine wpList_load_mid rfl 33 (.tmp 3) rfl w.heap.size 0 rfl (stCells (putS S k (shotNext x))) _ (Blk.range (HS9).out) Tryz.underlying33 rfl (by kernel_rfl) ?_)
              | (refine wpList_store_mid rfl 33 (.tmp 6) (.tmp 63) rfl (w.heap.size + 1) 0 (stCells (putS S k (shotNext x))).toArray rfl rfl HTH.out (by kernel_rfl) (all_oneCell_toArray (int_one (putS S k (shotNext x)))) ?_; rw [HWX.out]))
            refine bodyPost_ret (results_c1 (a := 6) (t := 33) (x := 7) rfl rfl HRES.out) rfl ⟨_, _, _, rfl, HOX.out, HBX.out⟩
        · have hdd : decide (0 < p 8) = false := decide_eq_false hd
          have c0 : w9.cell? ⟨w.heap.size + 1 + 1, 0, none⟩ = some (.int .i32 X) := by rw [← HNX.out]; exact H9.out.sf.cellx 0 (by decide) (k := .i32) rfl
          have c1 : w9.cell? ⟨w.heap.size + 1 + 1, 1, none⟩ = some (.int .i32 Y) := by rw [← HNY.out]; exact H9.out.sf.cellx 1 (by decide) (k := .i32) rfl
          have d0 : w9.cell? ⟨gp, 0, none⟩ = some (.int .i32 (p 0)) := H9.out.cellp 0 (by decide) (k := .i32) rfl
          have d1 : w9.cell? ⟨gp, 1, none⟩ = some (.int .i32 (p 1)) := H9.out.cellp 1 (by decide) (k := .i32) rfl
          have HD8 : Hid (p 8 = 0) := Lib.hid (by have := HPM.out.dn; omega)
          have HTO : Hid (∀ W, Calls Tryz.prog 38 #[.agg #[.int .i32 X, .int .i32 Y], .int .i32 65536, .agg #[.int .i32 (p 0), .int .i32 (p 1)], .int .i32 262144] W fun e w' => e = .returned (.bool (touchB X Y 65536 (p 0) (p 1) 262144)) ∧ Below W.heap.size W w') := Lib.hid (fun W => r10Touch_any HFX.out HFY.out (by unfold F32; omega) (by have := HPM.out.ax; unfold F32; omega) (by have := HPM.out.ay; unfold F32; omega) (by unfold F32; omega) W)
          obtain ⟨t, ht⟩ : ∃ t, touchB X Y 65536 (p 0) (p 1) 262144 = t := ⟨_, rfl⟩
          have HHB : Hid (hitB S (shotNext x) o = t) := Lib.hid (by
            have h8 : S (4 + o * 10 + 8) = 0 := by rw [← HD8.out, ← HP.out]; rfl
            have e0 : S (4 + o * 10) = p 0 := by rw [← HP.out]; rfl
            have e1 : S (4 + o * 10 + 1) = p 1 := by rw [← HP.out]; rfl
            unfold hitB
            rw [decide_eq_true h8, e0, e1, HNX.out, HNY.out, ht]
            rfl)
          rw [ht] at HTO
          clear ht hd
          cases t
          · as_aux_lemma =>
              have hT : T = putS S k (shotNext x) ∧ M = L := by
                have hh : hitB S (shotNext (getS S k)) (otherOf (getS S k 4)) = false := by rw [HX.out, HO.out]; exact HHB.out
                have := (flyS_on (F := F) (L := L) (by rw [HX.out]; exact HX4.out) (by rw [HX.out, HV.out]; exact HV0.out) (by rw [HX.out, HNX.out, HNY.out]; exact HIN.out) hh).symm.trans HTM.out
                rw [HX.out] at this
                exact ⟨(Prod.mk.inj this).1.symm, (Prod.mk.inj this).2.symm⟩
              obtain ⟨rfl, rfl⟩ := hT
              clear HP HPM
              go_upto_if 58 with (first | (go_at_call 38; refine (HTO.out _).mono ?_; rintro e w10 ⟨rfl, k10⟩; have H10 := Lib.hid (H9.out.on k10); clear k10))
              clear c0 c1 d0 d1 hlt hlg c8 H9
              have hlt := H10.out.sf.lt
              have hls := H10.out.sf.st.lt
              have h11 := H10.out.sf.put hk (shotNext x)
              rw [putS_putS] at h11
              have HT10 : Hid (w10.there w.heap.size (24 + k * 6) (shCells (shotNext x)).toArray.size) := Lib.hid (Blk.there H10.out.sf.st (by show 24 + k * 6 + 6 ≤ _; rw [List.size_toArray, stCells_length]; omega))
              go_upto_region 13 with (first
                | (refine wpList_load_mid rfl 30 (.tmp 8) rfl (w.heap.size + 1 + 1) 0 rfl (shCells (shotNext x)) _ (Blk.range H10.out.sf.sh) Tryz.underlying30 rfl (by kernel_rfl) ?_)
                | (refine wpList_store_mid rfl 30 (.tmp 62) (.tmp 60) rfl w.heap.size (24 + k * 6) (shCells (shotNext x)).toArray rfl rfl HT10.out (by kernel_rfl) (all_oneCell_toArray (sh_one _)) ?_))
              obtain ⟨w11, hw11⟩ : ∃ w11, w10.setCells w.heap.size (24 + k * 6) (shCells (shotNext x)) = w11 := ⟨_, rfl⟩
              rw [hw11] at h11
              first | rw [hw11] | rw [show (shCells (shotNext x)).toArray.toList = shCells (shotNext x) from rfl, hw11]
              have H11 := Lib.hid h11
              clear hw11 h11 H10 HT10 hls
              have HS9 := Lib.hid (H11).out.st
              have HZ9 := Lib.hid (H11).out.re
              have HO9 := Lib.hid (H11).out.ow
              have HB9 := Lib.hid (H11).out.bl
              obtain ⟨Z, hZ, hBZ⟩ := (HZ9).out
              have HTH : Hid (w11.there (w.heap.size + 1) 0 (stCells (putS S k (shotNext x))).toArray.size) := Lib.hid (by rw [show (stCells (putS S k (shotNext x))).toArray.size = 60 from by rw [List.size_toArray, stCells_length]]; exact Blk.there hBZ (by rw [hZ]; decide))
              have hrg := World.rangeAt_setCells_same w11 (w.heap.size + 1) 0 (stCells (putS S k (shotNext x))) (by rw [stCells_length]; have := HTH.out; rwa [show (stCells (putS S k (shotNext x))).toArray.size = 60 from by rw [List.size_toArray, stCells_length]] at this)
              have HRES := Lib.hid (run_loadVar_mid (P := Tryz.prog) _ _ _ 33 (stCells (putS S k (shotNext x))) _ hrg Tryz.underlying33 rfl (by kernel_rfl))
              have HBX := Lib.hid (bSetCells (HB9).out (show w.heap.size ≤ w.heap.size + 1 by omega) 0 (stCells (putS S k (shotNext x))))
              have HOX := Lib.hid (OwnL.kept (row := some (w.heap.size + 1)) (HO9).out (oSetCells (World.grownBy.refl w11 _) 0 (stCells (putS S k (shotNext x)))) (.inr (Blk.apart hBZ (HO9).out (by decide))))
              obtain ⟨wx, hwx⟩ : ∃ wx, w11.setCells (w.heap.size + 1) 0 (stCells (putS S k (shotNext x))) = wx := ⟨_, rfl⟩
              rw [hwx] at HRES HBX HOX
              have HWX : Hid (w11.setCells (w.heap.size + 1) 0 (stCells (putS S k (shotNext x))).toArray.toList = wx) := Lib.hid hwx
              have hls := (HS9).out.lt
              have hlz := hBZ.lt
              clear hZ hBZ hrg hwx
              go_wp2_with (first
                | (refine wpList_load_mid rfl 33 (.tmp 3) rfl w.heap.size 0 rfl (stCells (putS S k (shotNext x))) _ (Blk.range (HS9).out) Tryz.underlying33 rfl (by kernel_rfl) ?_)
                | (refine wpList_store_mid rfl 33 (.tmp 6) (.tmp 63) rfl (w.heap.size + 1) 0 (stCells (putS S k (shotNext x))).toArray rfl rfl HTH.out (by kernel_rfl) (all_oneCell_toArray (int_one (putS S k (shotNext x)))) ?_; rw [HWX.out]))
              refine bodyPost_ret (results_c1 (a := 6) (t := 33) (x := 7) rfl rfl HRES.out) rfl ⟨_, _, _, rfl, HOX.out, HBX.out⟩
          · as_aux_lemma =>
              go_upto_if 58 with (first | (go_at_call 38; refine (HTO.out _).mono ?_; rintro e w10 ⟨rfl, k10⟩; have H10 := Lib.hid (H9.out.on k10); clear k10))
              clear H9 c0 c1 d0 d1 c8 hlt hlg hdd HTO
              have hlt := H10.out.sf.lt
              have hlg := H10.out.pl.lt
              have hls := H10.out.sf.st.lt
              have hup := HPM.out.up
              have hp5 : 1 ≤ p 5 ∧ p 5 ≤ 3 := by have h1 := HPM.out.hp; have h2 := hup.2 HD8.out; omega
              clear hup
              have c5 : w10.cell? ⟨gp, 5, none⟩ = some (.int .i64 (p 5)) := H10.out.cellp 5 (by decide) (k := .i64) rfl
              have z5 := H10.out.zero 5
              obtain ⟨q, hq⟩ : ∃ q, p 5 - 1 = q := ⟨_, rfl⟩
              have HQ := Lib.hid hq
              have hqb : 0 ≤ q ∧ q ≤ 2 := by omega
              have h11 := H10.out.setp 5 (by decide) (k := .i64) rfl q
              go_upto_region 15 with fail
              try rw [HQ.out]
              obtain ⟨w11, hw11⟩ : ∃ w11, w10.setCell ⟨gp, 5, none⟩ (.int .i64 q) = w11 := ⟨_, rfl⟩
              rw [hw11] at h11 ⊢
              have H11 := Lib.hid h11
              clear hw11 h11 H10 c5 z5 hlt hlg hls hq
              have hlt := H11.out.sf.lt
              have hlg := H11.out.pl.lt
              have hls := H11.out.sf.st.lt
              have HF0 : Hid (putS S k zeroS 0 = F) := Lib.hid (by rw [putS_other S k zeroS 0 (.inl (by omega))]; exact HS0.out)
              have e0 : w11.cell? ⟨w.heap.size, 0, none⟩ = some (.int .i64 F) := by rw [← HF0.out]; exact st_cell H11.out.sf.st 0 (by decide)
              have d0 : w11.cell? ⟨gp, 0, none⟩ = some (.int .i32 (p 0)) := H11.out.cellp 0 (by decide) (k := .i32) rfl
              have HFP : Hid (F32 (p 0)) := Lib.hid (by have := HPM.out.ax; unfold F32; omega)
              go_wp2_with fail
              refine (H11.out.tell ((o : Int) + 1) 2 32768 8 0 (p 0) hF (by have := HEV.out.len; omega) (Nat.le_trans (HEV.out.cnt _ _ (.inl rfl)) (by omega)) (by omega) (by decide) (by decide) (by decide) (by decide) HFP.out).mono ?_
              rintro e w12 ⟨A2, c2, n2, rfl, h12⟩
              have H12 := Lib.hid h12
              clear h12 H11 e0 d0 hlt hlg hls
              have hlt := H12.out.sf.lt
              have hlg := H12.out.pl.lt
              have c5 : w12.cell? ⟨gp, 5, none⟩ = some (.int .i64 q) := by have := H12.out.cellp 5 (by decide) (k := .i64) rfl; rwa [upd_same] at this
              obtain ⟨L2, hL2⟩ : ∃ L2, addE F L (evT ((o : Int) + 1) 2 2 32768 8 0 (p 0)) = L2 := ⟨_, rfl⟩
              have HEV2 : Hid (EvN L2 (a + 1) (b + 1)) := Lib.hid (by rw [← hL2]; exact HEV.out.hit F _)
              rw [hL2] at H12
              have HL2 := Lib.hid hL2
              clear hL2
              have hh : hitB S (shotNext (getS S k)) (otherOf (getS S k 4)) = true := by rw [HX.out, HO.out]; exact HHB.out
              have HH := Lib.hid hh
              clear hh
              by_cases hq0 : q = 0
              · subst hq0
                have h01 : o = 0 ∨ o = 1 := by omega
                rcases h01 with rfl | rfl
                · as_aux_lemma =>
                    have c8 : w12.cell? ⟨gp, 8, none⟩ = some (.int .i64 (p 8)) := (by have := H12.out.cellp 8 (by decide) (k := .i64) rfl; rwa [upd_other _ _ _ _ (by decide)] at this)
                    have z8 := H12.out.zero 8
                    obtain ⟨s9, hs9⟩ : ∃ s9, S 23 = s9 := ⟨_, rfl⟩
                    have HS9K := Lib.hid hs9
                    have hsb : 0 ≤ s9 ∧ s9 ≤ 3 := (by rw [← hs9]; exact (HM.out.pl 1 (by decide)).sc)
                    have HSA : Hid (putS S k zeroS 23 = s9) := Lib.hid (by rw [putS_other S k zeroS 23 (.inl (by omega))]; exact hs9)
                    have e9 : w12.cell? ⟨w.heap.size, 23, none⟩ = some (.int .i64 s9) := (by rw [← HSA.out]; exact st_cell H12.out.sf.st 23 (by decide))
                    have y9 := H12.out.sf.st.frozen 23
                    have hls := H12.out.sf.st.lt
                    have hgl := H12.out.far
                    have h13 := (H12.out.setp 8 (by decide) (k := .i64) rfl 30).setS 23 (by decide) (k := .i64) rfl (s9 + 1)
                    clear hs9
                    go_upto_region 19 with fail
                    obtain ⟨w13, hw13⟩ : ∃ w13, (w12.setCell ⟨gp, 8, none⟩ (.int .i64 30)).setCell ⟨w.heap.size, 23, none⟩ (.int .i64 (s9 + 1)) = w13 := ⟨_, rfl⟩
                    rw [hw13] at h13 ⊢
                    have H13 := Lib.hid h13
                    clear hw13 h13 H12 c5 c8 z8 e9 y9 hls hlt hlg
                    have hls := H13.out.sf.st.lt
                    have hlg := H13.out.pl.lt
                    have HF1 : Hid (upd (putS S k zeroS) 23 (s9 + 1) 0 = F) := Lib.hid (by rw [upd_other _ _ _ _ (by decide)]; exact HF0.out)
                    have e0 : w13.cell? ⟨w.heap.size, 0, none⟩ = some (.int .i64 F) := (by rw [← HF1.out]; exact st_cell H13.out.sf.st 0 (by decide))
                    have d0 : w13.cell? ⟨gp, 0, none⟩ = some (.int .i32 (p 0)) := H13.out.cellp 0 (by decide) (k := .i32) rfl
                    go_wp2_with fail
                    refine (H13.out.tell 1 5 32768 10 0 (p 0) hF (by have := HEV2.out.len; omega) (Nat.le_trans (HEV2.out.cnt _ _ (.inr rfl)) (by omega)) (by omega) (by decide) (by decide) (by decide) (by decide) HFP.out).mono ?_
                    rintro e w14 ⟨A3, c3, n3, rfl, h14⟩
                    have H14' := Lib.hid h14
                    clear h14 H13 e0 d0 hls hlg
                    have hT : T = putP (upd (putS S k zeroS) 23 (s9 + 1)) 0 (upd (upd p 5 0) 8 30) ∧ M = addE F L2 (evT 1 5 5 32768 10 0 (p 0)) := (by
                      have := (flyS_kill (F := F) (L := L) (by rw [HX.out]; exact HX4.out) (by rw [HX.out, HV.out]; exact HV0.out) (by rw [HX.out, HNX.out, HNY.out]; exact HIN.out) HH.out (o := 0) (by rw [HX.out]; exact HO.out) (by decide) (by rw [HP.out, HQ.out]; decide)).symm.trans HTM.out
                      rw [HP.out, HQ.out, HL2.out] at this
                      rw [show S (4 + (1 - 0) * 10 + 9) = s9 from HS9K.out] at this
                      exact ⟨(Prod.mk.inj this).1.symm, (Prod.mk.inj this).2.symm⟩)
                    obtain ⟨rfl, rfl⟩ := hT
                    have hlt := H14'.out.sf.lt
                    have hlg := H14'.out.pl.lt
                    have hls := (H14').out.sf.st.lt
                    have h24 := (H14').out.sf.putp ho2 (upd (upd p 5 0) 8 30)
                    have HT12 : Hid ((w14).there w.heap.size (4 + 0 * 10) (plCells (upd (upd p 5 0) 8 30)).toArray.size) := Lib.hid (Blk.there (H14').out.sf.st (by rw [show (plCells (upd (upd p 5 0) 8 30)).toArray.size = 10 from by rw [List.size_toArray, plCells_length], List.size_toArray, stCells_length]; omega))
                    go_upto_region 21 with (first
                      | (refine wpList_load_mid rfl 27 (.tmp 10) rfl gp 0 rfl (plCells (upd (upd p 5 0) 8 30)) _ (Blk.range (H14').out.pl) Tryz.underlying27 rfl (by kernel_rfl) ?_)
                      | (refine wpList_store_mid rfl 27 (.tmp 106) (.tmp 104) rfl w.heap.size (4 + 0 * 10) (plCells (upd (upd p 5 0) 8 30)).toArray rfl rfl HT12.out (by kernel_rfl) (all_oneCell_toArray (pl_one _)) ?_))
                    obtain ⟨w24, hw24⟩ : ∃ w24, (w14).setCells w.heap.size (4 + 0 * 10) (plCells (upd (upd p 5 0) 8 30)) = w24 := ⟨_, rfl⟩
                    rw [hw24] at h24
                    first | rw [hw24] | rw [show (plCells (upd (upd p 5 0) 8 30)).toArray.toList = plCells (upd (upd p 5 0) 8 30) from rfl, hw24]
                    have H24 := Lib.hid h24
                    clear hw24 h24 HT12 hls
                    have HS9 := Lib.hid (H24).out.st
                    have HZ9 := Lib.hid (H24).out.re
                    have HO9 := Lib.hid (H24).out.ow
                    have HB9 := Lib.hid (H24).out.bl
                    obtain ⟨Z, hZ, hBZ⟩ := (HZ9).out
                    have HTH : Hid (w24.there (w.heap.size + 1) 0 (stCells (putP (upd (putS S k zeroS) 23 (s9 + 1)) 0 (upd (upd p 5 0) 8 30))).toArray.size) := Lib.hid (by rw [show (stCells (putP (upd (putS S k zeroS) 23 (s9 + 1)) 0 (upd (upd p 5 0) 8 30))).toArray.size = 60 from by rw [List.size_toArray, stCells_length]]; exact Blk.there hBZ (by rw [hZ]; decide))
                    have hrg := World.rangeAt_setCells_same w24 (w.heap.size + 1) 0 (stCells (putP (upd (putS S k zeroS) 23 (s9 + 1)) 0 (upd (upd p 5 0) 8 30))) (by rw [stCells_length]; have := HTH.out; rwa [show (stCells (putP (upd (putS S k zeroS) 23 (s9 + 1)) 0 (upd (upd p 5 0) 8 30))).toArray.size = 60 from by rw [List.size_toArray, stCells_length]] at this)
                    have HRES := Lib.hid (run_loadVar_mid (P := Tryz.prog) _ _ _ 33 (stCells (putP (upd (putS S k zeroS) 23 (s9 + 1)) 0 (upd (upd p 5 0) 8 30))) _ hrg Tryz.underlying33 rfl (by kernel_rfl))
                    have HBX := Lib.hid (bSetCells (HB9).out (show w.heap.size ≤ w.heap.size + 1 by omega) 0 (stCells (putP (upd (putS S k zeroS) 23 (s9 + 1)) 0 (upd (upd p 5 0) 8 30))))
                    have HOX := Lib.hid (OwnL.kept (row := some (w.heap.size + 1)) (HO9).out (oSetCells (World.grownBy.refl w24 _) 0 (stCells (putP (upd (putS S k zeroS) 23 (s9 + 1)) 0 (upd (upd p 5 0) 8 30)))) (.inr (Blk.apart hBZ (HO9).out (by decide))))
                    obtain ⟨wx, hwx⟩ : ∃ wx, w24.setCells (w.heap.size + 1) 0 (stCells (putP (upd (putS S k zeroS) 23 (s9 + 1)) 0 (upd (upd p 5 0) 8 30))) = wx := ⟨_, rfl⟩
                    rw [hwx] at HRES HBX HOX
                    have HWX : Hid (w24.setCells (w.heap.size + 1) 0 (stCells (putP (upd (putS S k zeroS) 23 (s9 + 1)) 0 (upd (upd p 5 0) 8 30))).toArray.toList = wx) := Lib.hid hwx
                    have hls := (HS9).out.lt
                    have hlz := hBZ.lt
                    clear hZ hBZ hrg hwx
                    go_wp2_with (first
                      | (refine wpList_load_mid rfl 33 (.tmp 3) rfl w.heap.size 0 rfl (stCells (putP (upd (putS S k zeroS) 23 (s9 + 1)) 0 (upd (upd p 5 0) 8 30))) _ (Blk.range (HS9).out) Tryz.underlying33 rfl (by kernel_rfl) ?_)
                      | (refine wpList_store_mid rfl 33 (.tmp 6) (.tmp 107) rfl (w.heap.size + 1) 0 (stCells (putP (upd (putS S k zeroS) 23 (s9 + 1)) 0 (upd (upd p 5 0) 8 30))).toArray rfl rfl HTH.out (by kernel_rfl) (all_oneCell_toArray (int_one (putP (upd (putS S k zeroS) 23 (s9 + 1)) 0 (upd (upd p 5 0) 8 30)))) ?_; rw [HWX.out]))
                    refine bodyPost_ret (results_c1 (a := 6) (t := 33) (x := 7) rfl rfl HRES.out) rfl ⟨_, _, _, rfl, HOX.out, HBX.out⟩
                · as_aux_lemma =>
                    have c8 : w12.cell? ⟨gp, 8, none⟩ = some (.int .i64 (p 8)) := (by have := H12.out.cellp 8 (by decide) (k := .i64) rfl; rwa [upd_other _ _ _ _ (by decide)] at this)
                    have z8 := H12.out.zero 8
                    obtain ⟨s9, hs9⟩ : ∃ s9, S 13 = s9 := ⟨_, rfl⟩
                    have HS9K := Lib.hid hs9
                    have hsb : 0 ≤ s9 ∧ s9 ≤ 3 := (by rw [← hs9]; exact (HM.out.pl 0 (by decide)).sc)
                    have HSA : Hid (putS S k zeroS 13 = s9) := Lib.hid (by rw [putS_other S k zeroS 13 (.inl (by omega))]; exact hs9)
                    have e9 : w12.cell? ⟨w.heap.size, 13, none⟩ = some (.int .i64 s9) := (by rw [← HSA.out]; exact st_cell H12.out.sf.st 13 (by decide))
                    have y9 := H12.out.sf.st.frozen 13
                    have hls := H12.out.sf.st.lt
                    have hgl := H12.out.far
                    have h13 := (H12.out.setp 8 (by decide) (k := .i64) rfl 30).setS 13 (by decide) (k := .i64) rfl (s9 + 1)
                    clear hs9
                    go_upto_region 19 with fail
                    obtain ⟨w13, hw13⟩ : ∃ w13, (w12.setCell ⟨gp, 8, none⟩ (.int .i64 30)).setCell ⟨w.heap.size, 13, none⟩ (.int .i64 (s9 + 1)) = w13 := ⟨_, rfl⟩
                    rw [hw13] at h13 ⊢
                    have H13 := Lib.hid h13
                    clear hw13 h13 H12 c5 c8 z8 e9 y9 hls hlt hlg
                    have hls := H13.out.sf.st.lt
                    have hlg := H13.out.pl.lt
                    have HF1 : Hid (upd (putS S k zeroS) 13 (s9 + 1) 0 = F) := Lib.hid (by rw [upd_other _ _ _ _ (by decide)]; exact HF0.out)
                    have e0 : w13.cell? ⟨w.heap.size, 0, none⟩ = some (.int .i64 F) := (by rw [← HF1.out]; exact st_cell H13.out.sf.st 0 (by decide))
                    have d0 : w13.cell? ⟨gp, 0, none⟩ = some (.int .i32 (p 0)) := H13.out.cellp 0 (by decide) (k := .i32) rfl
                    go_wp2_with fail
                    refine (H13.out.tell 2 5 32768 10 0 (p 0) hF (by have := HEV2.out.len; omega) (Nat.le_trans (HEV2.out.cnt _ _ (.inr rfl)) (by omega)) (by omega) (by decide) (by decide) (by decide) (by decide) HFP.out).mono ?_
                    rintro e w14 ⟨A3, c3, n3, rfl, h14⟩
                    have H14' := Lib.hid h14
                    clear h14 H13 e0 d0 hls hlg
                    have hT : T = putP (upd (putS S k zeroS) 13 (s9 + 1)) 1 (upd (upd p 5 0) 8 30) ∧ M = addE F L2 (evT 2 5 5 32768 10 0 (p 0)) := (by
                      have := (flyS_kill (F := F) (L := L) (by rw [HX.out]; exact HX4.out) (by rw [HX.out, HV.out]; exact HV0.out) (by rw [HX.out, HNX.out, HNY.out]; exact HIN.out) HH.out (o := 1) (by rw [HX.out]; exact HO.out) (by decide) (by rw [HP.out, HQ.out]; decide)).symm.trans HTM.out
                      rw [HP.out, HQ.out, HL2.out] at this
                      rw [show S (4 + (1 - 1) * 10 + 9) = s9 from HS9K.out] at this
                      exact ⟨(Prod.mk.inj this).1.symm, (Prod.mk.inj this).2.symm⟩)
                    obtain ⟨rfl, rfl⟩ := hT
                    have hlt := H14'.out.sf.lt
                    have hlg := H14'.out.pl.lt
                    have hls := (H14').out.sf.st.lt
                    have h24 := (H14').out.sf.putp ho2 (upd (upd p 5 0) 8 30)
                    have HT12 : Hid ((w14).there w.heap.size (4 + 1 * 10) (plCells (upd (upd p 5 0) 8 30)).toArray.size) := Lib.hid (Blk.there (H14').out.sf.st (by rw [show (plCells (upd (upd p 5 0) 8 30)).toArray.size = 10 from by rw [List.size_toArray, plCells_length], List.size_toArray, stCells_length]; omega))
                    go_upto_region 21 with (first
                      | (refine wpList_load_mid rfl 27 (.tmp 10) rfl gp 0 rfl (plCells (upd (upd p 5 0) 8 30)) _ (Blk.range (H14').out.pl) Tryz.underlying27 rfl (by kernel_rfl) ?_)
                      | (refine wpList_store_mid rfl 27 (.tmp 106) (.tmp 104) rfl w.heap.size (4 + 1 * 10) (plCells (upd (upd p 5 0) 8 30)).toArray rfl rfl HT12.out (by kernel_rfl) (all_oneCell_toArray (pl_one _)) ?_))
                    obtain ⟨w24, hw24⟩ : ∃ w24, (w14).setCells w.heap.size (4 + 1 * 10) (plCells (upd (upd p 5 0) 8 30)) = w24 := ⟨_, rfl⟩
                    rw [hw24] at h24
                    first | rw [hw24] | rw [show (plCells (upd (upd p 5 0) 8 30)).toArray.toList = plCells (upd (upd p 5 0) 8 30) from rfl, hw24]
                    have H24 := Lib.hid h24
                    clear hw24 h24 HT12 hls
                    have HS9 := Lib.hid (H24).out.st
                    have HZ9 := Lib.hid (H24).out.re
                    have HO9 := Lib.hid (H24).out.ow
                    have HB9 := Lib.hid (H24).out.bl
                    obtain ⟨Z, hZ, hBZ⟩ := (HZ9).out
                    have HTH : Hid (w24.there (w.heap.size + 1) 0 (stCells (putP (upd (putS S k zeroS) 13 (s9 + 1)) 1 (upd (upd p 5 0) 8 30))).toArray.size) := Lib.hid (by rw [show (stCells (putP (upd (putS S k zeroS) 13 (s9 + 1)) 1 (upd (upd p 5 0) 8 30))).toArray.size = 60 from by rw [List.size_toArray, stCells_length]]; exact Blk.there hBZ (by rw [hZ]; decide))
                    have hrg := World.rangeAt_setCells_same w24 (w.heap.size + 1) 0 (stCells (putP (upd (putS S k zeroS) 13 (s9 + 1)) 1 (upd (upd p 5 0) 8 30))) (by rw [stCells_length]; have := HTH.out; rwa [show (stCells (putP (upd (putS S k zeroS) 13 (s9 + 1)) 1 (upd (upd p 5 0) 8 30))).toArray.size = 60 from by rw [List.size_toArray, stCells_length]] at this)
                    have HRES := Lib.hid (run_loadVar_mid (P := Tryz.prog) _ _ _ 33 (stCells (putP (upd (putS S k zeroS) 13 (s9 + 1)) 1 (upd (upd p 5 0) 8 30))) _ hrg Tryz.underlying33 rfl (by kernel_rfl))
                    have HBX := Lib.hid (bSetCells (HB9).out (show w.heap.size ≤ w.heap.size + 1 by omega) 0 (stCells (putP (upd (putS S k zeroS) 13 (s9 + 1)) 1 (upd (upd p 5 0) 8 30))))
                    have HOX := Lib.hid (OwnL.kept (row := some (w.heap.size + 1)) (HO9).out (oSetCells (World.grownBy.refl w24 _) 0 (stCells (putP (upd (putS S k zeroS) 13 (s9 + 1)) 1 (upd (upd p 5 0) 8 30)))) (.inr (Blk.apart hBZ (HO9).out (by decide))))
                    obtain ⟨wx, hwx⟩ : ∃ wx, w24.setCells (w.heap.size + 1) 0 (stCells (putP (upd (putS S k zeroS) 13 (s9 + 1)) 1 (upd (upd p 5 0) 8 30))) = wx := ⟨_, rfl⟩
                    rw [hwx] at HRES HBX HOX
                    have HWX : Hid (w24.setCells (w.heap.size + 1) 0 (stCells (putP (upd (putS S k zeroS) 13 (s9 + 1)) 1 (upd (upd p 5 0) 8 30))).toArray.toList = wx) := Lib.hid hwx
                    have hls := (HS9).out.lt
                    have hlz := hBZ.lt
                    clear hZ hBZ hrg hwx
                    go_wp2_with (first
                      | (refine wpList_load_mid rfl 33 (.tmp 3) rfl w.heap.size 0 rfl (stCells (putP (upd (putS S k zeroS) 13 (s9 + 1)) 1 (upd (upd p 5 0) 8 30))) _ (Blk.range (HS9).out) Tryz.underlying33 rfl (by kernel_rfl) ?_)
                      | (refine wpList_store_mid rfl 33 (.tmp 6) (.tmp 107) rfl (w.heap.size + 1) 0 (stCells (putP (upd (putS S k zeroS) 13 (s9 + 1)) 1 (upd (upd p 5 0) 8 30))).toArray rfl rfl HTH.out (by kernel_rfl) (all_oneCell_toArray (int_one (putP (upd (putS S k zeroS) 13 (s9 + 1)) 1 (upd (upd p 5 0) 8 30)))) ?_; rw [HWX.out]))
                    refine bodyPost_ret (results_c1 (a := 6) (t := 33) (x := 7) rfl rfl HRES.out) rfl ⟨_, _, _, rfl, HOX.out, HBX.out⟩
              · as_aux_lemma =>
                  have hT : T = putP (putS S k zeroS) o (upd p 5 q) ∧ M = L2 := by
                    have := (flyS_hit (F := F) (L := L) (by rw [HX.out]; exact HX4.out) (by rw [HX.out, HV.out]; exact HV0.out) (by rw [HX.out, HNX.out, HNY.out]; exact HIN.out) HH.out (o := o) (by rw [HX.out]; exact HO.out) ho2 (by rw [HP.out, HQ.out]; omega)).symm.trans HTM.out
                    rw [HP.out, HQ.out, HL2.out] at this
                    exact ⟨(Prod.mk.inj this).1.symm, (Prod.mk.inj this).2.symm⟩
                  obtain ⟨rfl, rfl⟩ := hT
                  have hq0' : (q == 0) = false := by simpa using hq0
                  clear hq0
                  have hls := (H12).out.sf.st.lt
                  have h24 := (H12).out.sf.putp ho2 (upd p 5 q)
                  have HT12 : Hid ((w12).there w.heap.size (4 + o * 10) (plCells (upd p 5 q)).toArray.size) := Lib.hid (Blk.there (H12).out.sf.st (by rw [show (plCells (upd p 5 q)).toArray.size = 10 from by rw [List.size_toArray, plCells_length], List.size_toArray, stCells_length]; omega))
                  go_upto_region 21 with (first
                    | (refine wpList_load_mid rfl 27 (.tmp 10) rfl gp 0 rfl (plCells (upd p 5 q)) _ (Blk.range (H12).out.pl) Tryz.underlying27 rfl (by kernel_rfl) ?_)
                    | (refine wpList_store_mid rfl 27 (.tmp 106) (.tmp 104) rfl w.heap.size (4 + o * 10) (plCells (upd p 5 q)).toArray rfl rfl HT12.out (by kernel_rfl) (all_oneCell_toArray (pl_one _)) ?_))
                  obtain ⟨w24, hw24⟩ : ∃ w24, (w12).setCells w.heap.size (4 + o * 10) (plCells (upd p 5 q)) = w24 := ⟨_, rfl⟩
                  rw [hw24] at h24
                  first | rw [hw24] | rw [show (plCells (upd p 5 q)).toArray.toList = plCells (upd p 5 q) from rfl, hw24]
                  have H24 := Lib.hid h24
                  clear hw24 h24 HT12 hls
                  have HS9 := Lib.hid (H24).out.st
                  have HZ9 := Lib.hid (H24).out.re
                  have HO9 := Lib.hid (H24).out.ow
                  have HB9 := Lib.hid (H24).out.bl
                  obtain ⟨Z, hZ, hBZ⟩ := (HZ9).out
                  have HTH : Hid (w24.there (w.heap.size + 1) 0 (stCells (putP (putS S k zeroS) o (upd p 5 q))).toArray.size) := Lib.hid (by rw [show (stCells (putP (putS S k zeroS) o (upd p 5 q))).toArray.size = 60 from by rw [List.size_toArray, stCells_length]]; exact Blk.there hBZ (by rw [hZ]; decide))
                  have hrg := World.rangeAt_setCells_same w24 (w.heap.size + 1) 0 (stCells (putP (putS S k zeroS) o (upd p 5 q))) (by rw [stCells_length]; have := HTH.out; rwa [show (stCells (putP (putS S k zeroS) o (upd p 5 q))).toArray.size = 60 from by rw [List.size_toArray, stCells_length]] at this)
                  have HRES := Lib.hid (run_loadVar_mid (P := Tryz.prog) _ _ _ 33 (stCells (putP (putS S k zeroS) o (upd p 5 q))) _ hrg Tryz.underlying33 rfl (by kernel_rfl))
                  have HBX := Lib.hid (bSetCells (HB9).out (show w.heap.size ≤ w.heap.size + 1 by omega) 0 (stCells (putP (putS S k zeroS) o (upd p 5 q))))
                  have HOX := Lib.hid (OwnL.kept (row := some (w.heap.size + 1)) (HO9).out (oSetCells (World.grownBy.refl w24 _) 0 (stCells (putP (putS S k zeroS) o (upd p 5 q)))) (.inr (Blk.apart hBZ (HO9).out (by decide))))
                  obtain ⟨wx, hwx⟩ : ∃ wx, w24.setCells (w.heap.size + 1) 0 (stCells (putP (putS S k zeroS) o (upd p 5 q))) = wx := ⟨_, rfl⟩
                  rw [hwx] at HRES HBX HOX
                  have HWX : Hid (w24.setCells (w.heap.size + 1) 0 (stCells (putP (putS S k zeroS) o (upd p 5 q))).toArray.toList = wx) := Lib.hid hwx
                  have hls := (HS9).out.lt
                  have hlz := hBZ.lt
                  clear hZ hBZ hrg hwx
                  go_wp2_with (first
                    | (refine wpList_load_mid rfl 33 (.tmp 3) rfl w.heap.size 0 rfl (stCells (putP (putS S k zeroS) o (upd p 5 q))) _ (Blk.range (HS9).out) Tryz.underlying33 rfl (by kernel_rfl) ?_)
                    | (refine wpList_store_mid rfl 33 (.tmp 6) (.tmp 107) rfl (w.heap.size + 1) 0 (stCells (putP (putS S k zeroS) o (upd p 5 q))).toArray rfl rfl HTH.out (by kernel_rfl) (all_oneCell_toArray (int_one (putP (putS S k zeroS) o (upd p 5 q)))) ?_; rw [HWX.out]))
                  refine bodyPost_ret (results_c1 (a := 6) (t := 33) (x := 7) rfl rfl HRES.out) rfl ⟨_, _, _, rfl, HOX.out, HBX.out⟩
end
end Go.Proofs.YtnaclkaapicelaaGreat
