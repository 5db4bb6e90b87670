/-
  The walk of a player's steering.
-/
import Derived.Test.YtibeihcpehikoaaGreatNk18
namespace Go.Proofs.YtibeihcpehikoaaGreat
open Go.RowKit
set_option maxRecDepth 100000
set_option maxHeartbeats 4000000
section
theorem pr_any (n b : Nat) (c : Int) (hc : c = b) (hn : n < 64) (hb : b < 256) (w : World) : Calls Tryz.prog 190 #[.int .u8 n, .int .u8 c] w fun e w' => e = .returned (.bool (bit n b)) ∧ w = w' := by
 subst hc
 exact gpressed_any n b (by omega) hb w
section
variable {g gp base : Nat} {S p : Nat → Int} {F : Int} {L : List Ev} {w : World} {i n : Nat}
theorem gsteer_any (h : Stg w g gp base (putP S i p) F L) (hi : i < 2) (hn : n < 64) (hp : PlB p) (hF : 0 ≤ F ∧ F ≤ 1073741824) (hS : S 0 = F) (hL : L.length ≤ 12) :
  Calls Tryz.prog 188 #[.pointer (some ⟨g, 0, none⟩), .int .i64 i, .int .u8 n] w fun e w' => e = .returned (.tuple #[]) ∧
   Stg w' g gp base (putP S i (pSlow (pDash (pThrust (pBrake (pFace (pCool p) n) n) n) n))) F (lDash i (pThrust (pBrake (pFace (pCool p) n) n) n) n F (lThrust i (pBrake (pFace (pCool p) n) n) n F L)) ∧ Below base w w' := by
 have HH := zz h
 have HP := zz hp
 have HS := zz hS
 have hi2 : (i : Int) < 2 := by omega
 have hbw := h.bw
 have hbg := h.bg
 have hlt := h.lt
 clear h hp hS
 go_enter Tryz.func188, Tryz.ntmps188
 go_upto_region 1 with fail
 go_cut [] (fun wx => Stg wx g gp base (putP S i (pCool p)) F L ∧ Below base w wx)
 case first =>
  have c6 := HH.out.cellP hi 6 (by decide) (k := .i64) rfl
  have c7 := HH.out.cellP hi 7 (by decide) (k := .i64) rfl
  have z6 := HH.out.st.frozen (4 + i * 10 + 6)
  have z7 := HH.out.st.frozen (4 + i * 10 + 7)
  obtain ⟨b6, b6'⟩ := HP.out.cl
  obtain ⟨b7, b7'⟩ := HP.out.wd
  go_region
  all_goals
   go_wp2_with fail
   go_meet
   exact ⟨((HH.out.setP hi 6 (by decide) rfl _).setP hi 7 (by decide) rfl _).drew, (bSetB (bSetB (Below.refl _ _) hbg _ _) hbg _ _).drew⟩
 case rest =>
  obtain ⟨hs, hb⟩ := hcut
  have HP1 := zz HP.out.cool
  obtain ⟨p1, hp1⟩ : ∃ p1, pCool p = p1 := ⟨_, rfl⟩
  rw [hp1] at hs HP1
  have E1 := zz hp1
  have H1 := zz hs
  have HB := zz hb
  clear hs hb HH HP hp1
  have hF4 := HP1.out.fc
  have HL4 := zz (pLeft_bd n hF4)
  have HR4 := zz (pRight_bd n HL4.out)
  go_wp2_with fail
  refine (pr_any n 1 _ rfl hn (by decide) _).mono ?_
  rintro e w1 ⟨rfl, rfl⟩
  go_upto_if 32 with fail
  go_cut [] (fun wx => Stg wx g gp base (putP S i (pLeft p1 n)) F L ∧ Below base w wx)
  case first =>
   have c4 := H1.out.cellP hi 4 (by decide) (k := .i64) rfl
   have z4 := H1.out.st.frozen (4 + i * 10 + 4)
   obtain ⟨b4, b4'⟩ := hF4
   cases hbit : bit n 1
   ·have HE := zz (show pLeft p1 n = p1 by unfold pLeft; rw [hbit]; rfl)
    go_wp2_with fail
    go_meet
    rw [HE.out]
    exact ⟨H1.out, HB.out⟩
   ·have HE := zz (show pLeft p1 n = upd p1 4 (p1 4 - 1024) by unfold pLeft; rw [hbit]; rfl)
    go_wp2_with fail
    go_meet
    rw [HE.out]
    exact ⟨H1.out.setP hi 4 (by decide) rfl _, bSetB HB.out hbg _ _⟩
  case rest =>
   obtain ⟨hs, hb⟩ := hcut
   have H2 := zz hs
   have HB2 := zz hb
   clear hs hb H1 HB hF4
   go_wp2_with fail
   refine (pr_any n 2 _ rfl hn (by decide) _).mono ?_
   rintro e w1 ⟨rfl, rfl⟩
   go_upto_if 41 with fail
   go_cut [] (fun wx => Stg wx g gp base (putP S i (pRight (pLeft p1 n) n)) F L ∧ Below base w wx)
   case first =>
    have c4 := H2.out.cellP hi 4 (by decide) (k := .i64) rfl
    have z4 := H2.out.st.frozen (4 + i * 10 + 4)
    obtain ⟨b4, b4'⟩ := HL4.out
    cases hbit : bit n 2
    ·have HE := zz (show pRight (pLeft p1 n) n = pLeft p1 n by unfold pRight; rw [hbit]; rfl)
     go_wp2_with fail
     go_meet
     rw [HE.out]
     exact ⟨H2.out, HB2.out⟩
    ·have HE := zz (show pRight (pLeft p1 n) n = upd (pLeft p1 n) 4 (pLeft p1 n 4 + 1024) by unfold pRight; rw [hbit]; rfl)
     go_wp2_with fail
     go_meet
     rw [HE.out]
     exact ⟨H2.out.setP hi 4 (by decide) rfl _, bSetB HB2.out hbg _ _⟩
   case rest =>
    obtain ⟨hs, hb⟩ := hcut
    obtain ⟨p2, hp2⟩ : ∃ p2, pRight (pLeft p1 n) n = p2 := ⟨_, rfl⟩
    rw [hp2] at hs HR4
    have hm := mask16 (p2 4)
    have HP3 := zz (show PlB (pTurn p2) by rw [← hp2]; exact HP1.out.face n)
    have HE3 := zz (show pFace p1 n = pTurn p2 by rw [← hp2]; rfl)
    have hE : pTurn p2 = upd p2 4 (p2 4 % 65536) := rfl
    have HE4 := zz hE
    have c4 := hs.cellP hi 4 (by decide) (k := .i64) rfl
    have z4 := hs.st.frozen (4 + i * 10 + 4)
    have H3 := zz (hs.setP hi 4 (by decide) (k := .i64) rfl (p2 4 % 65536))
    have HB3 := zz (bSetB hb hbg (4 + i * 10 + 4) (.int .i64 (p2 4 % 65536)))
    rw [← HE4.out] at H3
    clear hs hb H2 HB2 hp2 hE HL4 HP1
    go_upto_region 7 with fail
    obtain ⟨w3, hw3⟩ : ∃ w3, w3 = wc.setCell ⟨g, 4 + i * 10 + 4, none⟩ (.int .i64 (p2 4 % 65536)) := ⟨_, rfl⟩
    rw [← hw3] at H3 HB3 ⊢
    clear hw3 c4 z4 hm HR4 HE4
    obtain ⟨p3, hp3⟩ : ∃ p3, pTurn p2 = p3 := ⟨_, rfl⟩
    rw [hp3] at H3 HP3 HE3
    clear hp3
    go_wp2_with fail
    refine (pr_any n 8 _ rfl hn (by decide) _).mono ?_
    rintro e w1 ⟨rfl, rfl⟩
    go_upto_if 57 with fail
    go_cut [] (fun wx => Stg wx g gp base (putP S i (pBrake p3 n)) F L ∧ Below base w wx)
    case first =>
     have c2 := H3.out.cellP hi 2 (by decide) (k := .i32) rfl
     have c3 := H3.out.cellP hi 3 (by decide) (k := .i32) rfl
     cases hbit : bit n 8
     ·have HE := zz (show pBrake p3 n = p3 by unfold pBrake; rw [hbit]; rfl)
      go_wp2_with fail
      go_meet
      rw [HE.out]
      exact ⟨H3.out, HB3.out⟩
     ·have HE := zz (show pBrake p3 n = upd (upd p3 2 (fmul (p3 2) 32768)) 3 (fmul (p3 3) 32768) by unfold pBrake; rw [hbit]; rfl)
      go_wp2_with fail
      refine (sScale_any HP3.out.wx HP3.out.wy half_f32 _).mono ?_
      rintro e w4 ⟨rfl, k4⟩
      have h4 := H3.out.on k4
      have q2 := h4.cellP hi 2 (by decide) (k := .i32) rfl
      have q3 := h4.cellP hi 3 (by decide) (k := .i32) rfl
      have z2 := h4.st.frozen (4 + i * 10 + 2)
      have z3 := h4.st.frozen (4 + i * 10 + 3)
      have H4 := zz h4
      have HB4 := zz (HB3.out.trans (k4.mono H3.out.bw))
      clear h4 k4
      go_wp2_with fail
      go_meet
      rw [HE.out]
      exact ⟨(H4.out.setP hi 2 (by decide) rfl _).setP hi 3 (by decide) rfl _, bSetB (bSetB HB4.out hbg _ _) hbg _ _⟩
    case rest =>
     obtain ⟨hs, hb⟩ := hcut
     have HP4 := zz (HP3.out.brake n)
     obtain ⟨p4, hp4⟩ : ∃ p4, pBrake p3 n = p4 := ⟨_, rfl⟩
     rw [hp4] at hs HP4
     have HE5 := zz hp4
     have H4 := zz hs
     have HB4 := zz hb
     clear hs hb hp4 H3 HB3 HP3
     go_wp2_with fail
     refine (pr_any n 4 _ rfl hn (by decide) _).mono ?_
     rintro e w1 ⟨rfl, rfl⟩
     go_upto_if 67 with fail
     go_cut [] (fun wx => Stg wx g gp base (putP S i (pThrust p4 n)) F (lThrust i p4 n F L) ∧ Below base w wx)
     case first =>
      have c2 := H4.out.cellP hi 2 (by decide) (k := .i32) rfl
      have c3 := H4.out.cellP hi 3 (by decide) (k := .i32) rfl
      have c4 := H4.out.cellP hi 4 (by decide) (k := .i64) rfl
      cases hbit : bit n 4
      ·have HE := zz (show pThrust p4 n = p4 by unfold pThrust; rw [hbit]; rfl)
       have HEL := zz (show lThrust i p4 n F L = L by unfold lThrust; rw [hbit]; rfl)
       go_wp2_with fail
       go_meet
       rw [HE.out, HEL.out]
       exact ⟨H4.out, HB4.out⟩
      ·have HE := zz (show pThrust p4 n = pPush p4 8192 by unfold pThrust; rw [hbit]; rfl)
       have HEL := zz (show lThrust i p4 n F L = if F % 8 == 0 then addE F L (evT ((i : Int) + 1) 8 8 4096 1 8 (p4 0)) else L by unfold lThrust; rw [hbit]; rfl)
       go_wp2_with fail
       go_region_law (first
        | (go_simp; go_at_call 240; refine (gheading_any _ 8192 (by unfold F32; omega) _).mono ?_; rintro e w4 ⟨rfl, k4⟩; have h4 := H4.out.drew.on k4; have q2 := h4.cellP hi 2 (by decide) (k := .i32) rfl; have q3 := h4.cellP hi 3 (by decide) (k := .i32) rfl; dsimp only)
        | (go_simp; go_at_call 194; refine (sAdd_any HP4.out.wx HP4.out.wy (hdX_bd _ _) (hdY_bd _ _) _).mono ?_; rintro e w5 ⟨rfl, k5⟩; have h5 := h4.on k5; have r2 := h5.cellP hi 2 (by decide) (k := .i32) rfl; have r3 := h5.cellP hi 3 (by decide) (k := .i32) rfl; have z2 := h5.st.frozen (4 + i * 10 + 2); have z3 := h5.st.frozen (4 + i * 10 + 3); dsimp only))
       all_goals
        have h6 := (h5.setP hi 2 (by decide) (k := .i32) rfl (padd (p4 2) (hdX (p4 4) 8192))).setP hi 3 (by decide) (k := .i32) rfl (padd (p4 3) (hdY (p4 4) 8192))
        have hb6 : Below base w ((w5.setCell ⟨g, 4 + i * 10 + 2, none⟩ (.int .i32 (padd (p4 2) (hdX (p4 4) 8192)))).setCell ⟨g, 4 + i * 10 + 3, none⟩ (.int .i32 (padd (p4 3) (hdY (p4 4) 8192)))) :=
         bSetB (bSetB ((HB4.out.drew.trans (k4.mono (by simpa using H4.out.bw))).trans (k5.mono h4.bw)) hbg _ _) hbg _ _
        obtain ⟨w6, hw6⟩ : ∃ w6, w6 = (w5.setCell ⟨g, 4 + i * 10 + 2, none⟩ (.int .i32 (padd (p4 2) (hdX (p4 4) 8192)))).setCell ⟨g, 4 + i * 10 + 3, none⟩ (.int .i32 (padd (p4 3) (hdY (p4 4) 8192))) := ⟨_, rfl⟩
        rw [← hw6] at h6 hb6 ⊢
        have c0 := cell_frame h6 HS.out
        have a0 := cell_at h6 hi
        have hl6 := h6.lt
        have H6 := zz h6
        have HB6 := zz hb6
        clear hw6 h6 hb6 h5 h4 k4 k5 r2 r3 z2 z3 q2 q3 c2 c3 c4
        cases hm : F % 8 == 0
        ·go_wp2_with fail
         go_meet
         rw [HE.out, HEL.out, hm]
         exact ⟨H6.out, HB6.out⟩
        ·go_wp2_with fail
         refine (gtell_any ((i : Int) + 1) 8 8 4096 1 8 (p4 0) H6.out HP4.out.ax (evT_ok F _ _ _ _ _ _ _ hF (by omega) (by decide) (by decide) (by decide) (by decide) (by decide) 0 (by decide)) (by omega) (Nat.le_trans (cntE_le _ _ _) (by omega))).mono ?_
         rintro e w7 ⟨rfl, h7, k7⟩
         have H7 := zz h7
         have HB7 := zz (HB6.out.trans k7)
         clear h7 k7
         go_wp2_with fail
         go_meet
         rw [HE.out, HEL.out, hm]
         exact ⟨H7.out, HB7.out⟩
     case rest =>
      obtain ⟨hs, hb⟩ := hcut
      have HP5 := zz (HP4.out.thrust n)
      have hll : (lThrust i p4 n F L).length ≤ 13 := by
       unfold lThrust
       split
       ·rw [addE_length]; omega
       ·omega
      obtain ⟨p5, hp5⟩ : ∃ p5, pThrust p4 n = p5 := ⟨_, rfl⟩
      obtain ⟨L5, hL5⟩ : ∃ L5, lThrust i p4 n F L = L5 := ⟨_, rfl⟩
      rw [hp5, hL5] at hs
      rw [hp5] at HP5
      rw [hL5] at hll
      have HE6 := zz hp5
      have HE7 := zz hL5
      have H5 := zz hs
      have HB5 := zz hb
      have hl5 := hs.lt
      clear hs hb hp5 hL5 H4 HB4 HP4
      obtain ⟨q, hq⟩ : ∃ q, (bit n 32 && (p5 7 == 0)) = q := ⟨_, rfl⟩
      have HQ := zz hq
      obtain ⟨w5, hw5⟩ : ∃ w5, w5 = wc := ⟨_, rfl⟩
      rw [← hw5] at H5 HB5 hl5 ⊢
      clear hw5
      go_upto_region 13 with fail
      go_cut [105] (fun s wx => s = .bool q ∧ wx = w5)
      case first =>
       have c7 := H5.out.cellP hi 7 (by decide) (k := .i64) rfl
       cases hbit : bit n 32
       ·have hq0 : q = false := by rw [← hq, hbit]; rfl
        go_wp2_with fail
        refine (pr_any n 32 _ rfl hn (by decide) _).mono ?_
        rw [hbit]
        rintro e w1 ⟨rfl, rfl⟩
        go_wp2_with fail
        go_meet
        exact ⟨by rw [hq0], rfl⟩
       ·have hq0 : (p5 7 == 0) = q := by rw [← hq, hbit]; rfl
        go_wp2_with fail
        refine (pr_any n 32 _ rfl hn (by decide) _).mono ?_
        rw [hbit]
        rintro e w1 ⟨rfl, rfl⟩
        go_wp2_with fail
        go_meet
        exact ⟨rfl, rfl⟩
      case rest =>
       obtain ⟨rfl, rfl⟩ := hcut
       clear hq
       go_upto_if 105 with fail
       go_cut [] (fun wx => Stg wx g gp base (putP S i (pDash p5 n)) F (lDash i p5 n F L5) ∧ Below base w wx)
       case first =>
        have c2 := H5.out.cellP hi 2 (by decide) (k := .i32) rfl
        have c3 := H5.out.cellP hi 3 (by decide) (k := .i32) rfl
        have c4 := H5.out.cellP hi 4 (by decide) (k := .i64) rfl
        cases q
        ·have HE := zz (show pDash p5 n = p5 by unfold pDash; rw [HQ.out]; rfl)
         have HEL := zz (show lDash i p5 n F L5 = L5 by unfold lDash; rw [HQ.out]; rfl)
         go_wp2_with fail
         go_meet
         rw [HE.out, HEL.out]
         exact ⟨H5.out, HB5.out⟩
        ·have HE := zz (show pDash p5 n = upd (pPush p5 65536) 7 20 by unfold pDash; rw [HQ.out]; rfl)
         have HEL := zz (show lDash i p5 n F L5 = addE F L5 (evT ((i : Int) + 1) 9 9 8192 4 0 (p5 0)) by unfold lDash; rw [HQ.out]; rfl)
         go_wp2_with fail
         go_region_law (first
          | (go_simp; go_at_call 240; refine (gheading_any _ 65536 (by unfold F32; omega) _).mono ?_; rintro e w4 ⟨rfl, k4⟩; have h4 := H5.out.drew.on k4; have q2 := h4.cellP hi 2 (by decide) (k := .i32) rfl; have q3 := h4.cellP hi 3 (by decide) (k := .i32) rfl; dsimp only)
          | (go_simp; go_at_call 194; refine (sAdd_any HP5.out.wx HP5.out.wy (hdX_bd _ _) (hdY_bd _ _) _).mono ?_; rintro e w5' ⟨rfl, k5⟩; have h5 := h4.on k5; have r2 := h5.cellP hi 2 (by decide) (k := .i32) rfl; have r3 := h5.cellP hi 3 (by decide) (k := .i32) rfl; have z2 := h5.st.frozen (4 + i * 10 + 2); have z3 := h5.st.frozen (4 + i * 10 + 3); dsimp only))
         all_goals
          have h6 := (h5.setP hi 2 (by decide) (k := .i32) rfl (padd (p5 2) (hdX (p5 4) 65536))).setP hi 3 (by decide) (k := .i32) rfl (padd (p5 3) (hdY (p5 4) 65536))
          have hb6 : Below base w ((w5'.setCell ⟨g, 4 + i * 10 + 2, none⟩ (.int .i32 (padd (p5 2) (hdX (p5 4) 65536)))).setCell ⟨g, 4 + i * 10 + 3, none⟩ (.int .i32 (padd (p5 3) (hdY (p5 4) 65536)))) :=
           bSetB (bSetB ((HB5.out.drew.trans (k4.mono (by simpa using H5.out.bw))).trans (k5.mono h4.bw)) hbg _ _) hbg _ _
          obtain ⟨w6, hw6⟩ : ∃ w6, w6 = (w5'.setCell ⟨g, 4 + i * 10 + 2, none⟩ (.int .i32 (padd (p5 2) (hdX (p5 4) 65536)))).setCell ⟨g, 4 + i * 10 + 3, none⟩ (.int .i32 (padd (p5 3) (hdY (p5 4) 65536))) := ⟨_, rfl⟩
          rw [← hw6] at h6 hb6 ⊢
          have c7 := h6.cellP hi 7 (by decide) (k := .i64) rfl
          have z7 := h6.st.frozen (4 + i * 10 + 7)
          have a0 := cell_at h6 hi
          have hl6 := h6.lt
          have H6 := zz (h6.setP hi 7 (by decide) (k := .i64) rfl 20)
          have HB6 := zz (bSetB hb6 hbg (4 + i * 10 + 7) (.int .i64 20))
          clear hw6 h6 hb6 h5 h4 k4 k5 r2 r3 z2 z3 q2 q3 c2 c3 c4
          go_wp2_with fail
          refine (gtell_any ((i : Int) + 1) 9 9 8192 4 0 (p5 0) H6.out HP5.out.ax (evT_ok F _ _ _ _ _ _ _ hF (by omega) (by decide) (by decide) (by decide) (by decide) (by decide) 0 (by decide)) (by omega) (Nat.le_trans (cntE_le _ _ _) (by omega))).mono ?_
          rintro e w7 ⟨rfl, h7, k7⟩
          have H7 := zz h7
          have HB7 := zz (HB6.out.trans k7)
          clear h7 k7
          go_wp2_with fail
          go_meet
          rw [HE.out, HEL.out]
          exact ⟨H7.out, HB7.out⟩
       case rest =>
        obtain ⟨hs, hb⟩ := hcut
        have HP6 := zz (HP5.out.dash n)
        obtain ⟨p6, hp6⟩ : ∃ p6, pDash p5 n = p6 := ⟨_, rfl⟩
        rw [hp6] at hs HP6
        have HE8 := zz hp6
        have H6 := zz hs
        have HB6 := zz hb
        have hl6 := hs.lt
        have c2 := hs.cellP hi 2 (by decide) (k := .i32) rfl
        have c3 := hs.cellP hi 3 (by decide) (k := .i32) rfl
        clear hs hb hp6 H5 HB5 HP5 HQ hl5
        go_wp2_with fail
        refine (sSlow_any (m := 131072) (k := 61440) HP6.out.wx HP6.out.wy (by unfold F32; omega) _ (by unfold F32; omega)).mono ?_
        rintro e w8 ⟨rfl, k8⟩
        have h8 := H6.out.on k8
        have q2 := h8.cellP hi 2 (by decide) (k := .i32) rfl
        have q3 := h8.cellP hi 3 (by decide) (k := .i32) rfl
        have z2 := h8.st.frozen (4 + i * 10 + 2)
        have z3 := h8.st.frozen (4 + i * 10 + 3)
        have H8 := zz h8
        have HB8 := zz (HB6.out.trans (k8.mono H6.out.bw))
        clear h8 k8 H6 HB6 c2 c3
        go_wp2
        go_end0
        rw [E1.out, HE3.out, HE5.out, HE6.out, HE7.out, HE8.out]
        exact ⟨rfl, (H8.out.setP hi 2 (by decide) rfl _).setP hi 3 (by decide) rfl _, bSetB (bSetB HB8.out hbg _ _) hbg _ _⟩
end
end
end Go.Proofs.YtibeihcpehikoaaGreat
