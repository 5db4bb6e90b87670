/-
  The walks of a player's move.
-/
import Derived.Test.YtibeihcpehikoaaGreatNk18
namespace Go.Proofs.YtibeihcpehikoaaGreat
open Go.RowKit
set_option maxRecDepth 100000
set_option maxHeartbeats 4000000
section
def pMove (p : Nat → Int) : Nat → Int := upd (upd (upd (upd p 0 (wallP (p 0) (p 2) (-3932160) 3932160)) 1 (wallP (p 1) (p 3) (-3932160) 3932160)) 2 (wallV (p 0) (p 2) (-3932160) 3932160)) 3 (wallV (p 1) (p 3) (-3932160) 3932160)
def wMove (p : Nat → Int) : Int := wallW (p 0) (p 2) (-3932160) 3932160 1 2 + wallW (p 1) (p 3) (-3932160) 3932160 4 8
def lMove (i : Nat) (p : Nat → Int) (F : Int) (L : List Ev) : List Ev := if wMove p == 0 then L else addE F L (evT ((i : Int) + 1) 3 3 8192 3 0 (pMove p 0))
theorem yard_f32 : F32 (-3932160) ∧ F32 3932160 := by refine ⟨?_, ?_⟩ <;> (unfold F32; omega)
theorem pMove_zero (p : Nat → Int) : pMove p 0 = wallP (p 0) (p 2) (-3932160) 3932160 := by simp [pMove, upd]
theorem PlB.move {p : Nat → Int} (h : PlB p) : PlB (pMove p) :=
 ⟨by rw [pMove_zero]; exact wallP_bd yard_f32.1 yard_f32.2, by simpa [pMove, upd] using wallP_bd yard_f32.1 yard_f32.2, by simpa [pMove, upd] using wallV_bd h.wx, by simpa [pMove, upd] using wallV_bd h.wy, h.fc, h.hp, h.cl, h.wd, h.dn, h.sc⟩
section
variable {g gp base : Nat} {S p : Nat → Int} {F : Int} {L : List Ev} {w : World} {i n : Nat}
theorem gmove_any (h : Stg w g gp base (putP S i p) F L) (hi : i < 2) (hp : PlB p) (hF : 0 ≤ F ∧ F ≤ 1073741824) (hL : L.length ≤ 14) :
  Calls Tryz.prog 189 #[.pointer (some ⟨g, 0, none⟩), .int .i64 i] w fun e w' => e = .returned (.tuple #[]) ∧ Stg w' g gp base (putP S i (pMove p)) F (lMove i p F L) ∧ Below base w w' := by
 have H := zz h
 have HP := zz hp
 have hi2 : (i : Int) < 2 := by omega
 have hbg := h.bg
 have hlt := h.lt
 have c0 := cell_at h hi
 have c1 := h.cellP hi 1 (by decide) (k := .i32) rfl
 have c2 := h.cellP hi 2 (by decide) (k := .i32) rfl
 have c3 := h.cellP hi 3 (by decide) (k := .i32) rfl
 obtain ⟨X, hX⟩ : ∃ X, wallP (p 0) (p 2) (-3932160) 3932160 = X := ⟨_, rfl⟩
 obtain ⟨Y, hY⟩ : ∃ X, wallP (p 1) (p 3) (-3932160) 3932160 = X := ⟨_, rfl⟩
 obtain ⟨U, hU⟩ : ∃ X, wallV (p 0) (p 2) (-3932160) 3932160 = X := ⟨_, rfl⟩
 obtain ⟨V, hV⟩ : ∃ X, wallV (p 1) (p 3) (-3932160) 3932160 = X := ⟨_, rfl⟩
 obtain ⟨q, hq⟩ : ∃ q, wMove p = q := ⟨_, rfl⟩
 have hpm : pMove p = upd (upd (upd (upd p 0 X) 1 Y) 2 U) 3 V := by unfold pMove; rw [hX, hY, hU, hV]
 have hq' : wallW (p 0) (p 2) (-3932160) 3932160 1 2 + wallW (p 1) (p 3) (-3932160) 3932160 4 8 = q := hq
 have fX : F32 X := by rw [← hX]; exact wallP_bd yard_f32.1 yard_f32.2
 have HPM := zz hpm
 have HQ := zz hq
 have FX := zz fX
 have HMV := zz (fun W => sMove_any HP.out.ax HP.out.ay HP.out.wx HP.out.wy (lx := -3932160) (ly := -3932160) (hx := 3932160) (hy := 3932160) (by decide) W)
 rw [hX, hY, hU, hV, hq'] at HMV
 clear h hp hX hY hU hV hq hq' hpm fX
 go_enter Tryz.func189, Tryz.ntmps189
 go_wp2_with fail
 go_region_law (first
  | (go_simp; go_at_call 237; refine (gyard_any _).mono ?_; rintro e w4 ⟨rfl, k4⟩; have h4 := H.out.drew.on k4; have q0 := cell_at h4 hi; have q1 := h4.cellP hi 1 (by decide) (k := .i32) rfl; have q2 := h4.cellP hi 2 (by decide) (k := .i32) rfl; have q3 := h4.cellP hi 3 (by decide) (k := .i32) rfl; dsimp only)
  | (go_simp; go_at_call 242; refine (HMV.out _).mono ?_; rintro e w5 ⟨rfl, k5⟩; have h5 := h4.on k5; have r0 := cell_at h5 hi; have r1 := h5.cellP hi 1 (by decide) (k := .i32) rfl; have r2 := h5.cellP hi 2 (by decide) (k := .i32) rfl; have r3 := h5.cellP hi 3 (by decide) (k := .i32) rfl; have z0 := h5.st.frozen (4 + i * 10); have z1 := h5.st.frozen (4 + i * 10 + 1); have z2 := h5.st.frozen (4 + i * 10 + 2); have z3 := h5.st.frozen (4 + i * 10 + 3); dsimp only))
 all_goals
  have h6 : Stg ((((w5.setCell ⟨g, 4 + i * 10, none⟩ (.int .i32 X)).setCell ⟨g, 4 + i * 10 + 1, none⟩ (.int .i32 Y)).setCell ⟨g, 4 + i * 10 + 2, none⟩ (.int .i32 U)).setCell ⟨g, 4 + i * 10 + 3, none⟩ (.int .i32 V)) g gp base (putP S i (pMove p)) F L := by
   rw [HPM.out]
   exact (((h5.setP hi 0 (by decide) (k := .i32) rfl X).setP hi 1 (by decide) (k := .i32) rfl Y).setP hi 2 (by decide) (k := .i32) rfl U).setP hi 3 (by decide) (k := .i32) rfl V
  have hb6 : Below base w ((((w5.setCell ⟨g, 4 + i * 10, none⟩ (.int .i32 X)).setCell ⟨g, 4 + i * 10 + 1, none⟩ (.int .i32 Y)).setCell ⟨g, 4 + i * 10 + 2, none⟩ (.int .i32 U)).setCell ⟨g, 4 + i * 10 + 3, none⟩ (.int .i32 V)) :=
   bSetB (bSetB (bSetB (bSetB (((Below.refl _ _).drew.trans (k4.mono (by simpa using H.out.bw))).trans (k5.mono h4.bw)) hbg _ _) hbg _ _) hbg _ _) hbg _ _
  obtain ⟨w6, hw6⟩ : ∃ w6, w6 = (((w5.setCell ⟨g, 4 + i * 10, none⟩ (.int .i32 X)).setCell ⟨g, 4 + i * 10 + 1, none⟩ (.int .i32 Y)).setCell ⟨g, 4 + i * 10 + 2, none⟩ (.int .i32 U)).setCell ⟨g, 4 + i * 10 + 3, none⟩ (.int .i32 V) := ⟨_, rfl⟩
  rw [← hw6] at h6 hb6 ⊢
  have a0 := cell_at h6 hi
  rw [HPM.out, show upd (upd (upd (upd p 0 X) 1 Y) 2 U) 3 V 0 = X from rfl] at a0
  have hl6 := h6.lt
  have H6 := zz h6
  have HB6 := zz hb6
  clear hw6 h6 hb6 h5 h4 k4 k5 r0 r1 r2 r3 z0 z1 z2 z3 q0 q1 q2 q3 c0 c1 c2 c3
  by_cases hz : q = 0
  ·have HEL := zz (show lMove i p F L = L by unfold lMove; rw [HQ.out, hz]; rfl)
   subst hz
   go_wp2
   go_end0
   rw [HEL.out]
   exact ⟨rfl, H6.out, HB6.out⟩
  ·have hzb : (q == 0) = false := by simpa using hz
   have hzn : (q != 0) = true := by simpa using hz
   have HEL := zz (show lMove i p F L = addE F L (evT ((i : Int) + 1) 3 3 8192 3 0 X) by unfold lMove; rw [HQ.out, hzb, HPM.out]; rfl)
   clear hz hzb
   go_wp2_with fail
   refine (gtell_any ((i : Int) + 1) 3 3 8192 3 0 X H6.out FX.out (evT_ok F _ _ _ _ _ _ _ hF (by omega) (by decide) (by decide) (by decide) (by decide) (by decide) 0 (by decide)) (by omega) (Nat.le_trans (cntE_le _ _ _) (by omega))).mono ?_
   rintro e w7 ⟨rfl, h7, k7⟩
   have H7 := zz h7
   have HB7 := zz (HB6.out.trans k7)
   clear h7 k7
   go_wp2
   go_end0
   rw [HEL.out]
   exact ⟨rfl, H7.out, HB7.out⟩
end
end
end Go.Proofs.YtibeihcpehikoaaGreat
