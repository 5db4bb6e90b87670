/-
  The walk of a player's fire.
-/
import Derived.Test.YtibeihcpehikoaaGreatNk23
namespace Go.Proofs.YtibeihcpehikoaaGreat
open Go.RowKit
set_option maxRecDepth 100000
set_option maxHeartbeats 4000000
section
theorem six_far {a b c d e f : Value} (W : World) (g o m : Nat) (h : m < o) : (((((((W).setCell ⟨g, o, none⟩ a).setCell ⟨g, o + 1, none⟩ b).setCell ⟨g, o + 2, none⟩ c).setCell ⟨g, o + 3, none⟩ d).setCell ⟨g, o + 4, none⟩ e).setCell ⟨g, o + 5, none⟩ f).cell? ⟨g, m, none⟩ = W.cell? ⟨g, m, none⟩ := by
 rw [World.cell?_setCell_other, World.cell?_setCell_other, World.cell?_setCell_other, World.cell?_setCell_other, World.cell?_setCell_other, World.cell?_setCell_other]
 all_goals (intro e; injection e; omega)
section
variable {w w' : World} {g gp base : Nat} {S x : Nat → Int} {F : Int} {L : List Ev} {k : Nat}
theorem Stg.setS (h : Stg w g gp base (putS S k x) F L) (hk : k < 6) (j : Nat) (hj : j < 6) {kd : IntKind} (hd : kdP j = kd) (v : Int) : Stg (w.setCell ⟨g, 24 + k * 6 + j, none⟩ (.int kd v)) g gp base (putS S k (upd x j v)) F L := by
 rw [← upd_putS S k x j v hj]
 exact h.set _ (by omega) (by rw [kdS_s k j hj, hd]) v
theorem Stg.cellS (h : Stg w g gp base S F L) (hk : k < 6) (j : Nat) (hj : j < 6) {kd : IntKind} (hd : kdP j = kd) : w.cell? ⟨g, 24 + k * 6 + j, none⟩ = some (.int kd (S (24 + k * 6 + j))) := by
 rw [h.st.cell _ (by omega), kdS_s k j hj, hd]
theorem Stg.cellS0 (h : Stg w g gp base S F L) (hk : k < 6) : w.cell? ⟨g, 24 + k * 6, none⟩ = some (.int .i32 (S (24 + k * 6))) := h.cellS hk 0 (by decide) rfl
theorem Stg.as (h : Stg w g gp base S F L) {S' : Nat → Int} (e : S = S') : Stg w g gp base S' F L := e ▸ h
end
theorem bSetB6 {base : Nat} {w w' : World} {g : Nat} (h : Below base w w') (hg : base ≤ g) (o : Nat) (u : Value) : Below base w (w'.setCell ⟨g, o, none⟩ u) := h.setCell (p := ⟨g, o, none⟩) hg u
theorem freeFrom_step (S : Nat → Int) (n k : Nat) (h : S (24 + k * 6 + 4) ≠ 0) : freeFrom S (n + 1) k = freeFrom S n (k + 1) := by rw [freeFrom, if_neg h]
theorem freeFrom_here (S : Nat → Int) (n k : Nat) (h : S (24 + k * 6 + 4) = 0) : freeFrom S (n + 1) k = k := by rw [freeFrom, if_pos h]
theorem shotOf_six (x p : Nat → Int) (i : Nat) (S : Nat → Int) (k : Nat) : putS S k (upd (upd (upd (upd (upd (upd x 0 (padd (p 0) (hdX (p 4) 262144))) 1 (padd (p 1) (hdY (p 4) 262144))) 2 (hdX (p 4) 196608)) 3 (hdY (p 4) 196608)) 4 ((i : Int) + 1)) 5 40) = putS S k (shotOf p i) := by
 refine putS_congr _ _ _ _ fun j hj => ?_
 have hj : j = 0 ∨ j = 1 ∨ j = 2 ∨ j = 3 ∨ j = 4 ∨ j = 5 := by omega
 rcases hj with rfl | rfl | rfl | rfl | rfl | rfl <;> rfl
section
variable {g gp base : Nat} {S p : Nat → Int} {F : Int} {L : List Ev} {w : World} {i : Nat}
theorem fireS_none (h6 : p 6 = 0) (hf : freeK (putP S i p) = 6) : fireS i F (putP S i p, L) = (putP S i p, L) := by
 unfold fireS
 simp only [getP_putP S i p 6 (by decide), h6, hf]
 rfl
theorem fireS_some (hi : i < 2) {k : Nat} (hk : k < 6) (h6 : p 6 = 0) (hf : freeK (putP S i p) = k) : fireS i F (putP S i p, L) = (putP (putS S k (shotOf p i)) i (upd p 6 8), addE F L (evT ((i : Int) + 1) 1 1 16384 5 0 (p 0))) := by
 have hg : ∀ j, j < 10 → getP (putP S i p) i j = p j := fun j hj => getP_putP S i p j hj
 unfold fireS
 simp only [hg 6 (by decide), h6, hf, hg 0 (by decide)]
 rw [if_neg (by decide), if_pos hk]
 congr 1
 rw [putS_putP S i k hi, putP_putP]
 have e1 : putS S k (shotOf (getP (putP S i p) i) i) = putS S k (shotOf p i) := by
  refine putS_congr _ _ _ _ fun j hj => ?_
  unfold shotOf
  rw [hg 0 (by decide), hg 1 (by decide), hg 4 (by decide)]
 rw [e1]
 refine putP_congr _ _ _ _ fun j hj => ?_
 unfold upd
 split
 ·rfl
 ·exact hg j hj
theorem gfire_any (h : Stg w g gp base (putP S i p) F L) (hi : i < 2) (hp : PlB p) (hF : 0 ≤ F ∧ F ≤ 1073741824) (hL : L.length ≤ 14) :
  Calls Tryz.prog 191 #[.pointer (some ⟨g, 0, none⟩), .int .i64 i] w fun e w' => e = .returned (.tuple #[]) ∧ Stg w' g gp base (fireS i F (putP S i p, L)).1 F (fireS i F (putP S i p, L)).2 ∧ Below base w w' := by
 have H := zz h
 have HP := zz hp
 have hi2 : (i : Int) < 2 := by omega
 have hbg := h.bg
 have hlt := h.lt
 have c0 : w.cell? ⟨g, 4 + i * 10, none⟩ = some (.int .i32 (p 0)) := h.cellP hi 0 (by decide) (k := .i32) rfl
 have c1 := h.cellP hi 1 (by decide) (k := .i32) rfl
 have c4 := h.cellP hi 4 (by decide) (k := .i64) rfl
 have c6 := h.cellP hi 6 (by decide) (k := .i64) rfl
 have b6 := hp.cl
 have b4 := hp.fc
 clear h hp
 by_cases h6 : 0 < p 6
 ·have HE := zz (show fireS i F (putP S i p, L) = (putP S i p, L) by
   unfold fireS
   simp only [getP_putP S i p 6 (by decide)]
   rw [if_pos h6])
  go_enter Tryz.func191, Tryz.ntmps191
  go_wp2
  refine bodyPost_ret (results_none rfl _ _ _) rfl ⟨rfl, ?_, Below.refl _ _⟩
  rw [HE.out]
  exact H.out
 ·have h6' : p 6 = 0 := by omega
  have H6 := zz h6'
  rw [h6'] at c6
  clear h6' h6 b6
  go_enter Tryz.func191, Tryz.ntmps191
  go_wp2
  go_loopw [17] (fun v wr => ∃ k : Nat, k ≤ 6 ∧ v = .int .i64 k ∧ Hid (freeFrom (putP S i p) (6 - k) k = freeK (putP S i p)) ∧ wr = w) (fun v _ => 6 - (intOf v).toNat)
  case atStart => exact ⟨0, by decide, rfl, zz rfl, rfl⟩
  case round =>
   obtain ⟨k, hk, rfl, hfr, rfl⟩ := hrel
   by_cases hlt6 : k < 6
   ·have ho := H.out.cellS hlt6 4 (by decide) (kd := .i64) rfl
    have hk2 : (k : Int) < 6 := by omega
    by_cases h0 : putP S i p (24 + k * 6 + 4) = 0
    ·have hfk : freeK (putP S i p) = k := by
      rw [← hfr.out, show 6 - k = (5 - k) + 1 by omega, freeFrom_here _ _ _ h0]
     have HE := zz (fireS_some (F := F) (L := L) hi hlt6 H6.out hfk)
     rw [h0] at ho
     clear h0 hfk hfr
     go_wp2
     have hwi : IntKind.i64.wrap ((i : Int) + 1) = (i : Int) + 1 := IntWalk.i64_in _ (by omega)
     have HST := zz H.out.drew
     have HBB := zz (Below.refl base wr).drew
     go_region_held3 (fun w' => w'.cell? ⟨g, 4 + i * 10, none⟩ = some (.int .i32 (p 0)) ∧ w'.cell? ⟨g, 4 + i * 10 + 1, none⟩ = some (.int .i32 (p 1)) ∧ w'.cell? ⟨g, 4 + i * 10 + 4, none⟩ = some (.int .i64 (p 4)))
      (first | go_keep | (go_split_ands; refine ⟨?_, ?_, ?_⟩ <;> (rw [kn.cell (by simp; omega)]; assumption)) | (go_split_ands; refine ⟨?_, ?_, ?_⟩ <;> (rw [six_far _ _ _ _ (by omega)]; assumption)))
      (first
       | (go_at_call 240; (first | (with_reducible refine (gheading_any _ 262144 (by unfold F32; omega) _).mono ?_) | (with_reducible refine (gheading_any _ 196608 (by unfold F32; omega) _).mono ?_)); rintro e wn ⟨rfl, kn⟩; have hgl : g < wn.heap.size := (by have hh := kn.size; (try simp at hh); (clear hwi); omega); have HBB := zz (HBB.out.trans (kn.mono HST.out.bw)); have HST := zz (HST.out.on kn); have q0 := HST.out.cellS0 hlt6; have q1 := HST.out.cellS hlt6 1 (by decide) (kd := .i32) rfl; have q2 := HST.out.cellS hlt6 2 (by decide) (kd := .i32) rfl; have q3 := HST.out.cellS hlt6 3 (by decide) (kd := .i32) rfl; have q4 := HST.out.cellS hlt6 4 (by decide) (kd := .i64) rfl; have q5 := HST.out.cellS hlt6 5 (by decide) (kd := .i64) rfl; have z0 := HST.out.st.frozen (24 + k * 6); have z1 := HST.out.st.frozen (24 + k * 6 + 1); have z2 := HST.out.st.frozen (24 + k * 6 + 2); have z3 := HST.out.st.frozen (24 + k * 6 + 3); have z4 := HST.out.st.frozen (24 + k * 6 + 4); have z5 := HST.out.st.frozen (24 + k * 6 + 5))
       | (go_at_call 194; refine (sAdd_any HP.out.ax HP.out.ay (hdX_bd _ _) (hdY_bd _ _) _).mono ?_; rintro e wn ⟨rfl, kn⟩; have hgl : g < wn.heap.size := (by have hh := kn.size; (try simp at hh); (clear hwi); omega); have HBB := zz (HBB.out.trans (kn.mono HST.out.bw)); have HST := zz (HST.out.on kn); have q0 := HST.out.cellS0 hlt6; have q1 := HST.out.cellS hlt6 1 (by decide) (kd := .i32) rfl; have q2 := HST.out.cellS hlt6 2 (by decide) (kd := .i32) rfl; have q3 := HST.out.cellS hlt6 3 (by decide) (kd := .i32) rfl; have q4 := HST.out.cellS hlt6 4 (by decide) (kd := .i64) rfl; have q5 := HST.out.cellS hlt6 5 (by decide) (kd := .i64) rfl; have z0 := HST.out.st.frozen (24 + k * 6); have z1 := HST.out.st.frozen (24 + k * 6 + 1); have z2 := HST.out.st.frozen (24 + k * 6 + 2); have z3 := HST.out.st.frozen (24 + k * 6 + 3); have z4 := HST.out.st.frozen (24 + k * 6 + 4); have z5 := HST.out.st.frozen (24 + k * 6 + 5)))
     all_goals
      clear hwi
      have h6 := zz (((((((HST.out.as (putS_get _ k).symm).setS hlt6 0 (by decide) (kd := .i32) rfl (padd (p 0) (hdX (p 4) 262144))).setS hlt6 1 (by decide) (kd := .i32) rfl (padd (p 1) (hdY (p 4) 262144))).setS hlt6 2 (by decide) (kd := .i32) rfl (hdX (p 4) 196608)).setS hlt6 3 (by decide) (kd := .i32) rfl (hdY (p 4) 196608)).setS hlt6 4 (by decide) (kd := .i64) rfl ((i : Int) + 1)).setS hlt6 5 (by decide) (kd := .i64) rfl 40)
      have hb6 := zz (bSetB6 (bSetB6 (bSetB6 (bSetB6 (bSetB6 (bSetB6 HBB.out hbg (24 + k * 6 + 0) (.int .i32 (padd (p 0) (hdX (p 4) 262144)))) hbg (24 + k * 6 + 1) (.int .i32 (padd (p 1) (hdY (p 4) 262144)))) hbg (24 + k * 6 + 2) (.int .i32 (hdX (p 4) 196608))) hbg (24 + k * 6 + 3) (.int .i32 (hdY (p 4) 196608))) hbg (24 + k * 6 + 4) (.int .i64 ((i : Int) + 1))) hbg (24 + k * 6 + 5) (.int .i64 40))
      rw [shotOf_six, putS_putP _ i k hi] at h6
      obtain ⟨w6, hw6⟩ : ∃ w6, w6 = (((((((wn).setCell ⟨g, 24 + k * 6, none⟩ (.int .i32 (padd (p 0) (hdX (p 4) 262144)))).setCell ⟨g, 24 + k * 6 + 1, none⟩ (.int .i32 (padd (p 1) (hdY (p 4) 262144)))).setCell ⟨g, 24 + k * 6 + 2, none⟩ (.int .i32 (hdX (p 4) 196608))).setCell ⟨g, 24 + k * 6 + 3, none⟩ (.int .i32 (hdY (p 4) 196608))).setCell ⟨g, 24 + k * 6 + 4, none⟩ (.int .i64 ((i : Int) + 1))).setCell ⟨g, 24 + k * 6 + 5, none⟩ (.int .i64 40)) := ⟨_, rfl⟩
      have h7 : Stg w6 g gp base (putP (putS S k (shotOf p i)) i p) F L := by rw [hw6]; exact h6.out
      have hb7 : Below base wr w6 := by rw [hw6]; exact hb6.out
      rw [← hw6]
      clear hw6 h6 hb6 q0 q1 q2 q3 q4 q5 z0 z1 z2 z3 z4 z5
      have d6 := h7.cellP hi 6 (by decide) (k := .i64) rfl
      have y6 := h7.st.frozen (4 + i * 10 + 6)
      have d0 : w6.cell? ⟨g, 4 + i * 10, none⟩ = some (.int .i32 (p 0)) := h7.cellP hi 0 (by decide) (k := .i32) rfl
      have hl7 := h7.lt
      have H8 := zz (h7.setP hi 6 (by decide) (k := .i64) rfl 8)
      have HB8 := zz (bSetB6 hb7 hbg (4 + i * 10 + 6) (.int .i64 8))
      clear h7 hb7
      go_wp2_with fail
      refine (gtell_any ((i : Int) + 1) 1 1 16384 5 0 (p 0) H8.out HP.out.ax (evT_ok F _ _ _ _ _ _ _ hF (by omega) (by decide) (by decide) (by decide) (by decide) (by decide) 0 (by decide)) (by omega) (Nat.le_trans (cntE_le _ _ _) (by omega))).mono ?_
      rintro e w9 ⟨rfl, h9, k9⟩
      have H9 := zz h9
      have HB9 := zz (HB8.out.trans k9)
      clear h9 k9
      go_wp2
      refine bodyPost_ret (results_none rfl _ _ _) rfl ⟨rfl, ?_, HB9.out⟩
      rw [HE.out]
      exact H9.out
    ·have HN := zz (freeFrom_step (putP S i p) (5 - k) k h0)
     have h0' : (putP S i p (24 + k * 6 + 4) == 0) = false := by simpa using h0
     have hne : (putP S i p (24 + k * 6 + 4) != 0) = true := by simpa using h0
     obtain ⟨v, hv⟩ : ∃ v, putP S i p (24 + k * 6 + 4) = v := ⟨_, rfl⟩
     rw [hv] at ho h0' hne
     clear h0 hv
     go_wp2
     go_roundw
     case rel => exact ⟨k + 1, by omega, by go_num, zz (by rw [← hfr.out, show 6 - (k + 1) = 5 - k by omega, show 6 - k = 5 - k + 1 by omega, HN.out]), (by first | rfl | trivial)⟩
     case measure => simp [intOf]; omega
   ·obtain rfl : k = 6 := by omega
    have HE := zz (fireS_none (F := F) (L := L) H6.out (hfr.out.symm))
    clear hfr
    go_wp2
    go_end0
    rw [HE.out]
    exact ⟨rfl, H.out, Below.refl _ _⟩
end
end
end Go.Proofs.YtibeihcpehikoaaGreat
