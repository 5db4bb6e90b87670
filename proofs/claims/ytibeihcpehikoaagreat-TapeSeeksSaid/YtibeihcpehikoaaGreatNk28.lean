/-
  The walks beneath: Game8, GameU, Game9, Beg.
-/
import Derived.Test.YtibeihcpehikoaaGreatNk27
namespace Go.Proofs.YtibeihcpehikoaaGreat
open Go.RowKit
set_option maxRecDepth 100000
set_option maxHeartbeats 4000000
section
theorem steerP_b {p : Nat → Int} (h : PlB p) (n : Nat) : PlB (steerP p n) := ((((h.cool.face n).brake n).thrust n).dash n).slow
theorem steerL_len (i : Nat) (p : Nat → Int) (n : Nat) (F : Int) (L : List Ev) : (steerL i p n F L).length ≤ L.length + 2 := by
 unfold steerL lDash lThrust
 split <;> split <;> (try simp only [addE_length]) <;> omega
theorem lMove_len (i : Nat) (p : Nat → Int) (F : Int) (L : List Ev) : (lMove i p F L).length ≤ L.length + 1 := by
 unfold lMove
 split
 ·omega
 ·rw [addE_length]; exact zL _
section
variable {g gp base : Nat} {S : Nat → Int} {F : Int} {L : List Ev} {w : World} {i n : Nat}
theorem gplay_any (h : Stg w g gp base S F L) (hi : i < 2) (hok : StOk S) (hn : n < 64) (hF : 0 ≤ F ∧ F ≤ 1073741824) (hS : S 0 = F) (hL : L.length ≤ 10) :
  Calls Tryz.prog 121 #[.pointer (some ⟨g, 0, none⟩), .int .i64 i, .int .u8 n] w fun e w' => e = .returned (.tuple #[]) ∧ Stg w' g gp base (playS i n F (S, L)).1 F (playS i n F (S, L)).2 ∧ Below base w w' := by
 have hpb := (hok.m.pl i hi).b (hok.two i hi)
 have h1 := h.as (putP_get S i).symm
 have c8 := h1.cellP hi 8 (by decide) (k := .i64) rfl
 have hlt := h.lt
 have hi2 : (i : Int) < 2 := by omega
 have hdc := hok.m.dc
 obtain ⟨p, hp⟩ : ∃ p, getP S i = p := ⟨_, rfl⟩
 have HE : Hid (playS i n F (S, L) = if 1 < p 8 then (putP S i (upd p 8 (p 8 - 1)), L) else if p 8 = 1 then (putP (upd S 1 (nextZ (S 1))) i (pBack p (throwZ (S 1) 4)), addE F L (evT ((i : Int) + 1) 6 6 16384 9 0 (cornX (throwZ (S 1) 4)))) else if bit n 16 then fireS i F (putP S i (pMove (steerP p n)), lMove i (steerP p n) F (steerL i p n F L)) else (putP S i (pMove (steerP p n)), lMove i (steerP p n) F (steerL i p n F L))) := by
  subst hp; exact zz rfl
 rw [hp] at hpb h1 c8
 obtain ⟨d0, d1⟩ := hpb.dn
 have H := zz h1
 have HP := zz hpb
 have HS := zz hS
 have HU := zz hdc
 clear h h1 hpb hp hS hok hdc
 by_cases h8 : 1 < p 8
 ·have HR := zz (HE.out.trans (if_pos h8))
  clear HE
  go_enter Tryz.func121, Tryz.ntmps121
  go_wp2_with fail
  refine (gback_more H.out hi h8 d1).mono ?_
  rintro e w1 ⟨rfl, k1, k2⟩
  have H1 := zz k1
  have H2 := zz k2
  clear k1 k2
  go_wp2
  refine bodyPost_ret (results_none rfl _ _ _) rfl ⟨rfl, ?_, H2.out⟩
  rw [HR.out]
  exact H1.out
 ·by_cases h1 : p 8 = 1
  ·have HR := zz (HE.out.trans ((if_neg h8).trans (if_pos h1)))
   have H8 := zz h1
   have hpos : 0 < p 8 := by omega
   clear HE h1
   go_enter Tryz.func121, Tryz.ntmps121
   go_wp2_with fail
   refine (gback_one H.out hi H8.out HU.out hF (by omega)).mono ?_
   rintro e w1 ⟨rfl, k1, k2⟩
   have H1 := zz k1
   have H2 := zz k2
   clear k1 k2
   go_wp2
   refine bodyPost_ret (results_none rfl _ _ _) rfl ⟨rfl, ?_, H2.out⟩
   rw [HR.out]
   exact H1.out
  ·have HR := zz (HE.out.trans ((if_neg h8).trans (if_neg h1)))
   have hz : p 8 ≤ 0 := by omega
   have hl1 := steerL_len i p n F L
   have hl2 := lMove_len i (steerP p n) F (steerL i p n F L)
   clear HE h1 h8 d0 d1
   go_enter Tryz.func121, Tryz.ntmps121
   go_wp2_with fail
   refine (gsteer_any H.out hi hn HP.out hF HS.out (by omega)).mono ?_
   rintro e w1 ⟨rfl, k1, k2⟩
   have HP1 := zz (steerP_b HP.out n)
   have H1 : Hid (Stg w1 g gp base (putP S i (steerP p n)) F (steerL i p n F L)) := k1
   have HB1 := zz k2
   clear k1 k2
   go_wp2_with fail
   refine (gmove_any H1.out hi HP1.out hF (by omega)).mono ?_
   rintro e w2 ⟨rfl, k1, k2⟩
   have H2 := zz k1
   have HB2 := zz (HB1.out.trans k2)
   have HP2 := zz HP1.out.move
   clear k1 k2
   go_wp2_with fail
   refine (pr_any n 16 _ rfl hn (by decide) _).mono ?_
   rintro e w3 ⟨rfl, rfl⟩
   cases hbit : bit n 16
   ·have HF2 := zz (HR.out.trans (if_neg (by rw [hbit]; decide)))
    go_wp2
    go_end0
    rw [HF2.out]
    exact ⟨rfl, H2.out, HB2.out⟩
   ·have HF2 := zz (HR.out.trans (if_pos hbit))
    go_wp2_with fail
    refine (gfire_any H2.out hi HP2.out hF (by omega)).mono ?_
    rintro e w4 ⟨rfl, k1, k2⟩
    have H4 := zz k1
    have HB4 := zz (HB2.out.trans k2)
    clear k1 k2
    go_wp2
    go_end0
    rw [HF2.out]
    exact ⟨rfl, H4.out, HB4.out⟩
end
end
section
structure Hd (S T : Nat → Int) : Prop where
 fr : T 0 = S 0
 rd : T 2 = S 2
 lf : T 3 = S 3
theorem Hd.refl (S : Nat → Int) : Hd S S := ⟨rfl, rfl, rfl⟩
theorem Hd.trans {S T U : Nat → Int} (h : Hd S T) (k : Hd T U) : Hd S U := ⟨k.fr.trans h.fr, k.rd.trans h.rd, k.lf.trans h.lf⟩
theorem Hd.putP (S : Nat → Int) (i : Nat) (p : Nat → Int) : Hd S (putP S i p) := ⟨putP_other _ _ _ _ (by omega), putP_other _ _ _ _ (by omega), putP_other _ _ _ _ (by omega)⟩
theorem Hd.putS (S : Nat → Int) (k : Nat) (x : Nat → Int) : Hd S (putS S k x) := ⟨putS_other _ _ _ _ (by omega), putS_other _ _ _ _ (by omega), putS_other _ _ _ _ (by omega)⟩
theorem Hd.upd (S : Nat → Int) (j : Nat) (v : Int) (h0 : j ≠ 0) (h2 : j ≠ 2) (h3 : j ≠ 3) : Hd S (upd S j v) := ⟨upd_other _ _ _ _ (fun e => h0 e.symm), upd_other _ _ _ _ (fun e => h2 e.symm), upd_other _ _ _ _ (fun e => h3 e.symm)⟩
theorem wallP_in {p v lo hi : Int} (h : lo ≤ hi) : lo ≤ wallP p v lo hi ∧ wallP p v lo hi ≤ hi := by
 unfold wallP
 split
 ·omega
 ·split <;> omega
theorem steerP_keep (p : Nat → Int) (n j : Nat) (h : j = 5 ∨ j = 8 ∨ j = 9) : steerP p n j = p j := by
 unfold steerP pSlow
 rw [upd_other _ _ _ _ (by omega), upd_other _ _ _ _ (by omega)]
 unfold pDash
 have hpush : ∀ (q : Nat → Int) (l : Int), pPush q l j = q j := fun q l => by
  unfold pPush
  rw [upd_other _ _ _ _ (by omega), upd_other _ _ _ _ (by omega)]
 have hth : pThrust (pBrake (pFace (pCool p) n) n) n j = p j := by
  have hb : pBrake (pFace (pCool p) n) n j = p j := by
   have hf : pFace (pCool p) n j = p j := by
    rw [pFace_eq, upd_other _ _ _ _ (by omega)]
    unfold pCool
    rw [upd_other _ _ _ _ (by omega), upd_other _ _ _ _ (by omega)]
   unfold pBrake
   split
   ·rw [upd_other _ _ _ _ (by omega), upd_other _ _ _ _ (by omega), hf]
   ·exact hf
  unfold pThrust
  split
  ·rw [hpush, hb]
  ·exact hb
 split
 ·rw [upd_other _ _ _ _ (by omega), hpush, hth]
 ·exact hth
theorem pMove_keep (p : Nat → Int) (j : Nat) (h : 4 ≤ j) : pMove p j = p j := by
 unfold pMove
 rw [upd_other _ _ _ _ (by omega), upd_other _ _ _ _ (by omega), upd_other _ _ _ _ (by omega), upd_other _ _ _ _ (by omega)]
theorem PlM.moved {p : Nat → Int} (h : PlM p) (h9 : p 9 ≤ 2) (n : Nat) : PlM (pMove (steerP p n)) := by
 have hb := (steerP_b (h.b h9) n).move
 have k5 : pMove (steerP p n) 5 = p 5 := (pMove_keep _ 5 (by decide)).trans (steerP_keep p n 5 (by omega))
 have k8 : pMove (steerP p n) 8 = p 8 := (pMove_keep _ 8 (by decide)).trans (steerP_keep p n 8 (by omega))
 have k9 : pMove (steerP p n) 9 = p 9 := (pMove_keep _ 9 (by decide)).trans (steerP_keep p n 9 (by omega))
 refine ⟨?_, ?_, hb.wx, hb.wy, hb.fc, hb.hp, hb.cl, hb.wd, hb.dn, ?_, ?_⟩
 ·rw [pMove_zero]; exact wallP_in (by decide)
 ·have : pMove (steerP p n) 1 = wallP (steerP p n 1) (steerP p n 3) (-3932160) 3932160 := by simp [pMove, upd]
  rw [this]; exact wallP_in (by decide)
 ·rw [k9]; exact h.sc
 ·rw [k5, k8]; exact h.up
theorem hd_in (a : Int) : -262144 ≤ hdX a 262144 ∧ hdX a 262144 ≤ 262144 ∧ -262144 ≤ hdY a 262144 ∧ hdY a 262144 ≤ 262144 := by
 have h1 := sinZ_bd (a + 16384)
 have h2 := sinZ_bd a
 unfold hdX hdY fmul sat
 omega
theorem ShM.fired {p : Nat → Int} (h : PlM p) {i : Nat} (hi : i < 2) : ShM (shotOf p i) := by
 have hx := h.ax
 have hy := h.ay
 have hd := hd_in (p 4)
 have e0 : shotOf p i 0 = padd (p 0) (hdX (p 4) 262144) := rfl
 have e1 : shotOf p i 1 = padd (p 1) (hdY (p 4) 262144) := rfl
 have e2 : shotOf p i 2 = hdX (p 4) 196608 := rfl
 have e3 : shotOf p i 3 = hdY (p 4) 196608 := rfl
 have e4 : shotOf p i 4 = (i : Int) + 1 := rfl
 have e5 : shotOf p i 5 = 40 := rfl
 refine ⟨?_, ?_, ?_, ?_, ?_, ?_, ?_, ?_⟩
 ·rw [e0]; unfold padd sat; omega
 ·rw [e1]; unfold padd sat; omega
 ·rw [e2]; exact hdX_bd _ _
 ·rw [e3]; exact hdY_bd _ _
 ·rw [e4]; omega
 ·rw [e5]; omega
 ·rw [e4]; intro h; omega
 ·intro _; rw [e5]; omega
theorem fireS_ok {S : Nat → Int} {L : List Ev} {i : Nat} {F : Int} {a b : Nat} (h : StOk S) (hi : i < 2) (hev : EvN L a b) : StOk (fireS i F (S, L)).1 ∧ EvN (fireS i F (S, L)).2 (a + 1) b ∧ Hd S (fireS i F (S, L)).1 := by
 unfold fireS
 dsimp only
 split
 ·exact ⟨h, hev.more (by omega) (by omega), Hd.refl _⟩
 ·split
  ·rename_i h6 hk
   have hp := h.m.pl i hi
   refine ⟨(h.sput hk (ShM.fired hp hi)).pput hi ?_ ?_, hev.add F _ (by show (1 : Int) ≠ 2; decide) (by show (1 : Int) ≠ 5; decide), (Hd.putS _ _ _).trans (Hd.putP _ _ _)⟩
   ·exact ⟨hp.ax, hp.ay, hp.wx, hp.wy, hp.fc, hp.hp, by simp [upd], hp.wd, hp.dn, hp.sc, hp.up⟩
   ·exact h.two i hi
  ·exact ⟨h, hev.more (by omega) (by omega), Hd.refl _⟩
theorem steerL_ev {L : List Ev} {a b : Nat} (i : Nat) (p : Nat → Int) (n : Nat) (F : Int) (h : EvN L a b) : EvN (steerL i p n F L) (a + 2) b := by
 unfold steerL
 have h1 : ∀ q, EvN (lThrust i q n F L) (a + 1) b := fun q => by
  unfold lThrust
  split
  ·exact h.add F _ (by show (8 : Int) ≠ 2; decide) (by show (8 : Int) ≠ 5; decide)
  ·exact h.more (by omega) (by omega)
 unfold lDash
 split
 ·exact (h1 _).add F _ (by show (9 : Int) ≠ 2; decide) (by show (9 : Int) ≠ 5; decide)
 ·exact (h1 _).more (by omega) (by omega)
theorem lMove_ev {L : List Ev} {a b : Nat} (i : Nat) (p : Nat → Int) (F : Int) (h : EvN L a b) : EvN (lMove i p F L) (a + 1) b := by
 unfold lMove
 split
 ·exact h.more (by omega) (by omega)
 ·exact h.add F _ (by show (3 : Int) ≠ 2; decide) (by show (3 : Int) ≠ 5; decide)
theorem pBack_m {p : Nat → Int} (h : PlM p) (k : Int) : PlM (pBack p k) := by
 have h9 := h.sc
 have hc : -3932160 ≤ cornX k ∧ cornX k ≤ 3932160 := by unfold cornX; split <;> omega
 have hd : -3932160 ≤ cornY k ∧ cornY k ≤ 3932160 := by unfold cornY; split <;> omega
 refine ⟨?_, ?_, ?_, ?_, ?_, ?_, ?_, ?_, ?_, ?_, ?_⟩ <;> simp [pBack, upd, F32] <;> assumption
theorem playS_ok {S : Nat → Int} {L : List Ev} {i n : Nat} {F : Int} {a b : Nat} (h : StOk S) (hi : i < 2) (hev : EvN L a b) : StOk (playS i n F (S, L)).1 ∧ EvN (playS i n F (S, L)).2 (a + 4) b ∧ Hd S (playS i n F (S, L)).1 := by
 have hp := h.m.pl i hi
 have h9 : getP S i 9 ≤ 2 := h.two i hi
 unfold playS
 dsimp only
 split
 ·rename_i h8
  have hdn := hp.dn
  refine ⟨h.pput hi ⟨hp.ax, hp.ay, hp.wx, hp.wy, hp.fc, hp.hp, hp.cl, hp.wd, ?_, hp.sc, ?_⟩ h9, hev.more (by omega) (by omega), Hd.putP _ _ _⟩
  ·simp [upd]; omega
  ·have hup := hp.up
   simp [upd]; omega
 ·split
  ·refine ⟨(h.head (j := 1) (by decide) (fun _ => nextZ_bd _) (fun e => absurd e (by decide)) (fun e => absurd e (by decide)) (fun e => absurd e (by decide))).pput hi (pBack_m hp _) ?_, (hev.add F _ ?_ ?_).more (by omega) (by omega), (Hd.upd S 1 _ (by decide) (by decide) (by decide)).trans (Hd.putP _ _ _)⟩
   ·exact h9
   ·show (6 : Int) ≠ 2; decide
   ·show (6 : Int) ≠ 5; decide
  ·have h1 : StOk (putP S i (pMove (steerP (getP S i) n))) := h.pput hi (hp.moved h9 n) (by rw [pMove_keep _ 9 (by decide), steerP_keep _ _ 9 (by omega)]; exact h9)
   have h2 : EvN (lMove i (steerP (getP S i) n) F (steerL i (getP S i) n F L)) (a + 3) b := lMove_ev i _ F (steerL_ev i _ n F hev)
   split
   ·obtain ⟨k1, k2, k3⟩ := fireS_ok (F := F) h1 hi h2
    exact ⟨k1, k2, (Hd.putP _ _ _).trans k3⟩
   ·exact ⟨h1, h2.more (by omega) (by omega), Hd.putP _ _ _⟩
theorem StOk.way {S : Nat → Int} (h : StOk S) {i j : Nat} (hi : i < 2) (hj : j = 2 ∨ j = 3) {v : Int} (hv : F32 v) : StOk (upd S (4 + i * 10 + j) v) := by
 have hp := h.m.pl i hi
 have e : upd S (4 + i * 10 + j) v = putP S i (upd (getP S i) j v) := by
  rw [← upd_putP S i (getP S i) j v (by omega), putP_get]
 rw [e]
 refine h.pput hi ?_ ?_
 ·rcases hj with rfl | rfl
  ·exact ⟨hp.ax, hp.ay, hv, hp.wy, hp.fc, hp.hp, hp.cl, hp.wd, hp.dn, hp.sc, hp.up⟩
  ·exact ⟨hp.ax, hp.ay, hp.wx, hv, hp.fc, hp.hp, hp.cl, hp.wd, hp.dn, hp.sc, hp.up⟩
 ·rw [upd_other _ _ _ _ (by omega)]; exact h.two i hi
theorem clashS_ok {S : Nat → Int} {L : List Ev} {F : Int} {a b : Nat} (h : StOk S) (hev : EvN L a b) : StOk (clashS F (S, L)).1 ∧ EvN (clashS F (S, L)).2 (a + 1) b ∧ Hd S (clashS F (S, L)).1 := by
 unfold clashS
 split
 ·have w0 := h.m.pl 0 (by decide)
  have w1 := h.m.pl 1 (by decide)
  refine ⟨?_, hev.add F _ (by show (4 : Int) ≠ 2; decide) (by show (4 : Int) ≠ 5; decide), ?_⟩
  ·have k1 : StOk (upd S 6 (S 16)) := h.way (i := 0) (j := 2) (by decide) (.inl rfl) w1.wx
   have k2 : StOk (upd (upd S 6 (S 16)) 7 (S 17)) := k1.way (i := 0) (j := 3) (by decide) (.inr rfl) w1.wy
   have k3 : StOk (upd (upd (upd S 6 (S 16)) 7 (S 17)) 16 (S 6)) := k2.way (i := 1) (j := 2) (by decide) (.inl rfl) w0.wx
   exact k3.way (i := 1) (j := 3) (by decide) (.inr rfl) w0.wy
  ·exact (((Hd.upd S 6 _ (by decide) (by decide) (by decide)).trans (Hd.upd _ 7 _ (by decide) (by decide) (by decide))).trans (Hd.upd _ 16 _ (by decide) (by decide) (by decide))).trans (Hd.upd _ 17 _ (by decide) (by decide) (by decide))
 ·exact ⟨h, hev.more (by omega) (by omega), Hd.refl _⟩
theorem hitS_ok {S : Nat → Int} {L : List Ev} {F : Int} {i a b : Nat} (h : StM S) (hi : i < 2) (hd : S (4 + i * 10 + 8) = 0) (hev : EvN L a b) : StM (hitS i F (S, L)).1 ∧ EvN (hitS i F (S, L)).2 (a + 2) (b + 1) ∧ Hd S (hitS i F (S, L)).1 := by
 have hp := h.pl i hi
 have hq := h.pl (1 - i) (by omega)
 have hup := hp.up
 have h8 : getP S i 8 = 0 := hd
 have hhp := hp.hp
 unfold hitS
 dsimp only
 split
 ·rename_i h5
  refine ⟨h.pput hi ⟨hp.ax, hp.ay, hp.wx, hp.wy, hp.fc, ?_, hp.cl, hp.wd, hp.dn, hp.sc, ?_⟩ (h.sc i hi) ?_, (hev.hit F _).more (by omega) (by omega), Hd.putP _ _ _⟩
  ·simp [upd]; omega
  ·simp [upd]; omega
  ·have := h.sc (1 - i) (by omega)
   have e : 1 - (1 - i) = i := by omega
   rw [e, hd] at this
   left; omega
 ·rename_i h5
  have h9 : S (4 + (1 - i) * 10 + 9) ≤ 2 := by
   have := h.sc (1 - i) (by omega)
   have e : 1 - (1 - i) = i := by omega
   rw [e, hd] at this
   omega
  have h90 : 0 ≤ S (4 + (1 - i) * 10 + 9) := hq.sc.1
  have k1 : StM (putP S i (upd (upd (getP S i) 5 (getP S i 5 - 1)) 8 30)) := by
   refine h.pput hi ⟨hp.ax, hp.ay, hp.wx, hp.wy, hp.fc, ?_, hp.cl, hp.wd, ?_, hp.sc, ?_⟩ (h.sc i hi) (.inl h9)
   ·simp [upd]; omega
   ·simp [upd]
   ·simp [upd]; omega
  obtain ⟨T, hT⟩ : ∃ T, putP S i (upd (upd (getP S i) 5 (getP S i 5 - 1)) 8 30) = T := ⟨_, rfl⟩
  have t8 : T (4 + i * 10 + 8) = 30 := by rw [← hT, putP_at _ _ _ 8 (by decide)]; rfl
  have t9 : T (4 + i * 10 + 9) = S (4 + i * 10 + 9) := by rw [← hT, putP_at _ _ _ 9 (by decide)]; rfl
  have tq : ∀ j, j < 10 → T (4 + (1 - i) * 10 + j) = S (4 + (1 - i) * 10 + j) := fun j hj => by rw [← hT, putP_other _ _ _ _ (by omega)]
  rw [hT] at k1 ⊢
  refine ⟨?_, hev.hits F _ _ rfl rfl, ?_⟩
  ·have e : upd T (4 + (1 - i) * 10 + 9) (S (4 + (1 - i) * 10 + 9) + 1) = putP T (1 - i) (upd (getP T (1 - i)) 9 (S (4 + (1 - i) * 10 + 9) + 1)) := by
    rw [← upd_putP T (1 - i) (getP T (1 - i)) 9 _ (by decide), putP_get]
   rw [e]
   have hq' := k1.pl (1 - i) (by omega)
   have e2 : 1 - (1 - i) = i := by omega
   refine k1.pput (by omega) ⟨hq'.ax, hq'.ay, hq'.wx, hq'.wy, hq'.fc, hq'.hp, hq'.cl, hq'.wd, hq'.dn, ?_, hq'.up⟩ ?_ ?_
   ·simp [upd]; omega
   ·right; rw [e2, t8]; decide
   ·have := h.sc i hi
    rw [e2, t9]
    rcases this with hh | hh
    ·exact .inl hh
    ·right
     show 0 < getP T (1 - i) 8
     unfold getP
     rw [tq 8 (by decide)]; exact hh
  ·rw [← hT]
   exact (Hd.putP _ _ _).trans (Hd.upd _ _ _ (by omega) (by omega) (by omega))
theorem zero_m : ShM zeroS := by
 refine ⟨?_, ?_, ?_, ?_, ?_, ?_, ?_, ?_⟩ <;> simp [zeroS, F32, shotZ]
theorem shotNext_m {x : Nat → Int} (h : ShM x) (h4 : x 4 ≠ 0) (h5 : ¬ x 5 - 1 = 0) (ha : arenaB (shotNext x 0) (shotNext x 1) = true) : ShM (shotNext x) := by
 have hl := h.lf
 have hon := h.on h4
 have e5 : shotNext x 5 = x 5 - 1 := rfl
 have e4 : shotNext x 4 = x 4 := rfl
 unfold arenaB insideB at ha
 have ha := of_decide_eq_true ha
 refine ⟨⟨ha.1, ha.2.1⟩, ⟨ha.2.2.1, ha.2.2.2⟩, h.wx, h.wy, h.ow, ?_, ?_, ?_⟩
 ·rw [e5]; omega
 ·rw [e4]; intro e; exact absurd e h4
 ·intro _; rw [e5]; omega
theorem flyS_ok {S : Nat → Int} {L : List Ev} {F : Int} {k a b : Nat} (h : StM S) (hk : k < 6) (hev : EvN L a b) : StM (flyS k F (S, L)).1 ∧ EvN (flyS k F (S, L)).2 (a + 2) (b + 1) ∧ Hd S (flyS k F (S, L)).1 := by
 have hm2 : EvN L (a + 2) (b + 1) := hev.more (by omega) (by omega)
 unfold flyS
 by_cases h4 : S (24 + k * 6 + 4) = 0
 ·rw [if_pos h4]
  exact ⟨h, hm2, Hd.refl _⟩
 ·rw [if_neg h4]
  have hx := h.sh k hk
  have hx4 : getS S k 4 ≠ 0 := h4
  by_cases h5 : getS S k 5 - 1 = 0
  ·rw [flyT_dead h5, if_neg (by simp)]
   dsimp only
   rw [putS_putS]
   exact ⟨h.sput hk zero_m, hm2, Hd.putS _ _ _⟩
  ·cases ha : arenaB (shotNext (getS S k) 0) (shotNext (getS S k) 1)
   ·rw [flyT_out h5 ha, if_neg (by simp)]
    dsimp only
    rw [putS_putS]
    exact ⟨h.sput hk zero_m, hm2, Hd.putS _ _ _⟩
   ·have hy := shotNext_m hx hx4 h5 ha
    have k1 := h.sput hk hy
    cases hh : hitB S (shotNext (getS S k)) (otherOf (getS S k 4))
    ·rw [flyT_on h5 ha hh, if_pos rfl]
     exact ⟨k1, hm2, Hd.putS _ _ _⟩
    ·rw [flyT_hit h5 ha hh, if_neg (by simp)]
     dsimp only
     have ho : otherOf (getS S k 4) < 2 := by unfold otherOf; split <;> decide
     have hd : putS S k (shotNext (getS S k)) (4 + otherOf (getS S k 4) * 10 + 8) = 0 := by
      rw [putS_other _ _ _ _ (.inl (by omega))]
      unfold hitB at hh
      rw [Bool.and_eq_true] at hh
      exact of_decide_eq_true hh.1
     obtain ⟨m1, m2, m3⟩ := hitS_ok (F := F) k1 ho hd hev
     exact ⟨m1.sput hk zero_m, m2, ((Hd.putS _ _ _).trans m3).trans (Hd.putS _ _ _)⟩
theorem flyTo_ok {S : Nat → Int} {L : List Ev} {F : Int} {a b : Nat} (h : StM S) (hev : EvN L a b) : ∀ k, k ≤ 6 → StM (flyTo F (S, L) k).1 ∧ EvN (flyTo F (S, L) k).2 (a + 2 * k) (b + k) ∧ Hd S (flyTo F (S, L) k).1
 | 0, _ => ⟨h, hev, Hd.refl _⟩
 | k + 1, hk => by
  obtain ⟨h1, h2, h3⟩ := flyTo_ok (F := F) h hev k (by omega)
  obtain ⟨T, hT⟩ : ∃ T, flyTo F (S, L) k = T := ⟨_, rfl⟩
  rw [hT] at h1 h2 h3
  obtain ⟨k1, k2, k3⟩ := flyS_ok (F := F) (S := T.1) (L := T.2) h1 (show k < 6 by omega) h2
  unfold flyTo
  rw [hT]
  exact ⟨k1, k2.more (by omega) (by omega), h3.trans k3⟩
theorem fresh_m (i : Nat) : PlM (freshP i) := by
 refine ⟨?_, ?_, ?_, ?_, ?_, ?_, ?_, ?_, ?_, ?_, ?_⟩ <;> simp [freshP, F32] <;> split <;> omega
theorem StM.clear {S : Nat → Int} (h : StM S) : StM (clearS S) := by
 have hlow : ∀ j, j < 24 → clearS S j = S j := fun j hj => by unfold clearS; rw [if_neg (by omega)]
 refine ⟨fun i hi => (h.pl i hi).congr fun j hj => hlow _ (by omega), fun i hi => by rw [hlow _ (by omega), hlow _ (by omega)]; exact h.sc i hi, fun k hk => zero_m.congr fun j hj => ?_, by rw [hlow 1 (by decide)]; exact h.dc, by rw [hlow 0 (by decide)]; exact h.fr, by rw [hlow 2 (by decide)]; exact h.rd, by rw [hlow 3 (by decide)]; exact h.lf⟩
 unfold getS clearS
 rw [if_pos (by omega)]; rfl
theorem roundS_ok {S : Nat → Int} {L : List Ev} {F : Int} {a b : Nat} (h : StM S) (h2 : S 2 < 1073741824) (hev : EvN L a b) : StOk (roundS F (S, L)).1 ∧ EvN (roundS F (S, L)).2 (a + 1) b ∧ (roundS F (S, L)).1 0 = S 0 ∧ S 2 ≤ (roundS F (S, L)).1 2 ∧ (roundS F (S, L)).1 2 ≤ S 2 + 1 := by
 have hrd := h.rd
 have hlf := h.lf
 unfold roundS
 cases ho : overB S
 ·rw [if_neg (by decide)]
  unfold overB at ho
  simp only [Bool.or_eq_false_iff, decide_eq_false_iff_not] at ho
  obtain ⟨o1, o2, o3⟩ := ho
  have k1 : StM (upd S 3 (S 3 - 1)) := h.head (j := 3) (by decide) (fun e => absurd e (by decide)) (fun e => absurd e (by decide)) (fun e => absurd e (by decide)) (fun _ => by omega)
  refine ⟨⟨k1, two_cases ?_ ?_⟩, hev.more (by omega) (by omega), rfl, Int.le_refl _, ?_⟩
  ·show S 13 ≤ 2; omega
  ·show S 23 ≤ 2; omega
  ·show S 2 ≤ S 2 + 1; omega
 ·rw [if_pos rfl]
  have k1 : StM (upd (upd S 2 (S 2 + 1)) 3 600) := (h.head (j := 2) (v := S 2 + 1) (by decide) (fun e => absurd e (by decide)) (fun e => absurd e (by decide)) (fun _ => by omega) (fun e => absurd e (by decide))).head (j := 3) (by decide) (fun e => absurd e (by decide)) (fun e => absurd e (by decide)) (fun e => absurd e (by decide)) (fun _ => by decide)
  have f9 : ∀ i, freshP i 9 = 0 := fun i => rfl
  have f8 : ∀ i, freshP i 8 = 0 := fun i => rfl
  obtain ⟨T, hT⟩ : ∃ T, upd (upd S 2 (S 2 + 1)) 3 600 = T := ⟨_, rfl⟩
  have t0 : T 0 = S 0 := by rw [← hT]; rfl
  have t2 : T 2 = S 2 + 1 := by rw [← hT]; rfl
  dsimp only
  rw [hT] at k1 ⊢
  have hq := k1.sc 1 (by decide)
  have hlow : ∀ U : Nat → Int, ∀ j, j < 24 → clearS U j = U j := fun U j hj => by unfold clearS; rw [if_neg (by omega)]
  have hU0 : ∀ j, j < 4 → putP (putP T 0 (freshP 0)) 1 (freshP 1) j = T j := fun j hj => by rw [putP_other _ _ _ _ (by omega), putP_other _ _ _ _ (by omega)]
  have h13 : putP (putP T 0 (freshP 0)) 1 (freshP 1) 13 = 0 := by rw [putP_other _ _ _ _ (by omega)]; exact putP_at T 0 _ 9 (by decide)
  have h23 : putP (putP T 0 (freshP 0)) 1 (freshP 1) 23 = 0 := putP_at _ 1 _ 9 (by decide)
  refine ⟨⟨?_, two_cases ?_ ?_⟩, (hev.add F _ ?_ ?_), ?_, ?_, ?_⟩
  ·refine StM.clear ⟨two_cases ?_ ?_, two_cases (.inl ?_) (.inl ?_), fun k hk => ?_, ?_, ?_, ?_, ?_⟩
   ·exact (fresh_m 0).congr fun j hj => (getP_putP_ne _ 1 0 (by decide) _ j hj).trans (getP_putP _ 0 _ j hj)
   ·exact (fresh_m 1).congr fun j hj => getP_putP _ 1 _ j hj
   ·show putP (putP T 0 (freshP 0)) 1 (freshP 1) 13 ≤ 2; rw [h13]; decide
   ·show putP (putP T 0 (freshP 0)) 1 (freshP 1) 23 ≤ 2; rw [h23]; decide
   ·rw [getS_putP _ 1 k (by decide), getS_putP _ 0 k (by decide)]; exact k1.sh k hk
   ·rw [hU0 1 (by decide)]; exact k1.dc
   ·rw [hU0 0 (by decide)]; exact k1.fr
   ·rw [hU0 2 (by decide)]; exact k1.rd
   ·rw [hU0 3 (by decide)]; exact k1.lf
  ·show clearS (putP (putP T 0 (freshP 0)) 1 (freshP 1)) 13 ≤ 2; rw [hlow _ 13 (by decide), h13]; decide
  ·show clearS (putP (putP T 0 (freshP 0)) 1 (freshP 1)) 23 ≤ 2; rw [hlow _ 23 (by decide), h23]; decide
  ·show (7 : Int) ≠ 2; decide
  ·show (7 : Int) ≠ 5; decide
  ·rw [hlow _ 0 (by decide), hU0 0 (by decide), t0]
  ·rw [hlow _ 2 (by decide), hU0 2 (by decide), t2]; omega
  ·rw [hlow _ 2 (by decide), hU0 2 (by decide), t2]; omega
def stg1 (n0 : Nat) (S : Nat → Int) : StL := playS 0 n0 (S 0) (S, [])
def stg2 (n0 n1 : Nat) (S : Nat → Int) : StL := playS 1 n1 (S 0) (stg1 n0 S)
def stg3 (n0 n1 : Nat) (S : Nat → Int) : StL := clashS (S 0) (stg2 n0 n1 S)
def stg4 (n0 n1 : Nat) (S : Nat → Int) (k : Nat) : StL := flyTo (S 0) (stg3 n0 n1 S) k
def stg5 (n0 n1 : Nat) (S : Nat → Int) : StL := roundS (S 0) (stg4 n0 n1 S 6)
theorem stepS_eq (n0 n1 : Nat) (S : Nat → Int) : stepS n0 n1 S = (upd (stg5 n0 n1 S).1 0 (S 0 + 1), (stg5 n0 n1 S).2) := rfl
section
variable {S : Nat → Int} (n0 n1 : Nat) (h : StOk S)
include h
theorem stg1_ok : StOk (stg1 n0 S).1 ∧ EvN (stg1 n0 S).2 4 0 ∧ Hd S (stg1 n0 S).1 := playS_ok h (by decide) EvN.nil
theorem stg2_ok : StOk (stg2 n0 n1 S).1 ∧ EvN (stg2 n0 n1 S).2 8 0 ∧ Hd S (stg2 n0 n1 S).1 := by
 obtain ⟨h1, h2, h3⟩ := stg1_ok n0 h
 obtain ⟨k1, k2, k3⟩ := playS_ok (S := (stg1 n0 S).1) (L := (stg1 n0 S).2) (i := 1) (n := n1) (F := S 0) h1 (by decide) h2
 exact ⟨k1, k2, h3.trans k3⟩
theorem stg3_ok : StOk (stg3 n0 n1 S).1 ∧ EvN (stg3 n0 n1 S).2 9 0 ∧ Hd S (stg3 n0 n1 S).1 := by
 obtain ⟨h1, h2, h3⟩ := stg2_ok n0 n1 h
 obtain ⟨k1, k2, k3⟩ := clashS_ok (S := (stg2 n0 n1 S).1) (L := (stg2 n0 n1 S).2) (F := S 0) h1 h2
 exact ⟨k1, k2, h3.trans k3⟩
theorem stg4_ok (k : Nat) (hk : k ≤ 6) : StM (stg4 n0 n1 S k).1 ∧ EvN (stg4 n0 n1 S k).2 (9 + 2 * k) (0 + k) ∧ Hd S (stg4 n0 n1 S k).1 := by
 obtain ⟨h1, h2, h3⟩ := stg3_ok n0 n1 h
 obtain ⟨k1, k2, k3⟩ := flyTo_ok (S := (stg3 n0 n1 S).1) (L := (stg3 n0 n1 S).2) (F := S 0) h1.m h2 k hk
 exact ⟨k1, k2, h3.trans k3⟩
theorem stg5_ok (h2 : S 2 < 1073741824) : StOk (stg5 n0 n1 S).1 ∧ EvN (stg5 n0 n1 S).2 22 6 ∧ (stg5 n0 n1 S).1 0 = S 0 ∧ S 2 ≤ (stg5 n0 n1 S).1 2 ∧ (stg5 n0 n1 S).1 2 ≤ S 2 + 1 := by
 obtain ⟨h1, h2', h3⟩ := stg4_ok n0 n1 h 6 (zL _)
 obtain ⟨k1, k2, k3, k4, k5⟩ := roundS_ok (S := (stg4 n0 n1 S 6).1) (L := (stg4 n0 n1 S 6).2) (F := S 0) h1 (by rw [h3.rd]; exact h2) h2'
 rw [h3.fr] at k3
 rw [h3.rd] at k4 k5
 exact ⟨k1, k2, k3, k4, k5⟩
theorem stepS_ok (h0 : S 0 < 1073741824) (h2 : S 2 < 1073741824) : StOk (stepS n0 n1 S).1 ∧ (stepS n0 n1 S).2.length ≤ 22 ∧ (stepS n0 n1 S).1 0 = S 0 + 1 ∧ S 2 ≤ (stepS n0 n1 S).1 2 ∧ (stepS n0 n1 S).1 2 ≤ S 2 + 1 := by
 have hf := h.m.fr
 obtain ⟨k1, k2, k3, k4, k5⟩ := stg5_ok n0 n1 h h2
 rw [stepS_eq]
 exact ⟨k1.head (j := 0) (by decide) (fun e => absurd e (by decide)) (fun _ => by omega) (fun e => absurd e (by decide)) (fun e => absurd e (by decide)), k2.len, by show upd (stg5 n0 n1 S).fst 0 (S 0 + 1) 0 = S 0 + 1; exact upd_same _ _ _, k4, k5⟩
end
end
section
theorem bSetB9 {base : Nat} {w w' : World} {g : Nat} (h : Below base w w') (hg : base ≤ g) (o : Nat) (u : Value) : Below base w (w'.setCell ⟨g, o, none⟩ u) := h.setCell (p := ⟨g, o, none⟩) hg u
theorem Stg.mild {w w' : World} {g gp base : Nat} {S : Nat → Int} {F : Int} {L : List Ev} (h : Stg w g gp base S F L) (k : Below w.heap.size w w') : Stg w' g gp base S F L := h.on k
section
variable {g gp base : Nat} {S : Nat → Int} {F : Int} {L : List Ev} {w : World}
theorem gclash_any (h : Stg w g gp base S F L) (hF : 0 ≤ F ∧ F ≤ 1073741824) (h12 : 0 ≤ S 12) (h22 : 0 ≤ S 22) (f4 : F32 (S 4)) (f5 : F32 (S 5)) (f14 : F32 (S 14)) (f15 : F32 (S 15)) (hL : L.length ≤ 14) :
  Calls Tryz.prog 122 #[.pointer (some ⟨g, 0, none⟩)] w fun e w' => e = .returned (.tuple #[]) ∧ Stg w' g gp base (clashS F (S, L)).1 F (clashS F (S, L)).2 ∧ Below base w w' := by
 have H := zz h
 have hlt := h.lt
 have hbg := h.bg
 have HT := zz (fun W => sTouch_any f4 f5 (show F32 262144 by unfold F32; omega) f14 f15 (show F32 262144 by unfold F32; omega) W)
 clear h f4 f5 f14 f15
 by_cases d0 : 0 < S 12
 ·have HE := zz (show clashS F (S, L) = (S, L) by unfold clashS clashB; rw [decide_eq_false (show ¬ S 12 = 0 by omega)]; rfl)
  go_enter Tryz.func122, Tryz.ntmps122
  go_wp2_with fail
  refine wp_region_mild (by kernel_rfl) (by kernel_rfl) ?_
  repeat (go_big_quiet_step ((fail)))
  refine wpQuiet_nil ?_
  intro w1 hw'
  obtain ⟨⟨wq, k1⟩, hw''⟩ := hw'
  subst hw''
  have h1 := H.out.mild k1
  have hb1 : Below base w w1 := k1.mono H.out.bw
  have c12 : w1.cell? ⟨g, 12, none⟩ = some (.int .i64 (S 12)) := h1.st.cell 12 (by decide)
  have c22 : w1.cell? ⟨g, 22, none⟩ = some (.int .i64 (S 22)) := h1.st.cell 22 (by decide)
  have c4 : w1.cell? ⟨g, 4, none⟩ = some (.int .i32 (S 4)) := h1.st.cell 4 (by decide)
  have c5 : w1.cell? ⟨g, 5, none⟩ = some (.int .i32 (S 5)) := h1.st.cell 5 (by decide)
  have c14 : w1.cell? ⟨g, 14, none⟩ = some (.int .i32 (S 14)) := h1.st.cell 14 (by decide)
  have c15 : w1.cell? ⟨g, 15, none⟩ = some (.int .i32 (S 15)) := h1.st.cell 15 (by decide)
  have hl1 := h1.lt
  have H1 := zz h1
  have HB1 := zz hb1
  clear h1 hb1 k1
  go_wp2_with fail
  refine wp_region_mild (by kernel_rfl) (by kernel_rfl) ?_
  repeat (go_big_quiet_step ((fail)))
  refine wpQuiet_nil ?_
  intro w2 hw'
  obtain ⟨⟨wq, k2⟩, hw''⟩ := hw'
  subst hw''
  go_wp2
  refine bodyPost_ret (results_none rfl _ _ _) rfl ⟨rfl, ?_, HB1.out.trans (k2.mono H1.out.bw)⟩
  rw [HE.out]
  exact H1.out.mild k2
 ·by_cases d1 : 0 < S 22
  ·have HE := zz (show clashS F (S, L) = (S, L) by unfold clashS clashB; rw [decide_eq_false (show ¬ S 22 = 0 by omega), Bool.false_and, Bool.and_false]; rfl)
   have d0' : decide (0 < S 12) = false := decide_eq_false d0
   clear d0
   go_enter Tryz.func122, Tryz.ntmps122
   go_wp2_with fail
   refine wp_region_mild (by kernel_rfl) (by kernel_rfl) ?_
   repeat (go_big_quiet_step ((fail)))
   refine wpQuiet_nil ?_
   intro w1 hw'
   obtain ⟨⟨wq, k1⟩, hw''⟩ := hw'
   subst hw''
   have h1 := H.out.mild k1
   have hb1 : Below base w w1 := k1.mono H.out.bw
   have c12 : w1.cell? ⟨g, 12, none⟩ = some (.int .i64 (S 12)) := h1.st.cell 12 (by decide)
   have c22 : w1.cell? ⟨g, 22, none⟩ = some (.int .i64 (S 22)) := h1.st.cell 22 (by decide)
   have c4 : w1.cell? ⟨g, 4, none⟩ = some (.int .i32 (S 4)) := h1.st.cell 4 (by decide)
   have c5 : w1.cell? ⟨g, 5, none⟩ = some (.int .i32 (S 5)) := h1.st.cell 5 (by decide)
   have c14 : w1.cell? ⟨g, 14, none⟩ = some (.int .i32 (S 14)) := h1.st.cell 14 (by decide)
   have c15 : w1.cell? ⟨g, 15, none⟩ = some (.int .i32 (S 15)) := h1.st.cell 15 (by decide)
   have hl1 := h1.lt
   have H1 := zz h1
   have HB1 := zz hb1
   clear h1 hb1 k1
   go_wp2_with fail
   refine wp_region_mild (by kernel_rfl) (by kernel_rfl) ?_
   repeat (go_big_quiet_step ((fail)))
   refine wpQuiet_nil ?_
   intro w2 hw'
   obtain ⟨⟨wq, k2⟩, hw''⟩ := hw'
   subst hw''
   go_wp2
   refine bodyPost_ret (results_none rfl _ _ _) rfl ⟨rfl, ?_, HB1.out.trans (k2.mono H1.out.bw)⟩
   rw [HE.out]
   exact H1.out.mild k2
  ·obtain ⟨b, hb⟩ : ∃ b, touchB (S 4) (S 5) 262144 (S 14) (S 15) 262144 = b := ⟨_, rfl⟩
   have HE := zz (show clashS F (S, L) = if b then (upd (upd (upd (upd S 6 (S 16)) 7 (S 17)) 16 (S 6)) 17 (S 7), addE F L (evT 0 4 4 16384 6 0 0)) else (S, L) by
    unfold clashS clashB
    simp only [hb, decide_eq_true (show S 12 = 0 by omega), decide_eq_true (show S 22 = 0 by omega), Bool.true_and])
   rw [hb] at HT
   have d0' : decide (0 < S 12) = false := decide_eq_false d0
   have d1' : decide (0 < S 22) = false := decide_eq_false d1
   clear hb d0 d1
   go_enter Tryz.func122, Tryz.ntmps122
   go_wp2_with fail
   refine wp_region_mild (by kernel_rfl) (by kernel_rfl) ?_
   repeat (go_big_quiet_step ((fail)))
   refine wpQuiet_nil ?_
   intro w1 hw'
   obtain ⟨⟨wq, k1⟩, hw''⟩ := hw'
   subst hw''
   have h1 := H.out.mild k1
   have hb1 : Below base w w1 := k1.mono H.out.bw
   have c12 : w1.cell? ⟨g, 12, none⟩ = some (.int .i64 (S 12)) := h1.st.cell 12 (by decide)
   have c22 : w1.cell? ⟨g, 22, none⟩ = some (.int .i64 (S 22)) := h1.st.cell 22 (by decide)
   have c4 : w1.cell? ⟨g, 4, none⟩ = some (.int .i32 (S 4)) := h1.st.cell 4 (by decide)
   have c5 : w1.cell? ⟨g, 5, none⟩ = some (.int .i32 (S 5)) := h1.st.cell 5 (by decide)
   have c14 : w1.cell? ⟨g, 14, none⟩ = some (.int .i32 (S 14)) := h1.st.cell 14 (by decide)
   have c15 : w1.cell? ⟨g, 15, none⟩ = some (.int .i32 (S 15)) := h1.st.cell 15 (by decide)
   have hl1 := h1.lt
   have H1 := zz h1
   have HB1 := zz hb1
   clear h1 hb1 k1
   go_wp2_with fail
   refine wp_region_mild (by kernel_rfl) (by kernel_rfl) ?_
   repeat (go_big_quiet_step ((go_at_call 192; exact mild_of (HT.out _))))
   refine wpQuiet_nil ?_
   intro w2 hw'
   obtain ⟨⟨wq, k2⟩, hw''⟩ := hw'
   subst hw''
   have h2 := H1.out.mild k2
   have hb2 : Below base w w2 := HB1.out.trans (k2.mono H1.out.bw)
   cases b
   ·have HE2 := zz (HE.out.trans (if_neg (by decide)))
    go_wp2
    refine bodyPost_ret (results_none rfl _ _ _) rfl ⟨rfl, ?_, hb2⟩
    rw [HE2.out]
    exact h2
   ·have HE2 := zz (HE.out.trans (if_pos rfl))
    have e6 : w2.cell? ⟨g, 6, none⟩ = some (.int .i32 (S 6)) := h2.st.cell 6 (by decide)
    have e7 : w2.cell? ⟨g, 7, none⟩ = some (.int .i32 (S 7)) := h2.st.cell 7 (by decide)
    have e16 : w2.cell? ⟨g, 16, none⟩ = some (.int .i32 (S 16)) := h2.st.cell 16 (by decide)
    have e17 : w2.cell? ⟨g, 17, none⟩ = some (.int .i32 (S 17)) := h2.st.cell 17 (by decide)
    have y6 := h2.st.frozen 6
    have y7 := h2.st.frozen 7
    have y16 := h2.st.frozen 16
    have y17 := h2.st.frozen 17
    have H3 := zz ((((h2.set 6 (by decide) (k := .i32) rfl (S 16)).set 7 (by decide) (k := .i32) rfl (S 17)).set 16 (by decide) (k := .i32) rfl (S 6)).set 17 (by decide) (k := .i32) rfl (S 7)).drew
    have HB3 := zz (bSetB9 (bSetB9 (bSetB9 (bSetB9 hb2 hbg 6 (.int .i32 (S 16))) hbg 7 (.int .i32 (S 17))) hbg 16 (.int .i32 (S 6))) hbg 17 (.int .i32 (S 7))).drew
    clear h2 hb2 c12 c22 c4 c5 c14 c15 k2
    go_wp2_with fail
    go_big_region
    all_goals
     obtain ⟨w3, hw3⟩ : ∃ w3, ((((w2.setCell ⟨g, 6, none⟩ (.int .i32 (S 16))).setCell ⟨g, 7, none⟩ (.int .i32 (S 17))).setCell ⟨g, 16, none⟩ (.int .i32 (S 6))).setCell ⟨g, 17, none⟩ (.int .i32 (S 7))).drew = w3 := ⟨_, rfl⟩
     rw [hw3] at H3 HB3 ⊢
     clear hw3
     have hl3 := H3.out.lt
     go_wp2_with fail
     refine (gtell_any 0 4 4 16384 6 0 0 H3.out (by unfold F32; omega) (evT_ok F _ _ _ _ _ _ _ hF (by decide) (by decide) (by decide) (by decide) (by decide) (by decide) 0 (by decide)) (by omega) (Nat.le_trans (cntE_le _ _ _) (by omega))).mono ?_
     rintro e w4 ⟨rfl, h4, k4⟩
     have H4 := zz h4
     have HB4 := zz (HB3.out.trans k4)
     clear h4 k4
     go_wp2
     go_end0
     rw [HE2.out]
     exact ⟨rfl, H4.out, HB4.out⟩
end
end
section
def freshBoth : List Value := [.int .i32 (-2097152), .int .i32 0, .int .i32 0, .int .i32 0, .int .i64 0, .int .i64 3, .int .i64 0, .int .i64 0, .int .i64 0, .int .i64 0, .int .i32 2097152, .int .i32 0, .int .i32 0, .int .i32 0, .int .i64 32768, .int .i64 3, .int .i64 0, .int .i64 0, .int .i64 0, .int .i64 0]
theorem int_one (S : Nat → Int) : ∀ v ∈ stCells S, v.oneCell' = true := fun v hv => by
 unfold stCells rowOf at hv
 obtain ⟨j, -, rfl⟩ := List.mem_map.1 hv
 rfl
def beginS (seed : Int) : Nat → Int := upd (putP (putP (upd (fun _ => 0) 3 600) 0 (freshP 0)) 1 (freshP 1)) 1 seed
theorem built_both : Tryz.prog.built 36 [(0, .agg #[.int .i32 (-2097152), .int .i32 0, .int .i32 0, .int .i32 0, .int .i64 0, .int .i64 3, .int .i64 0, .int .i64 0, .int .i64 0, .int .i64 0]), (1, .agg #[.int .i32 2097152, .int .i32 0, .int .i32 0, .int .i32 0, .int .i64 32768, .int .i64 3, .int .i64 0, .int .i64 0, .int .i64 0, .int .i64 0])] = some freshBoth.toArray := by kernel_rfl
theorem built_begin (seed : Int) : Tryz.prog.built 41 [(1, .int .u32 seed), (3, .int .i64 600), (4, .agg freshBoth.toArray)] = some (stCells (beginS seed)).toArray := by kernel_rfl
end
end Go.Proofs.YtibeihcpehikoaaGreat
