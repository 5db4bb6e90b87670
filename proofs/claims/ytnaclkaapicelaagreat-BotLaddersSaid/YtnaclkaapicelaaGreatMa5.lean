/-
  The walks beneath: GameU, GameC, GameD, GameE, GameF, R12p, R12s.
-/
import Derived.Deep.DeepCutAuto
import Derived.Test.YtnaclkaapicelaaGreatMGameB
import Derived.Test.YtnaclkaapicelaaGreatMa2
import Derived.Test.YtnaclkaapicelaaGreatMGameA
import Derived.Test.YtnaclkaapicelaaGreatGuard
import Derived.Test.YtnaclkaapicelaaGreatMa3
import Derived.Test.YtnaclkaapicelaaGreatBot5
namespace Go.Proofs.YtnaclkaapicelaaGreat
open Go.RowKit

/-- The numbers that no part of a step turns but its end. -/
structure Hd (S T : Nat → Int) : Prop where
  fr : T 0 = S 0
  rd : T 2 = S 2
  lf : T 3 = S 3
theorem Hd.refl (S : Nat → Int) : Hd S S := ⟨rfl, rfl, rfl⟩
theorem Hd.trans {S T U : Nat → Int} (h : Hd S T) (k : Hd T U) : Hd S U := ⟨k.fr.trans h.fr, k.rd.trans h.rd, k.lf.trans h.lf⟩
theorem Hd.putP (S : Nat → Int) (i : Nat) (p : Nat → Int) : Hd S (putP S i p) := ⟨putP_other _ _ _ _ (by omega), putP_other _ _ _ _ (by omega), putP_other _ _ _ _ (by omega)⟩
theorem Hd.putS (S : Nat → Int) (k : Nat) (x : Nat → Int) : Hd S (putS S k x) := ⟨putS_other _ _ _ _ (by omega), putS_other _ _ _ _ (by omega), putS_other _ _ _ _ (by omega)⟩
theorem Hd.upd (S : Nat → Int) (j : Nat) (v : Int) (h0 : j ≠ 0) (h2 : j ≠ 2) (h3 : j ≠ 3) : Hd S (upd S j v) := ⟨upd_other _ _ _ _ (fun e => h0 e.symm), upd_other _ _ _ _ (fun e => h2 e.symm), upd_other _ _ _ _ (fun e => h3 e.symm)⟩
theorem wallP_in {p v lo hi : Int} (h : lo ≤ hi) : lo ≤ wallP p v lo hi ∧ wallP p v lo hi ≤ hi := by
  unfold wallP
  split
  · omega
  · split <;> omega
theorem steerP_keep (p : Nat → Int) (n j : Nat) (h : j = 5 ∨ j = 8 ∨ j = 9) : steerP p n j = p j := by
  unfold steerP pSlow
  rw [upd_other _ _ _ _ (by omega), upd_other _ _ _ _ (by omega)]
  unfold pDash
  have hpush : ∀ (q : Nat → Int) (l : Int), pPush q l j = q j := fun q l => by
    unfold pPush
    rw [upd_other _ _ _ _ (by omega), upd_other _ _ _ _ (by omega)]
  have hth : pThrust (pBrake (pFace (pCool p) n) n) n j = p j := by
    have hb : pBrake (pFace (pCool p) n) n j = p j := by
      have hf : pFace (pCool p) n j = p j := by
        rw [pFace_eq, upd_other _ _ _ _ (by omega)]
        unfold pCool
        rw [upd_other _ _ _ _ (by omega), upd_other _ _ _ _ (by omega)]
      unfold pBrake
      split
      · rw [upd_other _ _ _ _ (by omega), upd_other _ _ _ _ (by omega), hf]
      · exact hf
    unfold pThrust
    split
    · rw [hpush, hb]
    · exact hb
  split
  · rw [upd_other _ _ _ _ (by omega), hpush, hth]
  · exact hth
theorem pMove_keep (p : Nat → Int) (j : Nat) (h : 4 ≤ j) : pMove p j = p j := by
  unfold pMove
  rw [upd_other _ _ _ _ (by omega), upd_other _ _ _ _ (by omega), upd_other _ _ _ _ (by omega), upd_other _ _ _ _ (by omega)]
theorem PlM.moved {p : Nat → Int} (h : PlM p) (h9 : p 9 ≤ 2) (n : Nat) : PlM (pMove (steerP p n)) := by
  have hb := (steerP_b (h.b h9) n).move
  have k5 : pMove (steerP p n) 5 = p 5 := (pMove_keep _ 5 (by decide)).trans (steerP_keep p n 5 (by omega))
  have k8 : pMove (steerP p n) 8 = p 8 := (pMove_keep _ 8 (by decide)).trans (steerP_keep p n 8 (by omega))
  have k9 : pMove (steerP p n) 9 = p 9 := (pMove_keep _ 9 (by decide)).trans (steerP_keep p n 9 (by omega))
  refine ⟨?_, ?_, hb.wx, hb.wy, hb.fc, hb.hp, hb.cl, hb.wd, hb.dn, ?_, ?_⟩
  · rw [pMove_zero]; exact wallP_in (by decide)
  · have : pMove (steerP p n) 1 = wallP (steerP p n 1) (steerP p n 3) (-3932160) 3932160 := by simp [pMove, upd]
    rw [this]; exact wallP_in (by decide)
  · rw [k9]; exact h.sc
  · rw [k5, k8]; exact h.up
theorem hd_in (a : Int) : -262144 ≤ hdX a 262144 ∧ hdX a 262144 ≤ 262144 ∧ -262144 ≤ hdY a 262144 ∧ hdY a 262144 ≤ 262144 := by
  have h1 := sinZ_bd (a + 16384)
  have h2 := sinZ_bd a
  unfold hdX hdY fmul sat
  omega
theorem ShM.fired {p : Nat → Int} (h : PlM p) {i : Nat} (hi : i < 2) : ShM (shotOf p i) := by
  have hx := h.ax
  have hy := h.ay
  have hd := hd_in (p 4)
  have e0 : shotOf p i 0 = padd (p 0) (hdX (p 4) 262144) := rfl
  have e1 : shotOf p i 1 = padd (p 1) (hdY (p 4) 262144) := rfl
  have e2 : shotOf p i 2 = hdX (p 4) 196608 := rfl
  have e3 : shotOf p i 3 = hdY (p 4) 196608 := rfl
  have e4 : shotOf p i 4 = (i : Int) + 1 := rfl
  have e5 : shotOf p i 5 = 40 := rfl
  refine ⟨?_, ?_, ?_, ?_, ?_, ?_, ?_, ?_⟩
  · rw [e0]; unfold padd sat; omega
  · rw [e1]; unfold padd sat; omega
  · rw [e2]; exact hdX_bd _ _
  · rw [e3]; exact hdY_bd _ _
  · rw [e4]; omega
  · rw [e5]; omega
  · rw [e4]; intro h; omega
  · intro _; rw [e5]; omega
theorem fireS_ok {S : Nat → Int} {L : List Ev} {i : Nat} {F : Int} {a b : Nat} (h : StOk S) (hi : i < 2) (hev : EvN L a b) : StOk (fireS i F (S, L)).1 ∧ EvN (fireS i F (S, L)).2 (a + 1) b ∧ Hd S (fireS i F (S, L)).1 := by
  unfold fireS
  dsimp only
  split
  · exact ⟨h, hev.more (by omega) (by omega), Hd.refl _⟩
  · split
    · rename_i h6 hk
      have hp := h.m.pl i hi
      refine ⟨(h.sput hk (ShM.fired hp hi)).pput hi ?_ ?_, hev.add F _ (by show (1 : Int) ≠ 2; decide) (by show (1 : Int) ≠ 5; decide), (Hd.putS _ _ _).trans (Hd.putP _ _ _)⟩
      · exact ⟨hp.ax, hp.ay, hp.wx, hp.wy, hp.fc, hp.hp, by simp [upd], hp.wd, hp.dn, hp.sc, hp.up⟩
      · exact h.two i hi
    · exact ⟨h, hev.more (by omega) (by omega), Hd.refl _⟩
theorem steerL_ev {L : List Ev} {a b : Nat} (i : Nat) (p : Nat → Int) (n : Nat) (F : Int) (h : EvN L a b) : EvN (steerL i p n F L) (a + 2) b := by
  unfold steerL
  have h1 : ∀ q, EvN (lThrust i q n F L) (a + 1) b := fun q => by
    unfold lThrust
    split
    · exact h.add F _ (by show (8 : Int) ≠ 2; decide) (by show (8 : Int) ≠ 5; decide)
    · exact h.more (by omega) (by omega)
  unfold lDash
  split
  · exact (h1 _).add F _ (by show (9 : Int) ≠ 2; decide) (by show (9 : Int) ≠ 5; decide)
  · exact (h1 _).more (by omega) (by omega)
theorem lMove_ev {L : List Ev} {a b : Nat} (i : Nat) (p : Nat → Int) (F : Int) (h : EvN L a b) : EvN (lMove i p F L) (a + 1) b := by
  unfold lMove
  split
  · exact h.more (by omega) (by omega)
  · exact h.add F _ (by show (3 : Int) ≠ 2; decide) (by show (3 : Int) ≠ 5; decide)
theorem pBack_m {p : Nat → Int} (h : PlM p) (k : Int) : PlM (pBack p k) := by
  have h9 := h.sc
  have hc : -3932160 ≤ cornX k ∧ cornX k ≤ 3932160 := by unfold cornX; split <;> omega
  have hd : -3932160 ≤ cornY k ∧ cornY k ≤ 3932160 := by unfold cornY; split <;> omega
  refine ⟨?_, ?_, ?_, ?_, ?_, ?_, ?_, ?_, ?_, ?_, ?_⟩ <;> simp [pBack, upd, F32] <;> assumption
theorem playS_ok {S : Nat → Int} {L : List Ev} {i n : Nat} {F : Int} {a b : Nat} (h : StOk S) (hi : i < 2) (hev : EvN L a b) : StOk (playS i n F (S, L)).1 ∧ EvN (playS i n F (S, L)).2 (a + 4) b ∧ Hd S (playS i n F (S, L)).1 := by
  have hp := h.m.pl i hi
  have h9 : getP S i 9 ≤ 2 := h.two i hi
  unfold playS
  dsimp only
  split
  · rename_i h8
    have hdn := hp.dn
    refine ⟨h.pput hi ⟨hp.ax, hp.ay, hp.wx, hp.wy, hp.fc, hp.hp, hp.cl, hp.wd, ?_, hp.sc, ?_⟩ h9, hev.more (by omega) (by omega), Hd.putP _ _ _⟩
    · simp [upd]; omega
    · have hup := hp.up
      simp [upd]; omega
  · split
    · refine ⟨(h.head (j := 1) (by decide) (fun _ => nextZ_bd _) (fun e => absurd e (by decide)) (fun e => absurd e (by decide)) (fun e => absurd e (by decide))).pput hi (pBack_m hp _) ?_, (hev.add F _ ?_ ?_).more (by omega) (by omega), (Hd.upd S 1 _ (by decide) (by decide) (by decide)).trans (Hd.putP _ _ _)⟩
      · exact h9
      · show (6 : Int) ≠ 2; decide
      · show (6 : Int) ≠ 5; decide
    · have h1 : StOk (putP S i (pMove (steerP (getP S i) n))) := h.pput hi (hp.moved h9 n) (by rw [pMove_keep _ 9 (by decide), steerP_keep _ _ 9 (by omega)]; exact h9)
      have h2 : EvN (lMove i (steerP (getP S i) n) F (steerL i (getP S i) n F L)) (a + 3) b := lMove_ev i _ F (steerL_ev i _ n F hev)
      split
      · obtain ⟨k1, k2, k3⟩ := fireS_ok (F := F) h1 hi h2
        exact ⟨k1, k2, (Hd.putP _ _ _).trans k3⟩
      · exact ⟨h1, h2.more (by omega) (by omega), Hd.putP _ _ _⟩
theorem StOk.way {S : Nat → Int} (h : StOk S) {i j : Nat} (hi : i < 2) (hj : j = 2 ∨ j = 3) {v : Int} (hv : F32 v) : StOk (upd S (4 + i * 10 + j) v) := by
  have hp := h.m.pl i hi
  have e : upd S (4 + i * 10 + j) v = putP S i (upd (getP S i) j v) := by
    rw [← upd_putP S i (getP S i) j v (by omega), putP_get]
  rw [e]
  refine h.pput hi ?_ ?_
  · rcases hj with rfl | rfl
    · exact ⟨hp.ax, hp.ay, hv, hp.wy, hp.fc, hp.hp, hp.cl, hp.wd, hp.dn, hp.sc, hp.up⟩
    · exact ⟨hp.ax, hp.ay, hp.wx, hv, hp.fc, hp.hp, hp.cl, hp.wd, hp.dn, hp.sc, hp.up⟩
  · rw [upd_other _ _ _ _ (by omega)]; exact h.two i hi
theorem clashS_ok {S : Nat → Int} {L : List Ev} {F : Int} {a b : Nat} (h : StOk S) (hev : EvN L a b) : StOk (clashS F (S, L)).1 ∧ EvN (clashS F (S, L)).2 (a + 1) b ∧ Hd S (clashS F (S, L)).1 := by
  unfold clashS
  split
  · have w0 := h.m.pl 0 (by decide)
    have w1 := h.m.pl 1 (by decide)
    refine ⟨?_, hev.add F _ (by show (4 : Int) ≠ 2; decide) (by show (4 : Int) ≠ 5; decide), ?_⟩
    · have k1 : StOk (upd S 6 (S 16)) := h.way (i := 0) (j := 2) (by decide) (.inl rfl) w1.wx
      have k2 : StOk (upd (upd S 6 (S 16)) 7 (S 17)) := k1.way (i := 0) (j := 3) (by decide) (.inr rfl) w1.wy
      have k3 : StOk (upd (upd (upd S 6 (S 16)) 7 (S 17)) 16 (S 6)) := k2.way (i := 1) (j := 2) (by decide) (.inl rfl) w0.wx
      exact k3.way (i := 1) (j := 3) (by decide) (.inr rfl) w0.wy
    · exact (((Hd.upd S 6 _ (by decide) (by decide) (by decide)).trans (Hd.upd _ 7 _ (by decide) (by decide) (by decide))).trans (Hd.upd _ 16 _ (by decide) (by decide) (by decide))).trans (Hd.upd _ 17 _ (by decide) (by decide) (by decide))
  · exact ⟨h, hev.more (by omega) (by omega), Hd.refl _⟩
theorem hitS_ok {S : Nat → Int} {L : List Ev} {F : Int} {i a b : Nat} (h : StM S) (hi : i < 2) (hd : S (4 + i * 10 + 8) = 0) (hev : EvN L a b) : StM (hitS i F (S, L)).1 ∧ EvN (hitS i F (S, L)).2 (a + 2) (b + 1) ∧ Hd S (hitS i F (S, L)).1 := by
  have hp := h.pl i hi
  have hq := h.pl (1 - i) (by omega)
  have hup := hp.up
  have h8 : getP S i 8 = 0 := hd
  have hhp := hp.hp
  unfold hitS
  dsimp only
  split
  · rename_i h5
    refine ⟨h.pput hi ⟨hp.ax, hp.ay, hp.wx, hp.wy, hp.fc, ?_, hp.cl, hp.wd, hp.dn, hp.sc, ?_⟩ (h.sc i hi) ?_, (hev.hit F _).more (by omega) (by omega), Hd.putP _ _ _⟩
    · simp [upd]; omega
    · simp [upd]; omega
    · have := h.sc (1 - i) (by omega)
      have e : 1 - (1 - i) = i := by omega
      rw [e, hd] at this
      left; omega
  · rename_i h5
    have h9 : S (4 + (1 - i) * 10 + 9) ≤ 2 := by
      have := h.sc (1 - i) (by omega)
      have e : 1 - (1 - i) = i := by omega
      rw [e, hd] at this
      omega
    have h90 : 0 ≤ S (4 + (1 - i) * 10 + 9) := hq.sc.1
    have k1 : StM (putP S i (upd (upd (getP S i) 5 (getP S i 5 - 1)) 8 30)) := by
      refine h.pput hi ⟨hp.ax, hp.ay, hp.wx, hp.wy, hp.fc, ?_, hp.cl, hp.wd, ?_, hp.sc, ?_⟩ (h.sc i hi) (.inl h9)
      · simp [upd]; omega
      · simp [upd]
      · simp [upd]; omega
    obtain ⟨T, hT⟩ : ∃ T, putP S i (upd (upd (getP S i) 5 (getP S i 5 - 1)) 8 30) = T := ⟨_, rfl⟩
    have t8 : T (4 + i * 10 + 8) = 30 := by rw [← hT, putP_at _ _ _ 8 (by decide)]; rfl
    have t9 : T (4 + i * 10 + 9) = S (4 + i * 10 + 9) := by rw [← hT, putP_at _ _ _ 9 (by decide)]; rfl
    have tq : ∀ j, j < 10 → T (4 + (1 - i) * 10 + j) = S (4 + (1 - i) * 10 + j) := fun j hj => by rw [← hT, putP_other _ _ _ _ (by omega)]
    rw [hT] at k1 ⊢
    refine ⟨?_, hev.hits F _ _ rfl rfl, ?_⟩
    · have e : upd T (4 + (1 - i) * 10 + 9) (S (4 + (1 - i) * 10 + 9) + 1) = putP T (1 - i) (upd (getP T (1 - i)) 9 (S (4 + (1 - i) * 10 + 9) + 1)) := by
        rw [← upd_putP T (1 - i) (getP T (1 - i)) 9 _ (by decide), putP_get]
      rw [e]
      have hq' := k1.pl (1 - i) (by omega)
      have e2 : 1 - (1 - i) = i := by omega
      refine k1.pput (by omega) ⟨hq'.ax, hq'.ay, hq'.wx, hq'.wy, hq'.fc, hq'.hp, hq'.cl, hq'.wd, hq'.dn, ?_, hq'.up⟩ ?_ ?_
      · simp [upd]; omega
      · right; rw [e2, t8]; decide
      · have := h.sc i hi
        rw [e2, t9]
        rcases this with hh | hh
        · exact .inl hh
        · right
          show 0 < getP T (1 - i) 8
          unfold getP
          rw [tq 8 (by decide)]; exact hh
    · rw [← hT]
      exact (Hd.putP _ _ _).trans (Hd.upd _ _ _ (by omega) (by omega) (by omega))
theorem zero_m : ShM zeroS := by
  refine ⟨?_, ?_, ?_, ?_, ?_, ?_, ?_, ?_⟩ <;> simp [zeroS, F32, shotZ]
theorem shotNext_m {x : Nat → Int} (h : ShM x) (h4 : x 4 ≠ 0) (h5 : ¬ x 5 - 1 = 0) (ha : arenaB (shotNext x 0) (shotNext x 1) = true) : ShM (shotNext x) := by
  have hl := h.lf
  have hon := h.on h4
  have e5 : shotNext x 5 = x 5 - 1 := rfl
  have e4 : shotNext x 4 = x 4 := rfl
  unfold arenaB insideB at ha
  have ha := of_decide_eq_true ha
  refine ⟨⟨ha.1, ha.2.1⟩, ⟨ha.2.2.1, ha.2.2.2⟩, h.wx, h.wy, h.ow, ?_, ?_, ?_⟩
  · rw [e5]; omega
  · rw [e4]; intro e; exact absurd e h4
  · intro _; rw [e5]; omega
theorem flyS_ok {S : Nat → Int} {L : List Ev} {F : Int} {k a b : Nat} (h : StM S) (hk : k < 6) (hev : EvN L a b) : StM (flyS k F (S, L)).1 ∧ EvN (flyS k F (S, L)).2 (a + 2) (b + 1) ∧ Hd S (flyS k F (S, L)).1 := by
  have hm2 : EvN L (a + 2) (b + 1) := hev.more (by omega) (by omega)
  unfold flyS
  by_cases h4 : S (24 + k * 6 + 4) = 0
  · rw [if_pos h4]
    exact ⟨h, hm2, Hd.refl _⟩
  · rw [if_neg h4]
    have hx := h.sh k hk
    have hx4 : getS S k 4 ≠ 0 := h4
    by_cases h5 : getS S k 5 - 1 = 0
    · rw [flyT_dead h5, if_neg (by simp)]
      dsimp only
      rw [putS_putS]
      exact ⟨h.sput hk zero_m, hm2, Hd.putS _ _ _⟩
    · cases ha : arenaB (shotNext (getS S k) 0) (shotNext (getS S k) 1)
      · rw [flyT_out h5 ha, if_neg (by simp)]
        dsimp only
        rw [putS_putS]
        exact ⟨h.sput hk zero_m, hm2, Hd.putS _ _ _⟩
      · have hy := shotNext_m hx hx4 h5 ha
        have k1 := h.sput hk hy
        cases hh : hitB S (shotNext (getS S k)) (otherOf (getS S k 4))
        · rw [flyT_on h5 ha hh, if_pos rfl]
          exact ⟨k1, hm2, Hd.putS _ _ _⟩
        · rw [flyT_hit h5 ha hh, if_neg (by simp)]
          dsimp only
          have ho : otherOf (getS S k 4) < 2 := by unfold otherOf; split <;> decide
          have hd : putS S k (shotNext (getS S k)) (4 + otherOf (getS S k 4) * 10 + 8) = 0 := by
            rw [putS_other _ _ _ _ (.inl (by omega))]
            unfold hitB at hh
            rw [Bool.and_eq_true] at hh
            exact of_decide_eq_true hh.1
          obtain ⟨m1, m2, m3⟩ := hitS_ok (F := F) k1 ho hd hev
          exact ⟨m1.sput hk zero_m, m2, ((Hd.putS _ _ _).trans m3).trans (Hd.putS _ _ _)⟩
theorem flyTo_ok {S : Nat → Int} {L : List Ev} {F : Int} {a b : Nat} (h : StM S) (hev : EvN L a b) : ∀ k, k ≤ 6 → StM (flyTo F (S, L) k).1 ∧ EvN (flyTo F (S, L) k).2 (a + 2 * k) (b + k) ∧ Hd S (flyTo F (S, L) k).1
  | 0, _ => ⟨h, hev, Hd.refl _⟩
  | k + 1, hk => by
    obtain ⟨h1, h2, h3⟩ := flyTo_ok (F := F) h hev k (by omega)
    obtain ⟨T, hT⟩ : ∃ T, flyTo F (S, L) k = T := ⟨_, rfl⟩
    rw [hT] at h1 h2 h3
    obtain ⟨k1, k2, k3⟩ := flyS_ok (F := F) (S := T.1) (L := T.2) h1 (show k < 6 by omega) h2
    unfold flyTo
    rw [hT]
    exact ⟨k1, k2.more (by omega) (by omega), h3.trans k3⟩
theorem fresh_m (i : Nat) : PlM (freshP i) := by
  refine ⟨?_, ?_, ?_, ?_, ?_, ?_, ?_, ?_, ?_, ?_, ?_⟩ <;> simp [freshP, F32] <;> split <;> omega
theorem StM.clear {S : Nat → Int} (h : StM S) : StM (clearS S) := by
  have hlow : ∀ j, j < 24 → clearS S j = S j := fun j hj => by unfold clearS; rw [if_neg (by omega)]
  refine ⟨fun i hi => (h.pl i hi).congr fun j hj => hlow _ (by omega), fun i hi => by rw [hlow _ (by omega), hlow _ (by omega)]; exact h.sc i hi, fun k hk => zero_m.congr fun j hj => ?_, by rw [hlow 1 (by decide)]; exact h.dc, by rw [hlow 0 (by decide)]; exact h.fr, by rw [hlow 2 (by decide)]; exact h.rd, by rw [hlow 3 (by decide)]; exact h.lf⟩
  unfold getS clearS
  rw [if_pos (by omega)]; rfl
theorem roundS_ok {S : Nat → Int} {L : List Ev} {F : Int} {a b : Nat} (h : StM S) (h2 : S 2 < 1073741824) (hev : EvN L a b) : StOk (roundS F (S, L)).1 ∧ EvN (roundS F (S, L)).2 (a + 1) b ∧ (roundS F (S, L)).1 0 = S 0 ∧ S 2 ≤ (roundS F (S, L)).1 2 ∧ (roundS F (S, L)).1 2 ≤ S 2 + 1 := by
  have hrd := h.rd
  have hlf := h.lf
  unfold roundS
  cases ho : overB S
  · rw [if_neg (by decide)]
    unfold overB at ho
    simp only [Bool.or_eq_false_iff, decide_eq_false_iff_not] at ho
    obtain ⟨o1, o2, o3⟩ := ho
    have k1 : StM (upd S 3 (S 3 - 1)) := h.head (j := 3) (by decide) (fun e => absurd e (by decide)) (fun e => absurd e (by decide)) (fun e => absurd e (by decide)) (fun _ => by omega)
    refine ⟨⟨k1, two_cases ?_ ?_⟩, hev.more (by omega) (by omega), rfl, Int.le_refl _, ?_⟩
    · show S 13 ≤ 2; omega
    · show S 23 ≤ 2; omega
    · show S 2 ≤ S 2 + 1; omega
  · rw [if_pos rfl]
    have k1 : StM (upd (upd S 2 (S 2 + 1)) 3 600) := (h.head (j := 2) (v := S 2 + 1) (by decide) (fun e => absurd e (by decide)) (fun e => absurd e (by decide)) (fun _ => by omega) (fun e => absurd e (by decide))).head (j := 3) (by decide) (fun e => absurd e (by decide)) (fun e => absurd e (by decide)) (fun e => absurd e (by decide)) (fun _ => by decide)
    have f9 : ∀ i, freshP i 9 = 0 := fun i => rfl
    have f8 : ∀ i, freshP i 8 = 0 := fun i => rfl
    obtain ⟨T, hT⟩ : ∃ T, upd (upd S 2 (S 2 + 1)) 3 600 = T := ⟨_, rfl⟩
    have t0 : T 0 = S 0 := by rw [← hT]; rfl
    have t2 : T 2 = S 2 + 1 := by rw [← hT]; rfl
    dsimp only
    rw [hT] at k1 ⊢
    have hq := k1.sc 1 (by decide)
    have hlow : ∀ U : Nat → Int, ∀ j, j < 24 → clearS U j = U j := fun U j hj => by unfold clearS; rw [if_neg (by omega)]
    have hU0 : ∀ j, j < 4 → putP (putP T 0 (freshP 0)) 1 (freshP 1) j = T j := fun j hj => by rw [putP_other _ _ _ _ (by omega), putP_other _ _ _ _ (by omega)]
    have h13 : putP (putP T 0 (freshP 0)) 1 (freshP 1) 13 = 0 := by rw [putP_other _ _ _ _ (by omega)]; exact putP_at T 0 _ 9 (by decide)
    have h23 : putP (putP T 0 (freshP 0)) 1 (freshP 1) 23 = 0 := putP_at _ 1 _ 9 (by decide)
    refine ⟨⟨?_, two_cases ?_ ?_⟩, (hev.add F _ ?_ ?_), ?_, ?_, ?_⟩
    · refine StM.clear ⟨two_cases ?_ ?_, two_cases (.inl ?_) (.inl ?_), fun k hk => ?_, ?_, ?_, ?_, ?_⟩
      · exact (fresh_m 0).congr fun j hj => (getP_putP_ne _ 1 0 (by decide) _ j hj).trans (getP_putP _ 0 _ j hj)
      · exact (fresh_m 1).congr fun j hj => getP_putP _ 1 _ j hj
      · show putP (putP T 0 (freshP 0)) 1 (freshP 1) 13 ≤ 2; rw [h13]; decide
      · show putP (putP T 0 (freshP 0)) 1 (freshP 1) 23 ≤ 2; rw [h23]; decide
      · rw [getS_putP _ 1 k (by decide), getS_putP _ 0 k (by decide)]; exact k1.sh k hk
      · rw [hU0 1 (by decide)]; exact k1.dc
      · rw [hU0 0 (by decide)]; exact k1.fr
      · rw [hU0 2 (by decide)]; exact k1.rd
      · rw [hU0 3 (by decide)]; exact k1.lf
    · show clearS (putP (putP T 0 (freshP 0)) 1 (freshP 1)) 13 ≤ 2; rw [hlow _ 13 (by decide), h13]; decide
    · show clearS (putP (putP T 0 (freshP 0)) 1 (freshP 1)) 23 ≤ 2; rw [hlow _ 23 (by decide), h23]; decide
    · show (7 : Int) ≠ 2; decide
    · show (7 : Int) ≠ 5; decide
    · rw [hlow _ 0 (by decide), hU0 0 (by decide), t0]
    · rw [hlow _ 2 (by decide), hU0 2 (by decide), t2]; omega
    · rw [hlow _ 2 (by decide), hU0 2 (by decide), t2]; omega
/-- The stages of a step, each behind the other. -/
def stg1 (n0 : Nat) (S : Nat → Int) : StL := playS 0 n0 (S 0) (S, [])
def stg2 (n0 n1 : Nat) (S : Nat → Int) : StL := playS 1 n1 (S 0) (stg1 n0 S)
def stg3 (n0 n1 : Nat) (S : Nat → Int) : StL := clashS (S 0) (stg2 n0 n1 S)
def stg4 (n0 n1 : Nat) (S : Nat → Int) (k : Nat) : StL := flyTo (S 0) (stg3 n0 n1 S) k
def stg5 (n0 n1 : Nat) (S : Nat → Int) : StL := roundS (S 0) (stg4 n0 n1 S 6)
theorem stepS_eq (n0 n1 : Nat) (S : Nat → Int) : stepS n0 n1 S = (upd (stg5 n0 n1 S).1 0 (S 0 + 1), (stg5 n0 n1 S).2) := rfl
section
variable {S : Nat → Int} (n0 n1 : Nat) (h : StOk S)
include h
theorem stg1_ok : StOk (stg1 n0 S).1 ∧ EvN (stg1 n0 S).2 4 0 ∧ Hd S (stg1 n0 S).1 := playS_ok h (by decide) EvN.nil
theorem stg2_ok : StOk (stg2 n0 n1 S).1 ∧ EvN (stg2 n0 n1 S).2 8 0 ∧ Hd S (stg2 n0 n1 S).1 := by
  obtain ⟨h1, h2, h3⟩ := stg1_ok n0 h
  obtain ⟨k1, k2, k3⟩ := playS_ok (S := (stg1 n0 S).1) (L := (stg1 n0 S).2) (i := 1) (n := n1) (F := S 0) h1 (by decide) h2
  exact ⟨k1, k2, h3.trans k3⟩
theorem stg3_ok : StOk (stg3 n0 n1 S).1 ∧ EvN (stg3 n0 n1 S).2 9 0 ∧ Hd S (stg3 n0 n1 S).1 := by
  obtain ⟨h1, h2, h3⟩ := stg2_ok n0 n1 h
  obtain ⟨k1, k2, k3⟩ := clashS_ok (S := (stg2 n0 n1 S).1) (L := (stg2 n0 n1 S).2) (F := S 0) h1 h2
  exact ⟨k1, k2, h3.trans k3⟩
theorem stg4_ok (k : Nat) (hk : k ≤ 6) : StM (stg4 n0 n1 S k).1 ∧ EvN (stg4 n0 n1 S k).2 (9 + 2 * k) (0 + k) ∧ Hd S (stg4 n0 n1 S k).1 := by
  obtain ⟨h1, h2, h3⟩ := stg3_ok n0 n1 h
  obtain ⟨k1, k2, k3⟩ := flyTo_ok (S := (stg3 n0 n1 S).1) (L := (stg3 n0 n1 S).2) (F := S 0) h1.m h2 k hk
  exact ⟨k1, k2, h3.trans k3⟩
theorem stg5_ok (h2 : S 2 < 1073741824) : StOk (stg5 n0 n1 S).1 ∧ EvN (stg5 n0 n1 S).2 22 6 ∧ (stg5 n0 n1 S).1 0 = S 0 ∧ S 2 ≤ (stg5 n0 n1 S).1 2 ∧ (stg5 n0 n1 S).1 2 ≤ S 2 + 1 := by
  obtain ⟨h1, h2', h3⟩ := stg4_ok n0 n1 h 6 (Nat.le_refl _)
  obtain ⟨k1, k2, k3, k4, k5⟩ := roundS_ok (S := (stg4 n0 n1 S 6).1) (L := (stg4 n0 n1 S 6).2) (F := S 0) h1 (by rw [h3.rd]; exact h2) h2'
  rw [h3.fr] at k3
  rw [h3.rd] at k4 k5
  exact ⟨k1, k2, k3, k4, k5⟩
theorem stepS_ok (h0 : S 0 < 1073741824) (h2 : S 2 < 1073741824) : StOk (stepS n0 n1 S).1 ∧ (stepS n0 n1 S).2.length ≤ 22 ∧ (stepS n0 n1 S).1 0 = S 0 + 1 ∧ S 2 ≤ (stepS n0 n1 S).1 2 ∧ (stepS n0 n1 S).1 2 ≤ S 2 + 1 := by
  have hf := h.m.fr
  obtain ⟨k1, k2, k3, k4, k5⟩ := stg5_ok n0 n1 h h2
  rw [stepS_eq]
  exact ⟨k1.head (j := 0) (by decide) (fun e => absurd e (by decide)) (fun _ => by omega) (fun e => absurd e (by decide)) (fun e => absurd e (by decide)), k2.len, by show upd (stg5 n0 n1 S).fst 0 (S 0 + 1) 0 = S 0 + 1; exact upd_same _ _ _, k4, k5⟩
end
end Go.Proofs.YtnaclkaapicelaaGreat

namespace Go.Proofs.YtnaclkaapicelaaGreat
open Go.RowKit
set_option maxRecDepth 100000
/-- No event tells of a round. -/
def NoR (L : List Ev) : Prop := ∀ e ∈ L, e.kind ≠ 7
theorem NoR.nil : NoR [] := fun _ h => absurd h (by simp)
theorem NoR.add {L : List Ev} (h : NoR L) (F : Int) (x : Ev) (hx : x.kind ≠ 7) : NoR (addE F L x) := fun e he => by
  rcases mem_insL.1 he with rfl | he
  · exact hx
  · exact h e he
theorem NoR.cnt {L : List Ev} (h : NoR L) : cntE L 0 7 = 0 := by
  unfold cntE
  rw [List.filter_eq_nil_iff.2]
  · rfl
  · intro e he
    unfold sameK
    rw [decide_eq_false (h e he)]
    simp
theorem NoR.fire {S : Nat → Int} {L : List Ev} (h : NoR L) (i : Nat) (F : Int) : NoR (fireS i F (S, L)).2 := by
  unfold fireS
  dsimp only
  split
  · exact h
  · split
    · exact h.add F _ (by show (1 : Int) ≠ 7; decide)
    · exact h
theorem NoR.play {S : Nat → Int} {L : List Ev} (h : NoR L) (i n : Nat) (F : Int) : NoR (playS i n F (S, L)).2 := by
  have h1 : ∀ q, NoR (lThrust i q n F L) := fun q => by
    unfold lThrust
    split
    · exact h.add F _ (by show (8 : Int) ≠ 7; decide)
    · exact h
  have h2 : ∀ p, NoR (steerL i p n F L) := fun p => by
    unfold steerL lDash
    split
    · exact (h1 _).add F _ (by show (9 : Int) ≠ 7; decide)
    · exact h1 _
  have h3 : ∀ p q, NoR (lMove i q F (steerL i p n F L)) := fun p q => by
    unfold lMove
    split
    · exact h2 _
    · exact (h2 _).add F _ (by show (3 : Int) ≠ 7; decide)
  unfold playS
  dsimp only
  split
  · exact h
  · split
    · exact h.add F _ (by show (6 : Int) ≠ 7; decide)
    · split
      · exact (h3 _ _).fire i F
      · exact h3 _ _
theorem NoR.clash {S : Nat → Int} {L : List Ev} (h : NoR L) (F : Int) : NoR (clashS F (S, L)).2 := by
  unfold clashS
  split
  · exact h.add F _ (by show (4 : Int) ≠ 7; decide)
  · exact h
theorem NoR.hit {S : Nat → Int} {L : List Ev} (h : NoR L) (i : Nat) (F : Int) : NoR (hitS i F (S, L)).2 := by
  unfold hitS
  dsimp only
  split
  · exact h.add F _ (by show (2 : Int) ≠ 7; decide)
  · exact (h.add F _ (by show (2 : Int) ≠ 7; decide)).add F _ (by show (5 : Int) ≠ 7; decide)
theorem NoR.flyT {S : Nat → Int} {L : List Ev} (h : NoR L) (k : Nat) (F : Int) : NoR (flyT k F (S, L)).2.2 := by
  unfold Go.Proofs.YtnaclkaapicelaaGreat.flyT
  dsimp only
  split
  · exact h
  · split
    · exact h
    · split
      · exact h.hit _ F
      · exact h
theorem NoR.fly {S : Nat → Int} {L : List Ev} (h : NoR L) (k : Nat) (F : Int) : NoR (flyS k F (S, L)).2 := by
  unfold flyS
  split
  · exact h
  · split
    · exact h.flyT k F
    · exact h.flyT k F
theorem NoR.flyTo {S : Nat → Int} {L : List Ev} (h : NoR L) (F : Int) : ∀ k, NoR (flyTo F (S, L) k).2
  | 0 => h
  | k + 1 => (NoR.flyTo h F k).fly (S := (Go.Proofs.YtnaclkaapicelaaGreat.flyTo F (S, L) k).1) k F
theorem stg4_nor (n0 n1 : Nat) (S : Nat → Int) (k : Nat) : NoR (stg4 n0 n1 S k).2 :=
  ((((NoR.nil.play (S := S) 0 n0 (S 0)).play (S := (stg1 n0 S).1) 1 n1 (S 0)).clash (S := (stg2 n0 n1 S).1) (S 0)).flyTo (S := (stg3 n0 n1 S).1) (S 0) k)
theorem u8_gt {n : Nat} (h : n < 64) : decide ((63 : Int) < (n : Int)) = false := decide_eq_false (by omega)
theorem Stg.open_ {w : World} {g gp base : Nat} {S : Nat → Int} {F : Int} (h : StBlk w g gp S) (hp : Blk w gp 107 #[.int .i64 F, .slice none 0 0]) (bg : base ≤ g) (bp : base ≤ gp) (bw : base ≤ w.heap.size) : Stg w g gp base S F [] :=
  ⟨h, ⟨none, 0, 0, hp, OwnL.nil, Nat.le_refl _, by decide⟩, PageOk.nil F, bg, bp, bw⟩
theorem built_stage (S : Nat → Int) (p : Option Addr) : Tryz.prog.built 71 [(0, .agg (stCells S).toArray), (1, .pointer p)] = some (stCells S ++ [Value.pointer p]).toArray := by
  have hu : ∃ z, (Tryz.prog.info? 71).bind (·.zero) = some z ∧ z.cells.size = 61 := by
    cases h : (Tryz.prog.info? 71).bind (·.zero) with
    | none =>
      have : ((Tryz.prog.info? 71).bind (·.zero)).isSome = true := by kernel_rfl
      rw [h] at this; cases this
    | some z =>
      have : ((Tryz.prog.info? 71).bind (·.zero)).map (·.cells.size) = some 61 := by kernel_rfl
      rw [h] at this
      exact ⟨z, rfl, by simpa using this⟩
  obtain ⟨z, hz, hs⟩ := hu
  rw [built_struct (places := [(0, 60), (60, 1)]) Tryz.underlying71 hz (by kernel_rfl)]
  exact fill_two _ _ (stCells S) [.pointer p] _ _ rfl rfl (by rw [stCells_length]; rfl) (by rw [stCells_length]; rfl) (by rw [hs, stCells_length]; rfl)
def stgN (n0 n1 : Nat) (S : Nat → Int) : Nat → StL
  | 0 => (S, [])
  | 1 => stg1 n0 S
  | _ => stg2 n0 n1 S
theorem roundS_fr (F : Int) (T : Nat → Int) (L : List Ev) : (roundS F (T, L)).1 0 = T 0 := by
  unfold roundS
  split
  · rfl
  · rfl
theorem StBlk.range {w : World} {g gp : Nat} {T : Nat → Int} (h : StBlk w g gp T) : w.rangeAt g 0 (stCells T) := fun j v hv => by
  have hj : j < 60 := by have := (List.getElem?_eq_some_iff.1 hv).1; rwa [stCells_length] at this
  rw [Nat.zero_add, h.cell j hj, ← hv]
  simp [stCells, rowOf, hj]
def zeros6 : List Value := [.int .i32 0, .int .i32 0, .int .i32 0, .int .i32 0, .int .i64 0, .int .i64 0]
theorem zeros6_one : ∀ v ∈ zeros6, v.oneCell' = true := fun v hv => by
  simp only [zeros6, List.mem_cons, List.not_mem_nil, or_false] at hv
  rcases hv with rfl | rfl | rfl | rfl | rfl | rfl <;> rfl
theorem Stg.zero6 {w : World} {g gp base : Nat} {T : Nat → Int} {F : Int} {L : List Ev} (h : Stg w g gp base T F L) {k : Nat} (hk : k < 6) : Stg (w.setCells g (24 + k * 6) zeros6) g gp base (putS T k zeroS) F L := by
  refine h.setRange (24 + k * 6) zeros6 _ (by show 24 + k * 6 + 6 ≤ 60; omega) (fun j hj => ?_) (fun j _ hj => ?_)
  · have hj : j < 6 := hj
    rw [putS_at T k _ j hj, kdS_s k j hj]
    obtain rfl | rfl | rfl | rfl | rfl | rfl : j = 0 ∨ j = 1 ∨ j = 2 ∨ j = 3 ∨ j = 4 ∨ j = 5 := by omega
    all_goals rfl
  · have : zeros6.length = 6 := rfl
    exact putS_other T k _ j (by omega)
section
variable {S : Nat → Int} {n0 n1 : Nat} {w : World}
set_option maxHeartbeats 4000000 in
theorem gStep_yes (hok : StOk S) (hF : S 0 < 1073741824) (h0 : n0 < 64) (h1 : n1 < 64) :
    Calls Tryz.prog 8 #[.agg (stCells S).toArray, .agg #[.int .u8 n0, .int .u8 n1]] w fun e w' => ∃ A c, e = .returned (.tuple #[.agg (stCells (stepS n0 n1 S).1).toArray, .slice A (stepS n0 n1 S).2.length c, .int .i64 0]) ∧ OwnL w' w.heap.size 65 9 (.slice A (stepS n0 n1 S).2.length c) Ev.cells (stepS n0 n1 S).2 ∧ Below w.heap.size w w' := by
  have HR := Lib.hid (fun W => (gRight_any S W).mono fun e w' ⟨he, hb⟩ => (⟨by rw [he, hok.right], hb⟩ : e = Ending.returned (.bool true) ∧ Below W.heap.size W w'))
  have hF0 := hok.m.fr.1
  have hne : (S 0 == 1073741824) = false := by simp; omega
  have g0 := u8_gt h0
  have g1 := u8_gt h1
  have HO := Lib.hid hok
  have HF := Lib.hid hF
  clear hok hF
  obtain ⟨TS, LS, hTS⟩ : ∃ T L, stepS n0 n1 S = (T, L) := ⟨_, _, rfl⟩
  rw [hTS]
  have HTSL := Lib.hid hTS
  clear hTS
  go_enter Tryz.func8, Tryz.ntmps8
  go_upto_region 1 with fail
  refine named3 (F := fun W => Code.wp _ _ _ _ W) ?_
  intro w1 k0 k1 k2 hb1 hz1
  have HK0 := Lib.hid k0
  have HK1 := Lib.hid k1
  have HK2 := Lib.hid k2
  have HB1 := Lib.hid hb1
  have HZ1 := Lib.hid hz1
  clear k0 k1 k2 hb1 hz1
  go_upto_region 3 with (first
    | (refine wpList_load_mid rfl 33 (.tmp 2) rfl w.heap.size 0 rfl (stCells S) _ (Blk.range HK0.out) Tryz.underlying33 rfl (by kernel_rfl) ?_)
    | (go_at_call 9; refine (HR.out _).mono ?_; rintro e w2 ⟨rfl, hb2⟩; have HB2 := Lib.hid hb2; have HK12 := (HK1.out.on hb2); have i0 := HK12.cell 0; have i1 := HK12.cell 1; simp only [List.getElem?_toArray, List.getElem?_cons_zero, List.getElem?_cons_succ] at i0 i1; clear HK12))
  have HK02 := Lib.hid (HK0.out.on HB2.out)
  have HK12 := Lib.hid (HK1.out.on HB2.out)
  have HK22 := Lib.hid (HK2.out.on HB2.out)
  have HBW2 := Lib.hid (bTrans HB1.out HB2.out)
  have e0 : w2.cell? ⟨w.heap.size, 0, none⟩ = some (.int .i64 (S 0)) := st_cell HK02.out 0 (by decide)
  have l2 := HK22.out.lt
  clear i0 i1
  go_upto_region 8 with (first
    | (refine (open_yes (S 0) _ hF0 (by have := HF.out; omega)).mono ?_; rintro e w3 ⟨rfl, hp3, hb3⟩))
  have HP3 := Lib.hid hp3
  have HB3 := Lib.hid hb3
  have HK03 := Lib.hid (HK02.out.on hb3)
  have HK13 := Lib.hid (HK12.out.on hb3)
  have HK23 := Lib.hid (HK22.out.on hb3)
  have HBW3 := Lib.hid (bTrans HBW2.out hb3)
  clear hp3 hb3 e0 l2
  obtain ⟨CS, hcs⟩ : ∃ CS : Array Value, (stCells S ++ [Value.pointer (some ⟨w2.heap.size, 0, none⟩)]).toArray = CS := ⟨_, rfl⟩
  have HCS := Lib.hid hcs
  have hbt := built_stage S (some ⟨w2.heap.size, 0, none⟩)
  rw [hcs] at hbt
  have HBT := Lib.hid hbt
  clear hcs hbt
  go_upto_region 9 with (first
    | (refine wpList_load_mid rfl 33 (.tmp 2) rfl w.heap.size 0 rfl (stCells S) _ (Blk.range HK03.out) Tryz.underlying33 rfl (by kernel_rfl) ?_)
    | (refine wpList_built rfl 71 [(0, .tmp 43), (1, .tmp 44)] rfl CS [(0, .agg (stCells S).toArray), (1, .pointer (some ⟨w2.heap.size, 0, none⟩))] rfl HBT.out ?_))
  refine named1 (F := fun W => Code.wp _ _ _ _ W) ?_
  intro w4 k4 hb4 hz4
  have hl3 := HB3.out.size
  have hpl := HP3.out.lt
  have HBW4 := Lib.hid (bTrans HBW3.out hb4)
  have hst : Stg w4 w3.heap.size w2.heap.size w2.heap.size S (S 0) [] := by
    refine Stg.open_ ?_ (HP3.out.on hb4) hl3 (Nat.le_refl _) (by omega)
    unfold StBlk
    rw [HCS.out]
    exact k4
  have HST := Lib.hid hst
  have HK14 := Lib.hid (HK13.out.on hb4)
  have HK24 := Lib.hid (HK23.out.on hb4)
  have hlo : w.heap.size + 1 + 1 < w2.heap.size := HK22.out.lt
  clear HR HK0 HK1 HK2 HB1 HZ1 HB2 HK02 HK12 HK22 HBW2 HB3 HK03 HK13 HK23 HBW3 k4 hb4 hz4 HP3 HCS HBT hst hne
  go_wp2_with fail
  have HP0 : Hid (∀ W, Stg W w3.heap.size w2.heap.size w2.heap.size S (S 0) [] → Calls Tryz.prog 25 #[.pointer (some ⟨w3.heap.size, 0, none⟩), .int .i64 0, .int .u8 n0] W fun e w' => e = .returned (.tuple #[]) ∧ Stg w' w3.heap.size w2.heap.size w2.heap.size (stgN n0 n1 S 1).1 (S 0) (stgN n0 n1 S 1).2 ∧ Below w2.heap.size W w') :=
    Lib.hid (fun W h => gplay_any (i := 0) h (by decide) HO.out h0 ⟨hF0, by have := HF.out; omega⟩ rfl (by simp))
  have hs1 := stg1_ok n0 HO.out
  have HP1 : Hid (∀ W, Stg W w3.heap.size w2.heap.size w2.heap.size (stgN n0 n1 S 1).1 (S 0) (stgN n0 n1 S 1).2 → Calls Tryz.prog 25 #[.pointer (some ⟨w3.heap.size, 0, none⟩), .int .i64 1, .int .u8 n1] W fun e w' => e = .returned (.tuple #[]) ∧ Stg w' w3.heap.size w2.heap.size w2.heap.size (stgN n0 n1 S 2).1 (S 0) (stgN n0 n1 S 2).2 ∧ Below w2.heap.size W w') :=
    Lib.hid (fun W h => gplay_any (i := 1) h (by decide) hs1.1 h1 ⟨hF0, by have := HF.out; omega⟩ hs1.2.2.fr (by have := hs1.2.1.len; show (stg1 n0 S).2.length ≤ 10; omega))
  clear hs1
  have HST0 : Hid (Stg w4 w3.heap.size w2.heap.size w2.heap.size (stgN n0 n1 S 0).1 (S 0) (stgN n0 n1 S 0).2) := HST
  clear HST
  go_loopw [47] (fun v wr => ∃ i : Nat, i ≤ 2 ∧ v = .int .i64 i ∧ Hid (Stg wr w3.heap.size w2.heap.size w2.heap.size (stgN n0 n1 S i).1 (S 0) (stgN n0 n1 S i).2) ∧ Hid (Below w2.heap.size w4 wr)) (fun v _ => 2 - (intOf v).toNat)
  case atStart => exact ⟨0, by decide, rfl, HST0, Lib.hid (Below.refl _ _)⟩
  case round =>
    obtain ⟨i, hi, rfl, HSI, HBI⟩ := hrel
    clear HST0
    by_cases hlt : i < 2
    · have hk1 := HK14.out.below HBI.out (by omega)
      have i0 := hk1.cell 0
      have i1 := hk1.cell 1
      simp only [List.getElem?_toArray, List.getElem?_cons_zero, List.getElem?_cons_succ] at i0 i1
      clear hk1
      have hi2 : i = 0 ∨ i = 1 := by omega
      rcases hi2 with rfl | rfl
      · go_wp2_with (first | (go_at_call 25; refine (HP0.out _ HSI.out).mono ?_; rintro e w5 ⟨rfl, h5, hb5⟩))
        have H5 := Lib.hid h5
        have HB5 := Lib.hid (HBI.out.trans hb5)
        clear h5 hb5 i0 i1
        go_wp2
        go_roundw
        case rel => exact ⟨1, by omega, rfl, H5, HB5⟩
        case measure => simp [intOf]
      · go_wp2_with (first | (go_at_call 25; refine (HP1.out _ HSI.out).mono ?_; rintro e w5 ⟨rfl, h5, hb5⟩))
        have H5 := Lib.hid h5
        have HB5 := Lib.hid (HBI.out.trans hb5)
        clear h5 hb5 i0 i1
        go_wp2
        go_roundw
        case rel => exact ⟨2, by omega, rfl, H5, HB5⟩
        case measure => simp [intOf]
    · obtain rfl : i = 2 := by omega
      go_wp2_with fail
      have hs2 := stg2_ok n0 n1 HO.out
      have hp0 := hs2.1.m.pl 0 (by decide)
      have hp1 := hs2.1.m.pl 1 (by decide)
      have hdn0 : 0 ≤ (stg2 n0 n1 S).1 12 ∧ (stg2 n0 n1 S).1 12 ≤ 30 := hp0.dn
      have hdn1 : 0 ≤ (stg2 n0 n1 S).1 22 ∧ (stg2 n0 n1 S).1 22 ≤ 30 := hp1.dn
      have hx0 : -3932160 ≤ (stg2 n0 n1 S).1 4 ∧ (stg2 n0 n1 S).1 4 ≤ 3932160 := hp0.ax
      have hy0 : -3932160 ≤ (stg2 n0 n1 S).1 5 ∧ (stg2 n0 n1 S).1 5 ≤ 3932160 := hp0.ay
      have hx1 : -3932160 ≤ (stg2 n0 n1 S).1 14 ∧ (stg2 n0 n1 S).1 14 ≤ 3932160 := hp1.ax
      have hy1 : -3932160 ≤ (stg2 n0 n1 S).1 15 ∧ (stg2 n0 n1 S).1 15 ≤ 3932160 := hp1.ay
      have hle2 := hs2.2.1.len
      have HF30 : Hid (0 ≤ S 0 ∧ S 0 ≤ 1073741824) := Lib.hid ⟨hF0, by have := HF.out; omega⟩
      refine (gclash_any (S := (stg2 n0 n1 S).1) (L := (stg2 n0 n1 S).2) HSI.out HF30.out hdn0.1 hdn1.1 (by unfold F32; omega) (by unfold F32; omega) (by unfold F32; omega) (by unfold F32; omega) (by omega)).mono ?_
      rintro e w6 ⟨rfl, h6, hb6⟩
      have H6 : Hid (Stg w6 w3.heap.size w2.heap.size w2.heap.size (stg4 n0 n1 S 0).1 (S 0) (stg4 n0 n1 S 0).2) := Lib.hid h6
      have HB6 := Lib.hid (HBI.out.trans hb6)
      clear h6 hb6 hs2 hp0 hp1 hdn0 hdn1 hx0 hy0 hx1 hy1 hle2 HSI HBI HP0 HP1
      go_wp2_with fail
      go_loopw [59] (fun v wr => ∃ k : Nat, k ≤ 6 ∧ v = .int .i64 k ∧ Hid (Stg wr w3.heap.size w2.heap.size w2.heap.size (stg4 n0 n1 S k).1 (S 0) (stg4 n0 n1 S k).2) ∧ Hid (Below w2.heap.size w4 wr)) (fun v _ => 6 - (intOf v).toNat)
      case atStart => exact ⟨0, by decide, rfl, H6, HB6⟩
      case round =>
        obtain ⟨k, hk, rfl, HSK, HBK⟩ := hrel
        clear H6 HB6
        by_cases hlt : k < 6
        · obtain ⟨T, L, hTL⟩ : ∃ T L, stg4 n0 n1 S k = (T, L) := ⟨_, _, rfl⟩
          obtain ⟨hm, hev, -⟩ := stg4_ok n0 n1 HO.out k hk
          rw [hTL] at HSK hm hev
          have HM := Lib.hid hm
          have HEV := Lib.hid hev
          have HNX : Hid (stg4 n0 n1 S (k + 1) = flyS k (S 0) (T, L)) := Lib.hid (by rw [show stg4 n0 n1 S (k + 1) = flyS k (S 0) (stg4 n0 n1 S k) from rfl, hTL])
          clear hm hev hTL
          have hkI : (k : Int) < 6 := by omega
          have c4 : wr.cell? ⟨w3.heap.size, 24 + k * 6 + 4, none⟩ = some (.int .i64 (T (24 + k * 6 + 4))) := HSK.out.cellS hlt 4 (by decide) rfl
          have hgl := HSK.out.lt
          by_cases h4 : T (24 + k * 6 + 4) = 0
          · have hz : (T (24 + k * 6 + 4) != 0) = false := by simpa using h4
            have HQ : Hid (stg4 n0 n1 S (k + 1) = (T, L)) := Lib.hid (HNX.out.trans (by unfold flyS; exact if_pos h4))
            clear h4
            go_wp2_with fail
            go_roundw
            case rel => exact ⟨k + 1, by omega, by go_num, Lib.hid (by rw [HQ.out]; exact HSK.out), HBK⟩
            case measure => simp [intOf]; omega
          · have hz : (T (24 + k * 6 + 4) != 0) = true := by simpa using h4
            obtain ⟨b, T', L', hft⟩ : ∃ b T' L', flyT k (S 0) (T, L) = (b, (T', L')) := ⟨_, _, _, rfl⟩
            have HFL : Hid (∀ W, Stg W w3.heap.size w2.heap.size w2.heap.size T (S 0) L → Calls Tryz.prog 27 #[.pointer (some ⟨w3.heap.size, 0, none⟩), .pointer (some ⟨w3.heap.size, 24 + k * 6, none⟩)] W fun e w' => e = .returned (.bool b) ∧ Stg w' w3.heap.size w2.heap.size w2.heap.size T' (S 0) L' ∧ Below w2.heap.size W w') := Lib.hid (fun W h => by
              have := gfly_any h hlt HM.out h4 HF30.out HEV.out (by omega) (by omega)
              rw [hft] at this
              exact this)
            have HQ : Hid (stg4 n0 n1 S (k + 1) = if b then (T', L') else (putS T' k zeroS, L')) := Lib.hid (HNX.out.trans (by
              unfold flyS
              refine (if_neg h4).trans ?_
              rw [hft]))
            clear h4 hft HNX HM HEV
            cases b
            · go_upto_region 20 with (first | (go_at_call 27; refine (HFL.out _ HSK.out).mono ?_; rintro e w7 ⟨rfl, h7, hb7⟩))
              have H7 := Lib.hid h7
              have HB7 := Lib.hid (HBK.out.trans hb7)
              have hgl7 := h7.lt
              have HTH := Lib.hid (h7.there (o := 24 + k * 6) (n := 6) (by omega))
              have HZ7 := Lib.hid (h7.zero6 hlt)
              have HBZ := Lib.hid (bSetC HB7.out (Nat.le_of_lt hpl) (24 + k * 6) zeros6)
              clear h7 hb7 c4 hz hgl
              go_upto_region 21 with (first | (refine wpList_store_mid rfl 30 (.tmp 81) (.tmp 80) rfl w3.heap.size (24 + k * 6) zeros6.toArray rfl rfl HTH.out (by kernel_rfl) (all_oneCell_toArray zeros6_one) ?_))
              obtain ⟨wz, hwz⟩ : ∃ wz, w7.setCells w3.heap.size (24 + k * 6) zeros6 = wz := ⟨_, rfl⟩
              rw [hwz] at HZ7 HBZ ⊢
              clear hwz HTH
              go_wp2_with fail
              go_roundw
              case rel => exact ⟨k + 1, by omega, by go_num, Lib.hid (by rw [HQ.out]; exact HZ7.out), HBZ⟩
              case measure => simp [intOf]; omega
            · go_wp2_with (first | (go_at_call 27; refine (HFL.out _ HSK.out).mono ?_; rintro e w7 ⟨rfl, h7, hb7⟩))
              have H7 := Lib.hid h7
              have HB7 := Lib.hid (HBK.out.trans hb7)
              clear h7 hb7 c4 hz hgl
              go_wp2
              go_roundw
              case rel => exact ⟨k + 1, by omega, by go_num, Lib.hid (by rw [HQ.out]; exact H7.out), HB7⟩
              case measure => simp [intOf]; omega
        · obtain rfl : k = 6 := by omega
          go_wp2_with fail
          obtain ⟨hm6, hev6, hhd6⟩ := stg4_ok n0 n1 HO.out 6 (Nat.le_refl _)
          have hnr := (stg4_nor n0 n1 S 6).cnt
          obtain ⟨T6, L6, hT6⟩ : ∃ T L, stg4 n0 n1 S 6 = (T, L) := ⟨_, _, rfl⟩
          have h56 : stg5 n0 n1 S = roundS (S 0) (T6, L6) := by unfold stg5; rw [hT6]
          rw [hT6] at HSK hm6 hev6 hhd6 hnr
          have hl6 : L6.length ≤ 21 := hev6.len
          have hfr : (stg5 n0 n1 S).1 0 = S 0 := by rw [h56]; exact (roundS_fr _ _ _).trans hhd6.fr
          have HG : Hid (∀ W, Stg W w3.heap.size w2.heap.size w2.heap.size T6 (S 0) L6 → Calls Tryz.prog 28 #[.pointer (some ⟨w3.heap.size, 0, none⟩)] W fun e w' => e = .returned (.tuple #[]) ∧ Stg w' w3.heap.size w2.heap.size w2.heap.size (stg5 n0 n1 S).1 (S 0) (stg5 n0 n1 S).2 ∧ Below w2.heap.size W w') := Lib.hid (fun W h => by
            rw [h56]
            exact ground_any h HF30.out hm6.rd hm6.lf (by omega) (by rw [hnr]; decide))
          have HSE : Hid ((TS, LS) = (upd (stg5 n0 n1 S).1 0 (S 0 + 1), (stg5 n0 n1 S).2)) := Lib.hid (HTSL.out.symm.trans (stepS_eq n0 n1 S))
          obtain ⟨T5, L5, hT5⟩ : ∃ T L, stg5 n0 n1 S = (T, L) := ⟨_, _, rfl⟩
          rw [hT5] at HG HSE hfr
          have HFR := Lib.hid hfr
          have HTS : Hid (TS = upd T5 0 (S 0 + 1)) := Lib.hid (congrArg Prod.fst HSE.out)
          have HLS : Hid (LS = L5) := Lib.hid (congrArg Prod.snd HSE.out)
          clear hm6 hev6 hhd6 hnr hT6 h56 hl6 hfr hT5 HSE
          refine (HG.out _ HSK.out).mono ?_
          rintro e w8 ⟨rfl, h8, hb8⟩
          have c0 : w8.cell? ⟨w3.heap.size, 0, none⟩ = some (.int .i64 (S 0)) := by rw [← HFR.out]; exact h8.st.cell 0 (by decide)
          have y0 := h8.st.frozen 0
          have hg8 := h8.lt
          have H9 : Hid (Stg (w8.setCell ⟨w3.heap.size, 0, none⟩ (.int .i64 (S 0 + 1))) w3.heap.size w2.heap.size w2.heap.size TS (S 0) LS) := Lib.hid (by rw [HTS.out, HLS.out]; exact h8.set 0 (by decide) (k := .i64) rfl (S 0 + 1))
          have HB9 := Lib.hid (bSetB (HBK.out.trans hb8) (Nat.le_of_lt hpl) 0 (.int .i64 (S 0 + 1)))
          clear h8 hb8 HSK HBK HG HFR
          have hF1 := HF.out
          go_upto_region 24 with fail
          obtain ⟨w9, hw9⟩ : ∃ w9, w8.setCell ⟨w3.heap.size, 0, none⟩ (.int .i64 (S 0 + 1)) = w9 := ⟨_, rfl⟩
          rw [hw9] at H9 HB9 ⊢
          have hl9 := H9.out.lt
          have hlen9 : LS.length ≤ 100000 := by
            have := (stg4_ok n0 n1 HO.out 6 (Nat.le_refl _)).2.1.len
            have h5 : (roundS (S 0) (stg4 n0 n1 S 6)).2.length ≤ (stg4 n0 n1 S 6).2.length + 1 := by
              unfold roundS
              split
              · rw [addE_length]; exact Nat.le_refl _
              · exact Nat.le_succ _
            have h6 : LS.length = (roundS (S 0) (stg4 n0 n1 S 6)).2.length := by rw [show LS = (stepS n0 n1 S).2 by rw [HTSL.out], stepS_eq]; rfl
            omega
          have HLE := Lib.hid hlen9
          have HK29 := Lib.hid (HK24.out.below HB9.out (by omega))
          clear hlen9 HK14 HK24
          refine wp_region_mix 5 rfl (fun v => ∃ A c, v = .slice A LS.length c) (fun v W => OwnL W w9.heap.size 65 9 v Ev.cells LS) (fun v W U h k => h.below k) (by kernel_rfl) (by kernel_rfl) ?_
          simp only [List.take_succ_cons, List.take_zero, List.drop_succ_cons, List.drop_zero]
          refine wpFx_plain rfl rfl (fun K hK => ?_)
          go_big_quiet_op
          refine hK _ ?_
          clear hK K
          refine wpFx_plain rfl rfl (fun K hK => ?_)
          go_big_quiet_op
          refine hK _ ?_
          clear hK K
          refine wpFx_plain rfl rfl (fun K hK => ?_)
          go_big_quiet_op
          refine hK _ ?_
          clear hK K
          refine wpFx_load rfl 33 (.tmp 96) rfl w3.heap.size 0 rfl (stCells TS) _ hl9 (StBlk.range H9.out.st) Tryz.underlying33 rfl (by kernel_rfl) ?_
          simp only [Act.put, List.setIfInBounds_toArray, List.set_cons_zero, List.set_cons_succ]
          refine wpFx_plain rfl rfl (fun K hK => ?_)
          go_big_quiet_op
          refine hK _ ?_
          clear hK K
          refine ⟨rfl, ?_, ?_⟩
          · intro W hW
            have hM : Calls Tryz.prog 29 #[.pointer (some ⟨w2.heap.size, 0, none⟩)] W fun e w'' => ∃ v, e = .returned v ∧ ((∃ A c, v = .slice A LS.length c) ∧ OwnL w'' w9.heap.size 65 9 v Ev.cells LS) ∧ Grown W w'' := by
              obtain ⟨A, n, c, hp, ho, -⟩ := H9.out.pg
              refine (list_any w2.heap.size (S 0) A n c LS w2.heap.size W (hp.on hW) (ho.below hW) HLE.out).mono ?_
              rintro e w'' ⟨A', c', rfl, h1, h2⟩
              exact ⟨_, rfl, ⟨⟨A', c', rfl⟩, h1.more (Below.size hW)⟩, h2⟩
            have HM := Lib.hid hM
            clear hM
            go_simp
            exact HM.out
          · rintro v W ⟨A, c, rfl⟩ hO hW
            have HO9 := Lib.hid hO
            have HK3 := Lib.hid (HK29.out.on hW)
            have hW2 := Below.size hW
            have HBW := Lib.hid ((HBW4.out.trans (HB9.out.mono (by omega))).trans (Below.mono hW (by omega)))
            clear hO hW
            have HTH := Lib.hid (Blk.there HK3.out (o := 0) (n := 60) (by decide))
            have hrg := World.rangeAt_setCells_same W (w.heap.size + 1 + 1) 0 (stCells TS) (by rw [stCells_length]; exact HTH.out)
            have HOZ : Hid (OwnL (W.setCells (w.heap.size + 1 + 1) 0 (stCells TS)) w9.heap.size 65 9 (.slice A LS.length c) Ev.cells LS) := Lib.hid (OwnL.kept (row := some (w.heap.size + 1 + 1)) HO9.out (oSetCells (World.grownBy.refl W _) 0 _) (.inr (Blk.apart HK3.out HO9.out (by decide))))
            have HBZ := Lib.hid (bSetCells HBW.out (show w.heap.size ≤ w.heap.size + 1 + 1 by omega) 0 (stCells TS))
            have HRES := Lib.hid (run_loadVar_mid (P := Tryz.prog) _ _ _ 33 (stCells TS) _ hrg Tryz.underlying33 rfl (by kernel_rfl))
            have HTH' : Hid (W.there (w.heap.size + 1 + 1) 0 (stCells TS).toArray.size) := Lib.hid (by rw [show (stCells TS).toArray.size = 60 from by rw [List.size_toArray, stCells_length]]; exact HTH.out)
            clear hrg HTH HO9 HK3
            simp only [List.setIfInBounds_toArray, List.set_cons_zero, List.set_cons_succ]
            refine wpList_store_mid rfl 33 (.tmp 4) (.tmp 97) rfl (w.heap.size + 1 + 1) 0 (stCells TS).toArray rfl rfl HTH'.out (by kernel_rfl) (all_oneCell_toArray (int_one TS)) ?_
            obtain ⟨Wz, hWz⟩ : ∃ Wz, W.setCells (w.heap.size + 1 + 1) 0 (stCells TS) = Wz := ⟨_, rfl⟩
            rw [hWz] at HOZ HBZ HRES
            rw [show (stCells TS).toArray.toList = stCells TS from rfl, hWz]
            clear hWz HTH'
            go_wp2_with fail
            have hres := HRES.out
            refine bodyPost_ret (v := .tuple #[.agg (stCells TS).toArray, .slice A LS.length c, .int .i64 0]) (results_c2 (a := 4) (t := 33) (x := 5) (y := 6) rfl rfl hres) rfl ⟨A, c, rfl, HOZ.out.more (Nat.le_trans (Nat.le_trans (by omega : w.heap.size ≤ w2.heap.size) (Nat.le_of_lt hpl)) (Nat.le_of_lt hl9)), HBZ.out⟩
end
end Go.Proofs.YtnaclkaapicelaaGreat

namespace Go.Proofs.YtnaclkaapicelaaGreat
open Go.RowKit
set_option maxRecDepth 100000
def zeroT : Nat → Int := fun _ => 0
theorem built_zero : Tryz.prog.built 33 [] = some (stCells zeroT).toArray := by kernel_rfl
theorem u8_gt' {n : Nat} (h : 64 ≤ n) : decide ((63 : Int) < (n : Int)) = true := decide_eq_true (by omega)
section
variable {S : Nat → Int} {n0 n1 : Nat} {w : World}
set_option maxHeartbeats 4000000 in
theorem gStep_a (CZ : Array Value) (HCZ : Hid ((stCells zeroT).toArray = CZ)) (hr : rightS S = false) : Calls Tryz.prog 8 #[.agg (stCells S).toArray, .agg #[.int .u8 n0, .int .u8 n1]] w fun e w' => e = .returned (.tuple #[.agg CZ, .slice none 0 0, .int .i64 1]) ∧ Below w.heap.size w w' := by
  have HR := Lib.hid (fun W => (gRight_any S W).mono fun e w' ⟨he, hb⟩ => (⟨by rw [he, hr], hb⟩ : e = Ending.returned (.bool false) ∧ Below W.heap.size W w'))
  clear hr
  go_enter Tryz.func8, Tryz.ntmps8
  go_upto_region 1 with fail
  refine named3 (F := fun W => Code.wp _ _ _ _ W) ?_
  intro w1 k0 k1 k2 hb1 hz1
  have HK0 := Lib.hid k0
  have HK1 := Lib.hid k1
  have HK2 := Lib.hid k2
  have HB1 := Lib.hid hb1
  clear k0 k1 k2 hb1 hz1
  go_upto_region 2 with (first | (refine wpList_load_mid rfl 33 (.tmp 2) rfl w.heap.size 0 rfl (stCells S) _ (Blk.range HK0.out) Tryz.underlying33 rfl (by kernel_rfl) ?_) | (go_at_call 9; refine (HR.out _).mono ?_; rintro e w2 ⟨rfl, hb2⟩; have HB2 := Lib.hid hb2; have HK12 := (HK1.out.on hb2); have i0 := HK12.cell 0; have i1 := HK12.cell 1; simp only [List.getElem?_toArray, List.getElem?_cons_zero, List.getElem?_cons_succ] at i0 i1; clear HK12))
  clear i0 i1
  have HK22 := Lib.hid (HK2.out.on HB2.out)
  have HTH : Hid (w2.there (w.heap.size + 1 + 1) 0 (stCells zeroT).toArray.size) := Lib.hid (by rw [show (stCells zeroT).toArray.size = 60 from by rw [List.size_toArray, stCells_length]]; exact Blk.there HK22.out (by decide))
  have hrg := World.rangeAt_setCells_same w2 (w.heap.size + 1 + 1) 0 (stCells zeroT) (by have := HTH.out; rwa [List.size_toArray] at this)
  have HRES := Lib.hid (run_loadVar_mid (P := Tryz.prog) _ _ _ 33 (stCells zeroT) _ hrg Tryz.underlying33 rfl (by kernel_rfl))
  have HBZ := Lib.hid (bSetCells (bTrans HB1.out HB2.out) (show w.heap.size ≤ w.heap.size + 1 + 1 by omega) 0 (stCells zeroT))
  have hcz := HCZ.out
  have hbz := built_zero
  rw [hcz] at hbz HRES HTH
  have HBT := Lib.hid hbz
  have h1c : CZ.all (·.oneCell') = true := by rw [← hcz]; exact all_oneCell_toArray (int_one zeroT)
  have H1C := Lib.hid h1c
  have HSZ : Hid ((Tryz.prog.info? 33).map (·.size) = some CZ.size) := Lib.hid (by rw [← hcz, show (stCells zeroT).toArray.size = 60 from by rw [List.size_toArray, stCells_length]]; kernel_rfl)
  obtain ⟨Wz, hWz⟩ : ∃ Wz, w2.setCells (w.heap.size + 1 + 1) 0 (stCells zeroT) = Wz := ⟨_, rfl⟩
  have hWz2 : w2.setCells (w.heap.size + 1 + 1) 0 CZ.toList = Wz := by rw [← hcz]; exact hWz
  rw [hWz] at HBZ HRES
  have HWZ := Lib.hid hWz2
  clear hrg hbz hcz h1c hWz hWz2
  go_wp2_with (first | (refine wpList_built rfl 33 [] rfl CZ [] rfl HBT.out ?_) | (refine wpList_store_mid rfl 33 (.tmp 4) (.tmp 27) rfl (w.heap.size + 1 + 1) 0 CZ rfl rfl HTH.out HSZ.out H1C.out ?_; rw [HWZ.out]))
  have hres := HRES.out
  refine bodyPost_ret (results_c2 (a := 4) (t := 33) (x := 5) (y := 6) rfl rfl hres) rfl ⟨rfl, HBZ.out⟩
set_option maxHeartbeats 4000000 in
theorem gStep_b (CZ : Array Value) (HCZ : Hid ((stCells zeroT).toArray = CZ)) (hr : rightS S = true) (h0 : 64 ≤ n0) : Calls Tryz.prog 8 #[.agg (stCells S).toArray, .agg #[.int .u8 n0, .int .u8 n1]] w fun e w' => e = .returned (.tuple #[.agg CZ, .slice none 0 0, .int .i64 1]) ∧ Below w.heap.size w w' := by
  have HR := Lib.hid (fun W => (gRight_any S W).mono fun e w' ⟨he, hb⟩ => (⟨by rw [he, hr], hb⟩ : e = Ending.returned (.bool true) ∧ Below W.heap.size W w'))
  have g0 := u8_gt' h0
  clear hr h0
  go_enter Tryz.func8, Tryz.ntmps8
  go_upto_region 1 with fail
  refine named3 (F := fun W => Code.wp _ _ _ _ W) ?_
  intro w1 k0 k1 k2 hb1 hz1
  have HK0 := Lib.hid k0
  have HK1 := Lib.hid k1
  have HK2 := Lib.hid k2
  have HB1 := Lib.hid hb1
  clear k0 k1 k2 hb1 hz1
  go_upto_region 2 with (first | (refine wpList_load_mid rfl 33 (.tmp 2) rfl w.heap.size 0 rfl (stCells S) _ (Blk.range HK0.out) Tryz.underlying33 rfl (by kernel_rfl) ?_) | (go_at_call 9; refine (HR.out _).mono ?_; rintro e w2 ⟨rfl, hb2⟩; have HB2 := Lib.hid hb2; have HK12 := (HK1.out.on hb2); have i0 := HK12.cell 0; have i1 := HK12.cell 1; simp only [List.getElem?_toArray, List.getElem?_cons_zero, List.getElem?_cons_succ] at i0 i1; clear HK12))
  clear i0 i1
  have HK22 := Lib.hid (HK2.out.on HB2.out)
  have HTH : Hid (w2.there (w.heap.size + 1 + 1) 0 (stCells zeroT).toArray.size) := Lib.hid (by rw [show (stCells zeroT).toArray.size = 60 from by rw [List.size_toArray, stCells_length]]; exact Blk.there HK22.out (by decide))
  have hrg := World.rangeAt_setCells_same w2 (w.heap.size + 1 + 1) 0 (stCells zeroT) (by have := HTH.out; rwa [List.size_toArray] at this)
  have HRES := Lib.hid (run_loadVar_mid (P := Tryz.prog) _ _ _ 33 (stCells zeroT) _ hrg Tryz.underlying33 rfl (by kernel_rfl))
  have HBZ := Lib.hid (bSetCells (bTrans HB1.out HB2.out) (show w.heap.size ≤ w.heap.size + 1 + 1 by omega) 0 (stCells zeroT))
  have hcz := HCZ.out
  have hbz := built_zero
  rw [hcz] at hbz HRES HTH
  have HBT := Lib.hid hbz
  have h1c : CZ.all (·.oneCell') = true := by rw [← hcz]; exact all_oneCell_toArray (int_one zeroT)
  have H1C := Lib.hid h1c
  have HSZ : Hid ((Tryz.prog.info? 33).map (·.size) = some CZ.size) := Lib.hid (by rw [← hcz, show (stCells zeroT).toArray.size = 60 from by rw [List.size_toArray, stCells_length]]; kernel_rfl)
  obtain ⟨Wz, hWz⟩ : ∃ Wz, w2.setCells (w.heap.size + 1 + 1) 0 (stCells zeroT) = Wz := ⟨_, rfl⟩
  have hWz2 : w2.setCells (w.heap.size + 1 + 1) 0 CZ.toList = Wz := by rw [← hcz]; exact hWz
  rw [hWz] at HBZ HRES
  have HWZ := Lib.hid hWz2
  clear hrg hbz hcz h1c hWz hWz2
  go_wp2_with (first | (refine wpList_built rfl 33 [] rfl CZ [] rfl HBT.out ?_) | (refine wpList_store_mid rfl 33 (.tmp 4) (.tmp 27) rfl (w.heap.size + 1 + 1) 0 CZ rfl rfl HTH.out HSZ.out H1C.out ?_; rw [HWZ.out]))
  have hres := HRES.out
  refine bodyPost_ret (results_c2 (a := 4) (t := 33) (x := 5) (y := 6) rfl rfl hres) rfl ⟨rfl, HBZ.out⟩
set_option maxHeartbeats 4000000 in
theorem gStep_c (CZ : Array Value) (HCZ : Hid ((stCells zeroT).toArray = CZ)) (hr : rightS S = true) (h0 : n0 < 64) (h1 : 64 ≤ n1) : Calls Tryz.prog 8 #[.agg (stCells S).toArray, .agg #[.int .u8 n0, .int .u8 n1]] w fun e w' => e = .returned (.tuple #[.agg CZ, .slice none 0 0, .int .i64 1]) ∧ Below w.heap.size w w' := by
  have HR := Lib.hid (fun W => (gRight_any S W).mono fun e w' ⟨he, hb⟩ => (⟨by rw [he, hr], hb⟩ : e = Ending.returned (.bool true) ∧ Below W.heap.size W w'))
  have g0 := u8_gt h0
  have g1 := u8_gt' h1
  clear hr h0 h1
  go_enter Tryz.func8, Tryz.ntmps8
  go_upto_region 1 with fail
  refine named3 (F := fun W => Code.wp _ _ _ _ W) ?_
  intro w1 k0 k1 k2 hb1 hz1
  have HK0 := Lib.hid k0
  have HK1 := Lib.hid k1
  have HK2 := Lib.hid k2
  have HB1 := Lib.hid hb1
  clear k0 k1 k2 hb1 hz1
  go_upto_region 2 with (first | (refine wpList_load_mid rfl 33 (.tmp 2) rfl w.heap.size 0 rfl (stCells S) _ (Blk.range HK0.out) Tryz.underlying33 rfl (by kernel_rfl) ?_) | (go_at_call 9; refine (HR.out _).mono ?_; rintro e w2 ⟨rfl, hb2⟩; have HB2 := Lib.hid hb2; have HK12 := (HK1.out.on hb2); have i0 := HK12.cell 0; have i1 := HK12.cell 1; simp only [List.getElem?_toArray, List.getElem?_cons_zero, List.getElem?_cons_succ] at i0 i1; clear HK12))
  clear i0 i1
  have HK22 := Lib.hid (HK2.out.on HB2.out)
  have HTH : Hid (w2.there (w.heap.size + 1 + 1) 0 (stCells zeroT).toArray.size) := Lib.hid (by rw [show (stCells zeroT).toArray.size = 60 from by rw [List.size_toArray, stCells_length]]; exact Blk.there HK22.out (by decide))
  have hrg := World.rangeAt_setCells_same w2 (w.heap.size + 1 + 1) 0 (stCells zeroT) (by have := HTH.out; rwa [List.size_toArray] at this)
  have HRES := Lib.hid (run_loadVar_mid (P := Tryz.prog) _ _ _ 33 (stCells zeroT) _ hrg Tryz.underlying33 rfl (by kernel_rfl))
  have HBZ := Lib.hid (bSetCells (bTrans HB1.out HB2.out) (show w.heap.size ≤ w.heap.size + 1 + 1 by omega) 0 (stCells zeroT))
  have hcz := HCZ.out
  have hbz := built_zero
  rw [hcz] at hbz HRES HTH
  have HBT := Lib.hid hbz
  have h1c : CZ.all (·.oneCell') = true := by rw [← hcz]; exact all_oneCell_toArray (int_one zeroT)
  have H1C := Lib.hid h1c
  have HSZ : Hid ((Tryz.prog.info? 33).map (·.size) = some CZ.size) := Lib.hid (by rw [← hcz, show (stCells zeroT).toArray.size = 60 from by rw [List.size_toArray, stCells_length]]; kernel_rfl)
  obtain ⟨Wz, hWz⟩ : ∃ Wz, w2.setCells (w.heap.size + 1 + 1) 0 (stCells zeroT) = Wz := ⟨_, rfl⟩
  have hWz2 : w2.setCells (w.heap.size + 1 + 1) 0 CZ.toList = Wz := by rw [← hcz]; exact hWz
  rw [hWz] at HBZ HRES
  have HWZ := Lib.hid hWz2
  clear hrg hbz hcz h1c hWz hWz2
  go_wp2_with (first | (refine wpList_built rfl 33 [] rfl CZ [] rfl HBT.out ?_) | (refine wpList_store_mid rfl 33 (.tmp 4) (.tmp 27) rfl (w.heap.size + 1 + 1) 0 CZ rfl rfl HTH.out HSZ.out H1C.out ?_; rw [HWZ.out]))
  have hres := HRES.out
  refine bodyPost_ret (results_c2 (a := 4) (t := 33) (x := 5) (y := 6) rfl rfl hres) rfl ⟨rfl, HBZ.out⟩
set_option maxHeartbeats 4000000 in
theorem gStep_d (CZ : Array Value) (HCZ : Hid ((stCells zeroT).toArray = CZ)) (hr : rightS S = true) (h0 : n0 < 64) (h1 : n1 < 64) (hF : S 0 = 1073741824) : Calls Tryz.prog 8 #[.agg (stCells S).toArray, .agg #[.int .u8 n0, .int .u8 n1]] w fun e w' => e = .returned (.tuple #[.agg CZ, .slice none 0 0, .int .i64 5]) ∧ Below w.heap.size w w' := by
  have HR := Lib.hid (fun W => (gRight_any S W).mono fun e w' ⟨he, hb⟩ => (⟨by rw [he, hr], hb⟩ : e = Ending.returned (.bool true) ∧ Below W.heap.size W w'))
  have g0 := u8_gt h0
  have g1 := u8_gt h1
  have hne : (S 0 == 1073741824) = true := by simpa using hF
  clear hr h0 h1 hF
  go_enter Tryz.func8, Tryz.ntmps8
  go_upto_region 1 with fail
  refine named3 (F := fun W => Code.wp _ _ _ _ W) ?_
  intro w1 k0 k1 k2 hb1 hz1
  have HK0 := Lib.hid k0
  have HK1 := Lib.hid k1
  have HK2 := Lib.hid k2
  have HB1 := Lib.hid hb1
  clear k0 k1 k2 hb1 hz1
  go_upto_region 3 with (first | (refine wpList_load_mid rfl 33 (.tmp 2) rfl w.heap.size 0 rfl (stCells S) _ (Blk.range HK0.out) Tryz.underlying33 rfl (by kernel_rfl) ?_) | (go_at_call 9; refine (HR.out _).mono ?_; rintro e w2 ⟨rfl, hb2⟩; have HB2 := Lib.hid hb2; have HK12 := (HK1.out.on hb2); have i0 := HK12.cell 0; have i1 := HK12.cell 1; simp only [List.getElem?_toArray, List.getElem?_cons_zero, List.getElem?_cons_succ] at i0 i1; clear HK12))
  have HK02 := Lib.hid (HK0.out.on HB2.out)
  have e0 : w2.cell? ⟨w.heap.size, 0, none⟩ = some (.int .i64 (S 0)) := st_cell HK02.out 0 (by decide)
  clear i0 i1
  go_upto_region 4 with fail
  clear e0 hne
  have HK22 := Lib.hid (HK2.out.on HB2.out)
  have HTH : Hid (w2.there (w.heap.size + 1 + 1) 0 (stCells zeroT).toArray.size) := Lib.hid (by rw [show (stCells zeroT).toArray.size = 60 from by rw [List.size_toArray, stCells_length]]; exact Blk.there HK22.out (by decide))
  have hrg := World.rangeAt_setCells_same w2 (w.heap.size + 1 + 1) 0 (stCells zeroT) (by have := HTH.out; rwa [List.size_toArray] at this)
  have HRES := Lib.hid (run_loadVar_mid (P := Tryz.prog) _ _ _ 33 (stCells zeroT) _ hrg Tryz.underlying33 rfl (by kernel_rfl))
  have HBZ := Lib.hid (bSetCells (bTrans HB1.out HB2.out) (show w.heap.size ≤ w.heap.size + 1 + 1 by omega) 0 (stCells zeroT))
  have hcz := HCZ.out
  have hbz := built_zero
  rw [hcz] at hbz HRES HTH
  have HBT := Lib.hid hbz
  have h1c : CZ.all (·.oneCell') = true := by rw [← hcz]; exact all_oneCell_toArray (int_one zeroT)
  have H1C := Lib.hid h1c
  have HSZ : Hid ((Tryz.prog.info? 33).map (·.size) = some CZ.size) := Lib.hid (by rw [← hcz, show (stCells zeroT).toArray.size = 60 from by rw [List.size_toArray, stCells_length]]; kernel_rfl)
  obtain ⟨Wz, hWz⟩ : ∃ Wz, w2.setCells (w.heap.size + 1 + 1) 0 (stCells zeroT) = Wz := ⟨_, rfl⟩
  have hWz2 : w2.setCells (w.heap.size + 1 + 1) 0 CZ.toList = Wz := by rw [← hcz]; exact hWz
  rw [hWz] at HBZ HRES
  have HWZ := Lib.hid hWz2
  clear hrg hbz hcz h1c hWz hWz2
  go_wp2_with (first | (refine wpList_built rfl 33 [] rfl CZ [] rfl HBT.out ?_) | (refine wpList_store_mid rfl 33 (.tmp 4) (.tmp 32) rfl (w.heap.size + 1 + 1) 0 CZ rfl rfl HTH.out HSZ.out H1C.out ?_; rw [HWZ.out]))
  have hres := HRES.out
  refine bodyPost_ret (results_c2 (a := 4) (t := 33) (x := 5) (y := 6) rfl rfl hres) rfl ⟨rfl, HBZ.out⟩
end
/-- What a step answers: the error. -/
def stepE (S : Nat → Int) (n0 n1 : Nat) : Int := if rightS S = false ∨ 64 ≤ n0 ∨ 64 ≤ n1 then 1 else if S 0 = 1073741824 then 5 else 0
theorem gStep_no {S : Nat → Int} {n0 n1 : Nat} {w : World} (h : stepE S n0 n1 ≠ 0) : Calls Tryz.prog 8 #[.agg (stCells S).toArray, .agg #[.int .u8 n0, .int .u8 n1]] w fun e w' => e = .returned (.tuple #[.agg (stCells zeroT).toArray, .slice none 0 0, .int .i64 (stepE S n0 n1)]) ∧ Below w.heap.size w w' := by
  unfold stepE at h ⊢
  cases hr : rightS S
  · rw [if_pos (.inl rfl)]
    exact gStep_a _ (Lib.hid rfl) hr
  · by_cases h0 : 64 ≤ n0
    · rw [if_pos (.inr (.inl h0))]
      exact gStep_b _ (Lib.hid rfl) hr h0
    · by_cases h1 : 64 ≤ n1
      · rw [if_pos (.inr (.inr h1))]
        exact gStep_c _ (Lib.hid rfl) hr (by omega) h1
      · have hn : ¬ (true = false ∨ 64 ≤ n0 ∨ 64 ≤ n1) := by simp; omega
        rw [hr] at h
        rw [if_neg hn] at h ⊢
        by_cases hF : S 0 = 1073741824
        · rw [if_pos hF]
          exact gStep_d _ (Lib.hid rfl) hr (by omega) (by omega) hF
        · rw [if_neg hF] at h
          exact absurd rfl h
end Go.Proofs.YtnaclkaapicelaaGreat

namespace Go.Proofs.YtnaclkaapicelaaGreat
open Go.RowKit
set_option maxRecDepth 100000
theorem begin_ok {seed : Int} (h : U32 seed) : StOk (beginS seed) := by
  have hp0 : ∀ j, j < 10 → getP (beginS seed) 0 j = freshP 0 j := fun j hj => by
    unfold beginS getP
    rw [upd_other _ _ _ _ (by omega), putP_other _ _ _ _ (by omega)]
    exact putP_at _ 0 _ j hj
  have hp1 : ∀ j, j < 10 → getP (beginS seed) 1 j = freshP 1 j := fun j hj => by
    unfold beginS getP
    rw [upd_other _ _ _ _ (by omega)]
    exact putP_at _ 1 _ j hj
  have s0 : beginS seed 13 = 0 := hp0 9 (by decide)
  have s1 : beginS seed 23 = 0 := hp1 9 (by decide)
  refine ⟨⟨two_cases ((fresh_m 0).congr hp0) ((fresh_m 1).congr hp1), two_cases (.inl ?_) (.inl ?_), fun k hk => zero_m.congr fun j hj => ?_, ?_, ?_, ?_, ?_⟩, two_cases ?_ ?_⟩
  · show beginS seed 13 ≤ 2; rw [s0]; decide
  · show beginS seed 23 ≤ 2; rw [s1]; decide
  · unfold getS beginS
    rw [upd_other _ _ _ _ (by omega), putP_other _ _ _ _ (by omega), putP_other _ _ _ _ (by omega), upd_other _ _ _ _ (by omega)]; rfl
  · exact h
  · exact ⟨Int.le_refl _, by show (0 : Int) ≤ _; decide⟩
  · exact ⟨Int.le_refl _, by show (0 : Int) ≤ _; decide⟩
  · show 1 ≤ (600 : Int) ∧ (600 : Int) ≤ 600; decide
  · show beginS seed 13 ≤ 2; rw [s0]; decide
  · show beginS seed 23 ≤ 2; rw [s1]; decide
set_option maxHeartbeats 1000000 in
theorem gBegin_any (seed : Int) (w : World) : Calls Tryz.prog 11 #[.int .u32 seed] w fun e w' => e = .returned (.agg (stCells (beginS seed)).toArray) ∧ Below w.heap.size w w' := by
  obtain ⟨CZ, hcz⟩ : ∃ CZ : Array Value, (stCells (beginS seed)).toArray = CZ := ⟨_, rfl⟩
  have hbz := built_begin seed
  rw [hcz] at hbz ⊢
  obtain ⟨CB, hcb⟩ : ∃ CB : Array Value, freshBoth.toArray = CB := ⟨_, rfl⟩
  have hbb := built_both
  rw [hcb] at hbz hbb
  have HBZ := Lib.hid hbz
  have HBB := Lib.hid hbb
  have hsz : CZ.size = 60 := by rw [← hcz, List.size_toArray, stCells_length]
  have H1C : Hid (CZ.all (·.oneCell') = true) := Lib.hid (by rw [← hcz]; exact all_oneCell_toArray (int_one _))
  have HSZ : Hid ((Tryz.prog.info? 33).map (·.size) = some CZ.size) := Lib.hid (by rw [hsz]; kernel_rfl)
  have hcl : CZ.toList.length = 60 := by rw [← hsz]; simp
  have HSI := Lib.hid hsz
  have HCL := Lib.hid hcl
  clear hbz hbb hcz hcb hsz hcl
  go_enter Tryz.func11, Tryz.ntmps11
  go_upto_region 1 with fail
  refine named1 (F := fun W => Code.wp _ _ _ _ W) ?_
  intro w1 k0 hb1 hz1
  have hl1 := k0.lt
  have HK0 := Lib.hid k0
  have HB1 := Lib.hid hb1
  clear k0 hb1 hz1
  go_wp2_with fail
  refine (gfresh_0 _).mono ?_
  rintro e w2 ⟨rfl, k2⟩
  have HB2 := Lib.hid (bTrans HB1.out k2)
  have HK2 := Lib.hid (HK0.out.on k2)
  clear k2
  go_wp2_with fail
  refine (gfresh_1 _).mono ?_
  rintro e w3 ⟨rfl, k3⟩
  have HB3 := Lib.hid (bTrans HB2.out k3)
  have hk3 := HK2.out.on k3
  have HTH : Hid (w3.there w.heap.size 0 CZ.size) := Lib.hid (by rw [HSI.out]; exact Blk.there hk3 (by decide))
  have hrg := World.rangeAt_setCells_same w3 w.heap.size 0 CZ.toList (by rw [HCL.out, ← HSI.out]; exact HTH.out)
  have HRES := Lib.hid (run_loadVar_mid (P := Tryz.prog) _ _ _ 33 CZ.toList _ hrg Tryz.underlying33 rfl (by rw [HCL.out]; kernel_rfl))
  have HBW := Lib.hid (bSetCells HB3.out (Nat.le_refl _) 0 CZ.toList)
  obtain ⟨wz, hwz⟩ : ∃ wz, w3.setCells w.heap.size 0 CZ.toList = wz := ⟨_, rfl⟩
  rw [hwz] at HRES HBW
  have HWZ := Lib.hid hwz
  clear k3 hk3 hrg hwz
  go_wp2_with (first
    | (refine wpList_built rfl 28 [(0, .tmp 4), (1, .tmp 5)] rfl CB _ rfl HBB.out ?_)
    | (refine wpList_built rfl 33 [(1, .tmp 3), (3, .const (.int .i64 600)), (4, .tmp 6)] rfl CZ _ rfl HBZ.out ?_)
    | (refine wpList_store_mid rfl 33 (.tmp 2) (.tmp 7) rfl w.heap.size 0 CZ rfl rfl HTH.out HSZ.out H1C.out ?_; rw [HWZ.out]))
  have hres := HRES.out
  refine bodyPost_ret (results_c0 (a := 2) (t := 33) rfl rfl hres) rfl ⟨rfl, HBW.out⟩
end Go.Proofs.YtnaclkaapicelaaGreat

namespace Go.Proofs.YtnaclkaapicelaaGreat
open Go.RowKit
set_option maxRecDepth 100000
section
variable {F : Int} {L : List Ev} {S : Nat → Int}
end
/-- A new variable's block, told ahead. -/
def newTold (w : World) (T : TypeId) (cs : Array Value) : Told := ⟨fun v => ∃ g, v = .pointer (some ⟨g, 0, none⟩), fun v W => ∀ g, v = .pointer (some ⟨g, 0, none⟩) → w.heap.size ≤ g ∧ Blk W g T cs⟩
theorem newTold_st {w : World} {T : TypeId} {cs : Array Value} : ∀ v W U, (newTold w T cs).R v W → Grown W U → (newTold w T cs).R v U := fun _ _ _ h k g hg => ⟨(h g hg).1, (h g hg).2.on k⟩
theorem newTold_makes {P : Program} {w : World} {a : Act} {o : Oper} {T : TypeId} {z : Value} {cs : Array Value} (ho : o.op = .alloc T) (hz : ∀ W, (zeroValue T).run P W = .ok z W) (hc : z.cells = cs) : Makes P w o (newTold w T cs).S (newTold w T cs).R a := fun W hW => by
  have hr : (execOp a.eval o).run P W = .ok (.value (.pointer (some ⟨W.heap.size, 0, none⟩))) (W.alloc (.cells cs T)) := by
    unfold execOp
    simp only [ho, Instr.alloc, Sem.run_bind, hz, Result.andThen_ok, newVar, newRow, newObj, hc]
    rfl
  unfold Oper.goes
  rw [hr]
  refine ⟨⟨⟨_, rfl⟩, fun g hg => ?_⟩, bAlloc (Below.refl _ _) _⟩
  simp only [Value.pointer.injEq, Option.some.injEq, Addr.mk.injEq, and_true] at hg
  subst hg
  exact ⟨Below.size hW, Blk.new _ _ _⟩
theorem zero_state (W : World) : (zeroValue 33).run Tryz.prog W = .ok (.agg (stCells zeroT).toArray) W := by kernel_rfl
end Go.Proofs.YtnaclkaapicelaaGreat

namespace Go.Proofs.YtnaclkaapicelaaGreat
open Go.RowKit
theorem PageOk.tell {F : Int} {L : List Ev} (h : PageOk F L) (em kd ga pr ln x : Int) (hF : 0 ≤ F ∧ F ≤ 1073741824) (hc : cntE L em kd ≤ 15) (h1 : 0 ≤ em ∧ em ≤ 2) (h2 : 1 ≤ kd ∧ kd ≤ 9) (h4 : 0 ≤ ga ∧ ga ≤ 32768) (h5 : 0 ≤ pr ∧ pr ≤ 15) (h6 : 0 ≤ ln ∧ ln ≤ 600) : PageOk F (addE F L (evT em kd kd ga pr ln x)) := by
  refine h.add _ (evOk_ord (evT_ok F _ _ _ _ _ _ _ hF h1 h2 (by omega) h4 h5 h6 0 (by decide)) ⟨by omega, ?_⟩)
  show ((cntE L em kd : Nat) : Int) ≤ 15
  omega
/-- A page that may be, of so many events at most. -/
structure PO (F : Int) (n : Nat) (L : List Ev) : Prop where
  ok : PageOk F L
  len : L.length ≤ n
theorem PO.more {F : Int} {n m : Nat} {L : List Ev} (h : PO F n L) (k : n ≤ m) : PO F m L := ⟨h.ok, Nat.le_trans h.len k⟩
theorem PO.tell {F : Int} {n : Nat} {L : List Ev} (h : PO F n L) (hF : 0 ≤ F ∧ F ≤ 1073741824) (hn : n ≤ 15) (em kd ga pr ln x : Int) (h1 : 0 ≤ em ∧ em ≤ 2) (h2 : 1 ≤ kd ∧ kd ≤ 9) (h4 : 0 ≤ ga ∧ ga ≤ 32768) (h5 : 0 ≤ pr ∧ pr ≤ 15) (h6 : 0 ≤ ln ∧ ln ≤ 600) : PO F (n + 1) (addE F L (evT em kd kd ga pr ln x)) :=
  ⟨h.ok.tell em kd ga pr ln x hF (Nat.le_trans (cntE_le _ _ _) (Nat.le_trans h.len hn)) h1 h2 h4 h5 h6, by rw [addE_length]; have := h.len; omega⟩
section
variable {F : Int} {S : Nat → Int} {L : List Ev} {i : Nat}
theorem em_ok (hi : i < 2) : 0 ≤ (i : Int) + 1 ∧ (i : Int) + 1 ≤ 2 := by omega
theorem PO.fire (h : PO F 13 L) (hF : 0 ≤ F ∧ F ≤ 1073741824) (hi : i < 2) : PO F 14 (fireS i F (S, L)).2 := by
  unfold fireS
  dsimp only
  split
  · exact h.more (by decide)
  · split
    · exact h.tell hF (by decide) _ 1 16384 5 0 _ (em_ok hi) (by decide) (by decide) (by decide) (by decide)
    · exact h.more (by decide)
theorem PO.play (h : PO F 10 L) (hF : 0 ≤ F ∧ F ≤ 1073741824) (hi : i < 2) (n : Nat) : PO F 14 (playS i n F (S, L)).2 := by
  have h1 : ∀ q, PO F 11 (lThrust i q n F L) := fun q => by
    unfold lThrust
    split
    · exact h.tell hF (by decide) _ 8 4096 1 8 _ (em_ok hi) (by decide) (by decide) (by decide) (by decide)
    · exact h.more (by decide)
  have h2 : ∀ p, PO F 12 (steerL i p n F L) := fun p => by
    unfold steerL lDash
    split
    · exact (h1 _).tell hF (by decide) _ 9 8192 4 0 _ (em_ok hi) (by decide) (by decide) (by decide) (by decide)
    · exact (h1 _).more (by decide)
  have h3 : ∀ p q, PO F 13 (lMove i q F (steerL i p n F L)) := fun p q => by
    unfold lMove
    split
    · exact (h2 _).more (by decide)
    · exact (h2 _).tell hF (by decide) _ 3 8192 3 0 _ (em_ok hi) (by decide) (by decide) (by decide) (by decide)
  unfold playS
  dsimp only
  split
  · exact h.more (by decide)
  · split
    · exact (h.tell hF (by decide) _ 6 16384 9 0 _ (em_ok hi) (by decide) (by decide) (by decide) (by decide)).more (by decide)
    · split
      · exact (h3 _ _).fire hF hi
      · exact (h3 _ _).more (by decide)
theorem PageOk.clash (h : PageOk F L) (hF : 0 ≤ F ∧ F ≤ 1073741824) (hL : L.length ≤ 15) : PageOk F (clashS F (S, L)).2 := by
  unfold clashS
  split
  · exact h.tell 0 4 16384 6 0 0 hF (Nat.le_trans (cntE_le _ _ _) hL) (by decide) (by decide) (by decide) (by decide) (by decide)
  · exact h
theorem PageOk.hit (h : PageOk F L) (hF : 0 ≤ F ∧ F ≤ 1073741824) (hi : i < 2) {a b : Nat} (hev : EvN L a b) (hb : b ≤ 14) : PageOk F (hitS i F (S, L)).2 := by
  have h1 : ∀ x : Int, PageOk F (addE F L (evT ((i : Int) + 1) 2 2 32768 8 0 x)) := fun x => h.tell _ 2 32768 8 0 x hF (Nat.le_trans (hev.cnt _ _ (.inl rfl)) (by omega)) (em_ok hi) (by decide) (by decide) (by decide) (by decide)
  have hev2 : ∀ x : Int, EvN (addE F L (evT ((i : Int) + 1) 2 2 32768 8 0 x)) (a + 1) (b + 1) := fun x => hev.hit F _
  unfold hitS
  dsimp only
  split
  · exact h1 _
  · exact (h1 _).tell _ 5 32768 10 0 _ hF (Nat.le_trans ((hev2 _).cnt _ _ (.inr rfl)) (by omega)) (em_ok hi) (by decide) (by decide) (by decide) (by decide)
theorem otherOf_lt (o : Int) : otherOf o < 2 := by unfold otherOf; split <;> decide
theorem PageOk.fly (h : PageOk F L) (hF : 0 ≤ F ∧ F ≤ 1073741824) {a b : Nat} (hev : EvN L a b) (hb : b ≤ 14) (k : Nat) : PageOk F (flyS k F (S, L)).2 := by
  have hT : PageOk F (flyT k F (S, L)).2.2 := by
    unfold flyT
    dsimp only
    split
    · exact h
    · split
      · exact h
      · split
        · exact h.hit hF (otherOf_lt _) hev hb
        · exact h
  unfold flyS
  split
  · exact h
  · split
    · exact hT
    · exact hT
end
section
variable {n0 n1 : Nat} {S : Nat → Int}
theorem stg1_page (hF : 0 ≤ S 0 ∧ S 0 ≤ 1073741824) : PageOk (S 0) (stg1 n0 S).2 := (PO.play (S := S) (i := 0) ⟨PageOk.nil _, by decide⟩ hF (by decide) n0).ok
theorem stg2_page (h : StOk S) : PageOk (S 0) (stg2 n0 n1 S).2 :=
  (PO.play (S := (stg1 n0 S).1) (i := 1) (L := (stg1 n0 S).2) ⟨stg1_page h.m.fr, by have := (stg1_ok n0 h).2.1.len; omega⟩ h.m.fr (by decide) n1).ok
theorem stg3_page (h : StOk S) : PageOk (S 0) (stg3 n0 n1 S).2 :=
  PageOk.clash (S := (stg2 n0 n1 S).1) (L := (stg2 n0 n1 S).2) (stg2_page h) h.m.fr (by have := (stg2_ok n0 n1 h).2.1.len; omega)
theorem stg4_page (h : StOk S) : ∀ k, k ≤ 6 → PageOk (S 0) (stg4 n0 n1 S k).2
  | 0, _ => stg3_page h
  | k + 1, hk => PageOk.fly (S := (stg4 n0 n1 S k).1) (L := (stg4 n0 n1 S k).2) (stg4_page h k (by omega)) h.m.fr (stg4_ok n0 n1 h k (by omega)).2.1 (by omega) k
end
end Go.Proofs.YtnaclkaapicelaaGreat

namespace Go.Proofs.YtnaclkaapicelaaGreat
open Go.RowKit
set_option maxRecDepth 100000
set_option linter.unusedSimpArgs false
set_option maxHeartbeats 2000000 in
theorem r12Fresh_0 (w : World) : Calls Tryz.prog 36 #[.int .i64 0] w fun e w' => e = .returned (.agg #[.int .i32 (-2097152), .int .i32 0, .int .i32 0, .int .i32 0, .int .i64 0, .int .i64 3, .int .i64 0, .int .i64 0, .int .i64 0, .int .i64 0]) ∧ Below w.heap.size w w' := by
  have HV : Hid (∀ W, Calls Tryz.prog 69 #[.int .i64 (-32), .int .i64 0] W fun e w' => e = .returned (.agg #[.int .i32 (-2097152), .int .i32 0]) ∧ Below W.heap.size W w') := Lib.hid (fun W => r12Vec_any (-32) 0 (by decide) (by decide) W)
  obtain ⟨CZ, hcz⟩ : ∃ CZ : Array Value, #[.int .i32 (-2097152), .int .i32 0, .int .i32 0, .int .i32 0, .int .i64 0, .int .i64 3, .int .i64 0, .int .i64 0, .int .i64 0, .int .i64 0] = CZ := ⟨_, rfl⟩
  have hbz : Tryz.prog.built 27 [(0, .agg #[.int .i32 (-2097152), .int .i32 0]), (3, .int .i64 3)] = some #[.int .i32 (-2097152), .int .i32 0, .int .i32 0, .int .i32 0, .int .i64 0, .int .i64 3, .int .i64 0, .int .i64 0, .int .i64 0, .int .i64 0] := by kernel_rfl
  have H1C : Hid (CZ.all (·.oneCell') = true) := Lib.hid (by rw [← hcz]; kernel_rfl)
  have HSI : Hid (CZ.size = 10) := Lib.hid (by rw [← hcz]; rfl)
  rw [hcz] at hbz ⊢
  have HBZ := Lib.hid hbz
  have HSZ : Hid ((Tryz.prog.info? 27).map (·.size) = some CZ.size) := Lib.hid (by rw [HSI.out]; kernel_rfl)
  have HCL : Hid (CZ.toList.length = 10) := Lib.hid (by rw [Array.length_toList]; exact HSI.out)
  clear hbz hcz
  go_enter Tryz.func36, Tryz.ntmps36
  go_upto_region 1 with fail
  refine named1 (F := fun W => Code.wp _ _ _ _ W) ?_
  intro w1 k0 hb1 hz1
  have HK0 := Lib.hid k0
  have HB1 := Lib.hid hb1
  clear k0 hb1 hz1
  go_wp2_with fail
  refine (HV.out _).mono ?_
  rintro e w2 ⟨rfl, k1⟩
  have hk := HK0.out.on k1
  have hb := bTrans HB1.out k1
  have HTH : Hid (w2.there w.heap.size 0 CZ.size) := Lib.hid (by rw [HSI.out]; exact Blk.there hk (by show 0 + 10 ≤ 10; decide))
  have hrg := World.rangeAt_setCells_same w2 w.heap.size 0 CZ.toList (by rw [HCL.out, ← HSI.out]; exact HTH.out)
  have HRES := Lib.hid (run_loadVar_mid (P := Tryz.prog) _ _ _ 27 CZ.toList _ hrg Tryz.underlying27 rfl (by rw [HCL.out]; kernel_rfl))
  have HBW := Lib.hid (bSetCells hb (Nat.le_refl _) 0 CZ.toList)
  obtain ⟨wz, hwz⟩ : ∃ wz, w2.setCells w.heap.size 0 CZ.toList = wz := ⟨_, rfl⟩
  rw [hwz] at HRES HBW
  have HWZ := Lib.hid hwz
  clear k1 hk hb hrg hwz
  go_wp2_with (first
    | (refine wpList_built rfl 27 [(0, .tmp 5), (3, .const (.int .i64 3))] rfl CZ _ rfl HBZ.out ?_)
    | (refine wpList_store_mid rfl 27 (.tmp 2) (.tmp 6) rfl w.heap.size 0 CZ rfl rfl HTH.out HSZ.out H1C.out ?_; rw [HWZ.out]))
  have hres := HRES.out
  refine bodyPost_ret (results_c0 (a := 2) (t := 27) rfl rfl hres) rfl ⟨rfl, HBW.out⟩
set_option maxHeartbeats 2000000 in
theorem r12Fresh_1 (w : World) : Calls Tryz.prog 36 #[.int .i64 1] w fun e w' => e = .returned (.agg #[.int .i32 2097152, .int .i32 0, .int .i32 0, .int .i32 0, .int .i64 32768, .int .i64 3, .int .i64 0, .int .i64 0, .int .i64 0, .int .i64 0]) ∧ Below w.heap.size w w' := by
  have HV : Hid (∀ W, Calls Tryz.prog 69 #[.int .i64 (32), .int .i64 0] W fun e w' => e = .returned (.agg #[.int .i32 2097152, .int .i32 0]) ∧ Below W.heap.size W w') := Lib.hid (fun W => r12Vec_any (32) 0 (by decide) (by decide) W)
  obtain ⟨CZ, hcz⟩ : ∃ CZ : Array Value, #[.int .i32 2097152, .int .i32 0, .int .i32 0, .int .i32 0, .int .i64 32768, .int .i64 3, .int .i64 0, .int .i64 0, .int .i64 0, .int .i64 0] = CZ := ⟨_, rfl⟩
  have hbz : Tryz.prog.built 27 [(0, .agg #[.int .i32 2097152, .int .i32 0]), (2, .int .i64 32768), (3, .int .i64 3)] = some #[.int .i32 2097152, .int .i32 0, .int .i32 0, .int .i32 0, .int .i64 32768, .int .i64 3, .int .i64 0, .int .i64 0, .int .i64 0, .int .i64 0] := by kernel_rfl
  have H1C : Hid (CZ.all (·.oneCell') = true) := Lib.hid (by rw [← hcz]; kernel_rfl)
  have HSI : Hid (CZ.size = 10) := Lib.hid (by rw [← hcz]; rfl)
  rw [hcz] at hbz ⊢
  have HBZ := Lib.hid hbz
  have HSZ : Hid ((Tryz.prog.info? 27).map (·.size) = some CZ.size) := Lib.hid (by rw [HSI.out]; kernel_rfl)
  have HCL : Hid (CZ.toList.length = 10) := Lib.hid (by rw [Array.length_toList]; exact HSI.out)
  clear hbz hcz
  go_enter Tryz.func36, Tryz.ntmps36
  go_upto_region 1 with fail
  refine named1 (F := fun W => Code.wp _ _ _ _ W) ?_
  intro w1 k0 hb1 hz1
  have HK0 := Lib.hid k0
  have HB1 := Lib.hid hb1
  clear k0 hb1 hz1
  go_wp2_with fail
  refine (HV.out _).mono ?_
  rintro e w2 ⟨rfl, k1⟩
  have hk := HK0.out.on k1
  have hb := bTrans HB1.out k1
  have HTH : Hid (w2.there w.heap.size 0 CZ.size) := Lib.hid (by rw [HSI.out]; exact Blk.there hk (by show 0 + 10 ≤ 10; decide))
  have hrg := World.rangeAt_setCells_same w2 w.heap.size 0 CZ.toList (by rw [HCL.out, ← HSI.out]; exact HTH.out)
  have HRES := Lib.hid (run_loadVar_mid (P := Tryz.prog) _ _ _ 27 CZ.toList _ hrg Tryz.underlying27 rfl (by rw [HCL.out]; kernel_rfl))
  have HBW := Lib.hid (bSetCells hb (Nat.le_refl _) 0 CZ.toList)
  obtain ⟨wz, hwz⟩ : ∃ wz, w2.setCells w.heap.size 0 CZ.toList = wz := ⟨_, rfl⟩
  rw [hwz] at HRES HBW
  have HWZ := Lib.hid hwz
  clear k1 hk hb hrg hwz
  go_wp2_with (first
    | (refine wpList_built rfl 27 [(0, .tmp 7), (2, .const (.int .i64 32768)), (3, .const (.int .i64 3))] rfl CZ _ rfl HBZ.out ?_)
    | (refine wpList_store_mid rfl 27 (.tmp 2) (.tmp 8) rfl w.heap.size 0 CZ rfl rfl HTH.out HSZ.out H1C.out ?_; rw [HWZ.out]))
  have hres := HRES.out
  refine bodyPost_ret (results_c0 (a := 2) (t := 27) rfl rfl hres) rfl ⟨rfl, HBW.out⟩
set_option maxHeartbeats 1000000 in
theorem r12Begin_any (seed : Int) (w : World) : Calls Tryz.prog 12 #[.int .u32 seed] w fun e w' => e = .returned (.agg (stCells (beginS seed)).toArray) ∧ Below w.heap.size w w' := by
  obtain ⟨CZ, hcz⟩ : ∃ CZ : Array Value, (stCells (beginS seed)).toArray = CZ := ⟨_, rfl⟩
  have hbz := built_begin seed
  rw [hcz] at hbz ⊢
  obtain ⟨CB, hcb⟩ : ∃ CB : Array Value, freshBoth.toArray = CB := ⟨_, rfl⟩
  have hbb := built_both
  rw [hcb] at hbz hbb
  have HBZ := Lib.hid hbz
  have HBB := Lib.hid hbb
  have hsz : CZ.size = 60 := by rw [← hcz, List.size_toArray, stCells_length]
  have H1C : Hid (CZ.all (·.oneCell') = true) := Lib.hid (by rw [← hcz]; exact all_oneCell_toArray (int_one _))
  have HSZ : Hid ((Tryz.prog.info? 33).map (·.size) = some CZ.size) := Lib.hid (by rw [hsz]; kernel_rfl)
  have hcl : CZ.toList.length = 60 := by rw [← hsz]; simp
  have HSI := Lib.hid hsz
  have HCL := Lib.hid hcl
  clear hbz hbb hcz hcb hsz hcl
  go_enter Tryz.func12, Tryz.ntmps12
  go_upto_region 1 with fail
  refine named1 (F := fun W => Code.wp _ _ _ _ W) ?_
  intro w1 k0 hb1 hz1
  have hl1 := k0.lt
  have HK0 := Lib.hid k0
  have HB1 := Lib.hid hb1
  clear k0 hb1 hz1
  go_wp2_with fail
  refine (r12Fresh_0 _).mono ?_
  rintro e w2 ⟨rfl, k2⟩
  have HB2 := Lib.hid (bTrans HB1.out k2)
  have HK2 := Lib.hid (HK0.out.on k2)
  clear k2
  go_wp2_with fail
  refine (r12Fresh_1 _).mono ?_
  rintro e w3 ⟨rfl, k3⟩
  have HB3 := Lib.hid (bTrans HB2.out k3)
  have hk3 := HK2.out.on k3
  have HTH : Hid (w3.there w.heap.size 0 CZ.size) := Lib.hid (by rw [HSI.out]; exact Blk.there hk3 (by decide))
  have hrg := World.rangeAt_setCells_same w3 w.heap.size 0 CZ.toList (by rw [HCL.out, ← HSI.out]; exact HTH.out)
  have HRES := Lib.hid (run_loadVar_mid (P := Tryz.prog) _ _ _ 33 CZ.toList _ hrg Tryz.underlying33 rfl (by rw [HCL.out]; kernel_rfl))
  have HBW := Lib.hid (bSetCells HB3.out (Nat.le_refl _) 0 CZ.toList)
  obtain ⟨wz, hwz⟩ : ∃ wz, w3.setCells w.heap.size 0 CZ.toList = wz := ⟨_, rfl⟩
  rw [hwz] at HRES HBW
  have HWZ := Lib.hid hwz
  clear k3 hk3 hrg hwz
  go_wp2_with (first
    | (refine wpList_built rfl 28 [(0, .tmp 4), (1, .tmp 5)] rfl CB _ rfl HBB.out ?_)
    | (refine wpList_built rfl 33 [(1, .tmp 3), (3, .const (.int .i64 600)), (4, .tmp 6)] rfl CZ _ rfl HBZ.out ?_)
    | (refine wpList_store_mid rfl 33 (.tmp 2) (.tmp 7) rfl w.heap.size 0 CZ rfl rfl HTH.out HSZ.out H1C.out ?_; rw [HWZ.out]))
  have hres := HRES.out
  refine bodyPost_ret (results_c0 (a := 2) (t := 33) rfl rfl hres) rfl ⟨rfl, HBW.out⟩
end Go.Proofs.YtnaclkaapicelaaGreat
