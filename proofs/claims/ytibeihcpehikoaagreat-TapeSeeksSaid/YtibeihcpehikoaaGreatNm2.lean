/-
  The document's player, walked: one that moves.
-/
import Derived.Test.YtibeihcpehikoaaGreatNm1
namespace Go.Proofs.YtibeihcpehikoaaGreat
open Go.RowKit
set_option maxRecDepth 100000
set_option maxHeartbeats 16000000
set_option linter.unusedSimpArgs false
section
def pCl (p : Nat → Int) : Nat → Int := upd p 6 (max (p 6 - 1) 0)
theorem pCl_zero {p : Nat → Int} (h : p 6 = 0) : pCl p = p := by
 funext j
 unfold pCl upd
 split
 ·rename_i e; rw [e, h]; rfl
 ·rfl
theorem pCl_pos {p : Nat → Int} (h : 0 < p 6) : pCl p = upd p 6 (p 6 - 1) := by
 unfold pCl; congr 1; omega
theorem pCool_zero {p : Nat → Int} (h : p 7 = 0) : pCool p = pCl p := by
 funext j
 unfold pCool pCl upd
 by_cases h7 : j = 7
 ·subst h7; simp [h]; decide
 ·simp [h7]
theorem pCool_pos {p : Nat → Int} (h : 0 < p 7) : pCool p = upd (pCl p) 7 (p 7 - 1) := by
 unfold pCool pCl; congr 1; omega
def pLf (p : Nat → Int) (n : Nat) : Nat → Int := upd p 4 ((p 4 - (if bit n 1 then 1024 else 0)) % 65536)
theorem upd_id (p : Nat → Int) (j : Nat) (v : Int) (h : v = p j) : upd p j v = p := by
 funext k
 unfold upd
 split
 ·rename_i e; rw [e, h]
 ·rfl
theorem pLf_no {p : Nat → Int} {n : Nat} (h : bit n 1 = false) (h4 : 0 ≤ p 4 ∧ p 4 ≤ 65535) : pLf p n = p := by
 unfold pLf
 rw [h]
 exact upd_id p 4 _ (by simp; omega)
theorem pLf_yes {p : Nat → Int} {n : Nat} (h : bit n 1 = true) : pLf p n = upd p 4 ((p 4 + 65536 - 1024) % 65536) := by
 unfold pLf
 rw [h]
 congr 1
 simp only [if_true]
 omega
theorem pLf_bd (p : Nat → Int) (n : Nat) : 0 ≤ pLf p n 4 ∧ pLf p n 4 ≤ 65535 := by unfold pLf; rw [upd_same]; omega
theorem pFace_no {p : Nat → Int} {n : Nat} (h : bit n 2 = false) : pFace p n = pLf p n := by
 rw [pFace_eq]
 unfold pLf
 rw [h]
 congr 1
 simp
theorem pFace_yes {p : Nat → Int} {n : Nat} (h : bit n 2 = true) : pFace p n = upd (pLf p n) 4 ((pLf p n 4 + 1024) % 65536) := by
 rw [pFace_eq]
 funext j
 unfold pLf upd
 by_cases h4 : j = 4
 ·subst h4
  simp [h]
 ·simp [h4]
theorem built_shot (a b c d e f : Int) : Tryz.prog.built 38 [(0, .agg #[.int .i32 a, .int .i32 b]), (1, .agg #[.int .i32 c, .int .i32 d]), (2, .int .i64 e), (3, .int .i64 f)] = some #[.int .i32 a, .int .i32 b, .int .i32 c, .int .i32 d, .int .i64 e, .int .i64 f] := by kernel_rfl
theorem zero_vecF (W : World) : (zeroValue 33).run Tryz.prog W = .ok (.agg #[.int .i32 0, .int .i32 0]) W := by kernel_rfl
theorem wallW_nn (p v lo hi bl ab : Int) (h1 : 0 ≤ bl) (h2 : 0 ≤ ab) : 0 ≤ wallW p v lo hi bl ab := by
 unfold wallW
 split
 ·exact h1
 ·split
  ·exact h2
  ·exact Int.le_refl _
theorem wMove_nn (p : Nat → Int) : 0 ≤ wMove p := by
 unfold wMove
 have h1 := wallW_nn (p 0) (p 2) (-3932160) 3932160 1 2 (by decide) (by decide)
 have h2 := wallW_nn (p 1) (p 3) (-3932160) 3932160 4 8 (by decide) (by decide)
 omega
theorem play_main {S : Nat → Int} {i b : Nat} {F : Int} {L : List Ev} (h : getP S i 8 = 0) : playS i b F (S, L) = if bit b 16 then fireS i F (putP S i (pMove (steerP (getP S i) b)), lMove i (steerP (getP S i) b) F (steerL i (getP S i) b F L)) else (putP S i (pMove (steerP (getP S i) b)), lMove i (steerP (getP S i) b) F (steerL i (getP S i) b F L)) := by
 unfold playS
 dsimp only
 rw [if_neg (show ¬ 1 < getP S i 8 by rw [h]; decide), if_neg (show ¬ getP S i 8 = 1 by rw [h]; decide)]
def FRel (w wr : World) (base : Nat) (S p : Nat → Int) (i : Nat) (A : Option Addr) (n c : Nat) (F : Int) (L : List Ev) (b k : Nat) : Prop :=
 (PF w wr base S p A n c F L ∧ freeFrom (putP S i p) (6 - k) k = freeK (putP S i p)) ∨
 ∃ f, f < k ∧ f < 6 ∧ bit b 16 = true ∧ p 6 = 0 ∧ freeK (putP S i p) = f ∧ PF w wr base (putS S f (shotOf p i)) (upd p 6 8) A n c F (addE F L (evT ((i : Int) + 1) 1 1 16384 5 0 (p 0)))
theorem PF.fired {w0 w : World} {base : Nat} {S p : Nat → Int} {A : Option Addr} {n c : Nat} {F : Int} {L : List Ev} (h : PF w0 w base S p A n c F L) {k : Nat} (hk : k < 6) (x : Nat → Int) : PF w0 (w.setCells w0.heap.size (24 + k * 6) (shCells x)) base (putS S k x) p A n c F L := by
 obtain ⟨Z, hZ, hr⟩ := h.re
 exact ⟨sh_put h.st hk x, ⟨Z, hZ, hr.farC (by omega) _ _⟩, h.pl.farC (by omega) _ _, OwnL.kept (row := some w0.heap.size) h.ow (oSetCells (World.grownBy.refl w _) _ _) (.inr (Blk.apart h.st h.ow (by decide))), h.ok, h.bw, bSetCells h.bl (zL _) _ _⟩
theorem FRel.done_u {w wr : World} {base : Nat} {S p : Nat → Int} {i : Nat} {A : Option Addr} {n c : Nat} {F : Int} {L : List Ev} {b k : Nat} (_hi : i < 2) (_h : PF w wr base S p A n c F L) (hf : freeFrom (putP S i p) (6 - k) k = freeK (putP S i p)) (hc : 0 ≤ p 6) (hx : k = 6 ∨ bit b 16 = false ∨ 0 < p 6) :
  (if bit b 16 then fireS i F (putP S i p, L) else (putP S i p, L)) = (putP S i p, L) := by
 cases hb : bit b 16
 ·rfl
 ·rw [if_pos rfl]
  by_cases h6 : 0 < p 6
  ·unfold fireS
   simp only [getP_putP S i p 6 (by decide)]
   rw [if_pos h6]
  ·have h6' : p 6 = 0 := by omega
   have hk : k = 6 := by
    rcases hx with h | h | h
    ·exact h
    ·rw [hb] at h; cases h
    ·exact absurd h h6
   subst hk
   exact fireS_none h6' hf.symm
theorem FRel.done_d {S p : Nat → Int} {i : Nat} {F : Int} {L : List Ev} {b f : Nat} (hi : i < 2) (hf6 : f < 6) (hb : bit b 16 = true) (h6 : p 6 = 0) (hf : freeK (putP S i p) = f) :
  (if bit b 16 then fireS i F (putP S i p, L) else (putP S i p, L)) = (putP (putS S f (shotOf p i)) i (upd p 6 8), addE F L (evT ((i : Int) + 1) 1 1 16384 5 0 (p 0))) := by
 rw [if_pos hb]
 exact fireS_some hi hf6 h6 hf
section
variable {base : Nat} {S : Nat → Int} {A : Option Addr} {n c i b : Nat} {F : Int} {L : List Ev} {w : World}
theorem r12Player_main (hi : i < 2) (ho : OwnL w base 62 9 (.slice A n c) Ev.cells L) (hbw : base ≤ w.heap.size) (hp : PageOk F L) (hS : S 0 = F) (hF : 0 ≤ F ∧ F ≤ 1073741824) (hL : L.length ≤ 10) (h8 : getP S i 8 = 0) (hP : PlB (getP S i)) (hb : b < 64) (T : Nat → Int) (M : List Ev)
  (hTM : playS i b F (S, L) = (T, M)) :
  Calls Tryz.prog 148 #[.agg (stCells S).toArray, .slice A n c, .int .i64 i, .int .i64 b] w fun e w' => ∃ A' n' c', e = .returned (.tuple #[.agg (stCells T).toArray, .slice A' n' c']) ∧ OwnL w' base 62 9 (.slice A' n' c') Ev.cells M ∧ Below w.heap.size w w' := by
 have HOW := zz ho
 have HPO := zz hp
 have hi2 : (i : Int) < 2 := by omega
 have HS := zz hS
 have HH8 := zz h8
 have HPB := zz hP
 have HTM := zz hTM
 have hb0 : (0 : Int) ≤ (b : Int) := by omega
 have hb64 : (b : Int) < 64 := by omega
 have HBIT := zz (bit_mod b hb)
 clear ho hp hS h8 hP hTM
 go_enter Tryz.func148, Tryz.ntmps148
 go_upto_region 1 with fail
 refine named2 (F := fun W => Code.wp _ _ _ _ W) ?_
 intro w1 k0 k1 hb1 hz1
 have HK0 := zz k0
 have HK1 := zz k1
 have HB1 := zz hb1
 have HZ1 := zz hz1
 have HT1 : Hid ((w1.alloc (.cells (plCells (fun _ => 0)).toArray 35)).there w1.heap.size 0 (plCells (getP S i)).toArray.size) := zz (there_new _ _ _ rfl)
 clear k0 k1 hb1 hz1
 go_upto_region 2 with (first | (refine wpList_load_mid rfl 35 (.tmp 21) rfl w.heap.size (4 + i * 10) rfl (plCells (getP S i)) _ (pl_range HK0.out hi) Tryz.underlying35 rfl (by kernel_rfl) ?_) | (refine wpList_store_mid rfl 35 (.tmp 10) (.tmp 22) rfl w1.heap.size 0 (plCells (getP S i)).toArray rfl rfl HT1.out (by kernel_rfl) (all_oneCell_toArray (pl_one _)) ?_))
 refine named_put (F := fun W => Code.wp _ _ _ _ W) (by rw [zK, zM, plCells_length]; rfl) ?_
 intro w2 hk2 hb2 hz2
 rw [HZ1.out] at hk2 ⊢
 rw [zJ] at hk2
 have HPF : Hid (PF w w2 base S (getP S i) A n c F L) := zz ⟨HK0.out.on hb2, ⟨_, by rfl, HK1.out.on hb2⟩, hk2, HOW.out.below (bTrans HB1.out hb2), HPO.out, hbw, bTrans HB1.out hb2⟩
 clear hk2 hb2 hz2 HK0 HK1 HB1 HZ1 HT1
 have e0 : w2.cell? ⟨w.heap.size, 0, none⟩ = some (.int .i64 F) := by rw [← HS.out]; exact st_cell HPF.out.st 0 (by decide)
 have c8 : w2.cell? ⟨w.heap.size + 1 + 1, 8, none⟩ = some (.int .i64 0) := by rw [← HH8.out]; exact HPF.out.cellp 8 (by decide) (k := .i64) rfl
 have hlt := HPF.out.lt
 obtain ⟨p, hpp⟩ : ∃ p, getP S i = p := ⟨_, rfl⟩
 rw [hpp] at HPF HPB
 have HGP := zz hpp
 clear hpp
 have c6 := HPF.out.cellp 6 (by decide) (k := .i64) rfl
 go_upto_if 76 with fail
 clear e0 c8
 go_cut [] (fun wx => PF w wx base S (pCl p) A n c F L)
 case first => as_aux_lemma =>
  have z6 := HPF.out.zero 6
  obtain ⟨b6, b6'⟩ := HPB.out.cl
  by_cases h6 : 0 < p 6
  ·have HE := zz (pCl_pos h6)
   go_wp2_with fail
   go_meet
   rw [HE.out]
   exact HPF.out.setp 6 (by decide) rfl _
  ·have HE := zz (pCl_zero (p := p) (by omega))
   have h6' : decide (0 < p 6) = false := decide_eq_false h6
   go_wp2_with fail
   go_meet
   rw [HE.out]
   exact HPF.out
 case rest => as_aux_lemma =>
 clear HPF c6
 have HPF := zz hcut
 clear hcut
 have c7 := HPF.out.cellp 7 (by decide) (k := .i64) rfl
 have hq7 : pCl p 7 = p 7 := rfl
 rw [hq7] at c7
 clear hq7
 have hlt := HPF.out.lt
 go_upto_if 83 with fail
 go_cut [] (fun wx => PF w wx base S (pCool p) A n c F L)
 case first => as_aux_lemma =>
  have z7 := HPF.out.zero 7
  obtain ⟨b7, b7'⟩ := HPB.out.wd
  by_cases h7 : 0 < p 7
  ·have HE := zz (pCool_pos h7)
   go_wp2_with fail
   go_meet
   rw [HE.out]
   exact HPF.out.setp 7 (by decide) rfl _
  ·have HE := zz (pCool_zero (p := p) (by omega))
   have h7' : decide (0 < p 7) = false := decide_eq_false h7
   go_wp2_with fail
   go_meet
   rw [HE.out]
   exact HPF.out
 case rest => as_aux_lemma =>
 clear HPF c7
 have HP1 := zz HPB.out.cool
 obtain ⟨p1, hp1⟩ : ∃ p1, pCool p = p1 := ⟨_, rfl⟩
 rw [hp1] at hcut HP1
 have E1 := zz hp1
 have HPF := zz hcut
 clear hcut hp1 HPB
 have hlt := HPF.out.lt
 have q1 := HBIT.out.1
 go_upto_if 90 with fail
 go_cut [] (fun wx => PF w wx base S (pLf p1 b) A n c F L)
 case first => as_aux_lemma =>
  have c4 := HPF.out.cellp 4 (by decide) (k := .i64) rfl
  have z4 := HPF.out.zero 4
  obtain ⟨b4, b4'⟩ := HP1.out.fc
  cases hbit : bit b 1
  ·have HE := zz (pLf_no (p := p1) hbit ⟨b4, b4'⟩)
   go_wp2_with fail
   go_meet
   rw [HE.out]
   exact HPF.out
  ·have HE := zz (pLf_yes (p := p1) hbit)
   go_wp2_with fail
   go_meet
   rw [HE.out]
   exact HPF.out.setp 4 (by decide) rfl _
 case rest => as_aux_lemma =>
 clear HPF q1
 have HPF := zz hcut
 clear hcut
 have hlt := HPF.out.lt
 have q1 := HBIT.out.2.1
 go_upto_if 100 with fail
 go_cut [] (fun wx => PF w wx base S (pFace p1 b) A n c F L)
 case first => as_aux_lemma =>
  have c4 := HPF.out.cellp 4 (by decide) (k := .i64) rfl
  have z4 := HPF.out.zero 4
  obtain ⟨b4, b4'⟩ := pLf_bd p1 b
  cases hbit : bit b 2
  ·have HE := zz (pFace_no (p := p1) hbit)
   go_wp2_with fail
   go_meet
   rw [HE.out]
   exact HPF.out
  ·have HE := zz (pFace_yes (p := p1) hbit)
   go_wp2_with fail
   go_meet
   rw [HE.out]
   exact HPF.out.setp 4 (by decide) rfl _
 case rest => as_aux_lemma =>
 clear HPF q1
 have HP3 := zz (HP1.out.face b)
 obtain ⟨p3, hp3⟩ : ∃ p3, pFace p1 b = p3 := ⟨_, rfl⟩
 rw [hp3] at hcut HP3
 have E3 := zz hp3
 have HPF := zz hcut
 clear hcut hp3 HP1
 have hlt := HPF.out.lt
 have q1 := HBIT.out.2.2.2.1
 go_upto_if 109 with fail
 go_cut [] (fun wx => PF w wx base S (pBrake p3 b) A n c F L)
 case first => as_aux_lemma =>
  have c2 := HPF.out.cellp 2 (by decide) (k := .i32) rfl
  have c3 := HPF.out.cellp 3 (by decide) (k := .i32) rfl
  cases hbit : bit b 8
  ·have HE := zz (show pBrake p3 b = p3 by unfold pBrake; rw [hbit]; rfl)
   go_wp2_with fail
   go_meet
   rw [HE.out]
   exact HPF.out
  ·have HE := zz (show pBrake p3 b = upd (upd p3 2 (fmul (p3 2) 32768)) 3 (fmul (p3 3) 32768) by unfold pBrake; rw [hbit]; rfl)
   go_wp2_with fail
   refine (r10Scale_any HP3.out.wx HP3.out.wy half_f32 _).mono ?_
   rintro e w4 ⟨rfl, k4⟩
   have h4 := HPF.out.on k4
   have q2 := h4.cellp 2 (by decide) (k := .i32) rfl
   have q3 := h4.cellp 3 (by decide) (k := .i32) rfl
   have z2 := h4.zero 2
   have z3 := h4.zero 3
   have hl4 := h4.lt
   have H4 := zz h4
   clear h4 k4
   go_wp2_with fail
   go_meet
   rw [HE.out]
   exact (H4.out.setp 2 (by decide) rfl _).setp 3 (by decide) rfl _
 case rest => as_aux_lemma =>
 clear HPF q1
 have HP4 := zz (HP3.out.brake b)
 obtain ⟨p4, hp4⟩ : ∃ p4, pBrake p3 b = p4 := ⟨_, rfl⟩
 rw [hp4] at hcut HP4
 have E4 := zz hp4
 have HPF := zz hcut
 clear hcut hp4 HP3
 have hlt := HPF.out.lt
 have q1 := HBIT.out.2.2.1
 go_upto_if 117 with fail
 go_cut [1] (fun v wx => ∃ A n c, v = .slice A n c ∧ PF w wx base S (pThrust p4 b) A n c F (lThrust i p4 b F L))
 case first => as_aux_lemma =>
  have c2 := HPF.out.cellp 2 (by decide) (k := .i32) rfl
  have c3 := HPF.out.cellp 3 (by decide) (k := .i32) rfl
  have c4 := HPF.out.cellp 4 (by decide) (k := .i64) rfl
  have HPX := HP4
  have F0 := hF.1
  cases hbit : bit b 4
  ·have HE := zz (show pThrust p4 b = p4 by unfold pThrust; rw [hbit]; rfl)
   have HEL := zz (show lThrust i p4 b F L = L by unfold lThrust; rw [hbit]; rfl)
   go_wp2_with fail
   go_meet
   rw [HE.out, HEL.out]
   exact ⟨A, n, c, rfl, HPF.out⟩
  ·have HE := zz (show pThrust p4 b = pPush p4 8192 by unfold pThrust; rw [hbit]; rfl)
   have HEL := zz (show lThrust i p4 b F L = if F % 8 == 0 then addE F L (evT ((i : Int) + 1) 8 8 4096 1 8 (p4 0)) else L by unfold lThrust; rw [hbit]; rfl)
   go_wp2_with fail
   go_region_law (first
    | (go_simp; go_at_call 213; refine (r12Way_any _ 8192 HPX.out.fc (by unfold F32; omega) _).mono ?_; rintro e w4 ⟨rfl, k4⟩; have h4 := HPF.out.drew.on k4; have q2 := h4.cellp 2 (by decide) (k := .i32) rfl; have q3 := h4.cellp 3 (by decide) (k := .i32) rfl; dsimp only)
    | (go_simp; go_at_call 212; refine (r10Plus_any HPX.out.wx HPX.out.wy (hdX_bd _ _) (hdY_bd _ _) _).mono ?_; rintro e w5 ⟨rfl, k5⟩; have h5 := h4.on k5; have r2 := h5.cellp 2 (by decide) (k := .i32) rfl; have r3 := h5.cellp 3 (by decide) (k := .i32) rfl; have z2 := h5.zero 2; have z3 := h5.zero 3; have hl5 := h5.lt; dsimp only))
   all_goals
    have h6 := (h5.setp 2 (by decide) (k := .i32) rfl (padd (p4 2) (hdX (p4 4) 8192))).setp 3 (by decide) (k := .i32) rfl (padd (p4 3) (hdY (p4 4) 8192))
    obtain ⟨w6, hw6⟩ : ∃ w6, w6 = (w5.setCell ⟨w.heap.size + 1 + 1, 2, none⟩ (.int .i32 (padd (p4 2) (hdX (p4 4) 8192)))).setCell ⟨w.heap.size + 1 + 1, 3, none⟩ (.int .i32 (padd (p4 3) (hdY (p4 4) 8192))) := ⟨_, rfl⟩
    rw [← hw6] at h6 ⊢
    have a0 := h6.cellp 0 (by decide) (k := .i32) rfl
    have hl6 := h6.lt
    have H6 := zz h6
    clear hw6 h6 h5 h4 k4 k5 r2 r3 z2 z3 q2 q3 c2 c3 c4 hl5
    cases hm : F % 8 == 0
    ·go_wp2_with fail
     go_meet
     rw [HE.out, HEL.out, hm]
     exact ⟨A, n, c, rfl, H6.out⟩
    ·go_wp2_with fail
     refine (H6.out.tell ((i : Int) + 1) 8 4096 1 8 (p4 0) hF (by omega) (em_bd hi) (by decide) (by decide) (by decide) (by decide) HP4.out.ax).mono ?_
     rintro e w7 ⟨A', c', n', rfl, h7⟩
     have H7 := zz h7
     clear h7
     go_wp2_with fail
     go_meet
     rw [HE.out, HEL.out, hm]
     exact ⟨A', n', c', rfl, H7.out⟩
 case rest => as_aux_lemma =>
 clear HPF q1
 obtain ⟨A5, n5, c5, rfl, hcut⟩ := hcut
 have HP5 := zz (HP4.out.thrust b)
 have hll : (lThrust i p4 b F L).length ≤ 11 := by
  unfold lThrust
  split
  ·rw [addE_length]; omega
  ·omega
 obtain ⟨p5, hp5⟩ : ∃ p5, pThrust p4 b = p5 := ⟨_, rfl⟩
 obtain ⟨L5, hL5⟩ : ∃ L5, lThrust i p4 b F L = L5 := ⟨_, rfl⟩
 rw [hp5, hL5] at hcut
 rw [hp5] at HP5
 rw [hL5] at hll
 have E5 := zz hp5
 have EL5 := zz hL5
 have HPF := zz hcut
 clear hcut hp5 hL5 HP4
 obtain ⟨q, hq⟩ : ∃ q, (bit b 32 && (p5 7 == 0)) = q := ⟨_, rfl⟩
 have HQ := zz hq
 clear hq
 obtain ⟨w5, hw5⟩ : ∃ w5, w5 = wc := ⟨_, rfl⟩
 rw [← hw5] at HPF ⊢
 clear hw5
 have hlt := HPF.out.lt
 have q1 := HBIT.out.2.2.2.2.2
 have c7 := HPF.out.cellp 7 (by decide) (k := .i64) rfl
 go_upto_region 26 with fail
 go_cut [144] (fun v wx => v = .bool q ∧ w5 = wx)
 case first => as_aux_lemma =>
  cases hbit : bit b 32
  ·have hq0 : q = false := by rw [← HQ.out, hbit]; rfl
   rw [hbit] at q1
   go_wp2_with fail
   go_meet
   exact ⟨by rw [hq0], rfl⟩
  ·have hq0 : (p5 7 == 0) = q := by rw [← HQ.out, hbit]; rfl
   rw [hbit] at q1
   go_wp2_with fail
   go_meet
   exact ⟨by first | rfl | rw [hq0], rfl⟩
 case rest => as_aux_lemma =>
 obtain ⟨rfl, rfl⟩ := hcut
 clear c7 q1
 have hlt := HPF.out.lt
 go_upto_if 144 with fail
 go_cut [1] (fun v wx => ∃ A n c, v = .slice A n c ∧ PF w wx base S (pDash p5 b) A n c F (lDash i p5 b F L5))
 case first => as_aux_lemma =>
  have c2 := HPF.out.cellp 2 (by decide) (k := .i32) rfl
  have c3 := HPF.out.cellp 3 (by decide) (k := .i32) rfl
  have c4 := HPF.out.cellp 4 (by decide) (k := .i64) rfl
  have HPX := HP5
  cases q
  ·have HE := zz (show pDash p5 b = p5 by unfold pDash; rw [HQ.out]; rfl)
   have HEL := zz (show lDash i p5 b F L5 = L5 by unfold lDash; rw [HQ.out]; rfl)
   go_wp2_with fail
   go_meet
   rw [HE.out, HEL.out]
   exact ⟨A5, n5, c5, rfl, HPF.out⟩
  ·have HE := zz (show pDash p5 b = upd (pPush p5 65536) 7 20 by unfold pDash; rw [HQ.out]; rfl)
   have HEL := zz (show lDash i p5 b F L5 = addE F L5 (evT ((i : Int) + 1) 9 9 8192 4 0 (p5 0)) by unfold lDash; rw [HQ.out]; rfl)
   go_wp2_with fail
   go_region_law (first
    | (go_simp; go_at_call 213; refine (r12Way_any _ 65536 HPX.out.fc (by unfold F32; omega) _).mono ?_; rintro e w4 ⟨rfl, k4⟩; have h4 := HPF.out.drew.on k4; have q2 := h4.cellp 2 (by decide) (k := .i32) rfl; have q3 := h4.cellp 3 (by decide) (k := .i32) rfl; dsimp only)
    | (go_simp; go_at_call 212; refine (r10Plus_any HPX.out.wx HPX.out.wy (hdX_bd _ _) (hdY_bd _ _) _).mono ?_; rintro e w5 ⟨rfl, k5⟩; have h5 := h4.on k5; have r2 := h5.cellp 2 (by decide) (k := .i32) rfl; have r3 := h5.cellp 3 (by decide) (k := .i32) rfl; have z2 := h5.zero 2; have z3 := h5.zero 3; have hl5 := h5.lt; dsimp only))
   all_goals
    have h6 := (h5.setp 2 (by decide) (k := .i32) rfl (padd (p5 2) (hdX (p5 4) 65536))).setp 3 (by decide) (k := .i32) rfl (padd (p5 3) (hdY (p5 4) 65536))
    obtain ⟨w6, hw6⟩ : ∃ w6, w6 = (w5.setCell ⟨w.heap.size + 1 + 1, 2, none⟩ (.int .i32 (padd (p5 2) (hdX (p5 4) 65536)))).setCell ⟨w.heap.size + 1 + 1, 3, none⟩ (.int .i32 (padd (p5 3) (hdY (p5 4) 65536))) := ⟨_, rfl⟩
    rw [← hw6] at h6 ⊢
    have a0 := h6.cellp 0 (by decide) (k := .i32) rfl
    have hl6 := h6.lt
    have H6 := zz h6
    clear hw6 h6 h5 h4 k4 k5 r2 r3 z2 z3 q2 q3 c2 c3 c4 hl5
    have c7 := H6.out.cellp 7 (by decide) (k := .i64) rfl
    have z7 := H6.out.zero 7
    have H7 := zz (H6.out.setp 7 (by decide) (k := .i64) rfl 20)
    go_wp2_with fail
    refine (H7.out.tell ((i : Int) + 1) 9 8192 4 0 (p5 0) hF (by omega) (em_bd hi) (by decide) (by decide) (by decide) (by decide) HP5.out.ax).mono ?_
    rintro e w7 ⟨A', c', n', rfl, h7⟩
    have H8 := zz h7
    clear h7
    go_wp2_with fail
    go_meet
    rw [HE.out, HEL.out]
    exact ⟨A', n', c', rfl, H8.out⟩
 case rest => as_aux_lemma =>
 obtain ⟨A6, n6, c6, rfl, hcut⟩ := hcut
 have HP6 := zz (HP5.out.dash b)
 have hl6 : (lDash i p5 b F L5).length ≤ 12 := by
  unfold lDash
  split
  ·rw [addE_length]; omega
  ·omega
 obtain ⟨p6, hp6⟩ : ∃ p6, pDash p5 b = p6 := ⟨_, rfl⟩
 obtain ⟨L6, hL6⟩ : ∃ L6, lDash i p5 b F L5 = L6 := ⟨_, rfl⟩
 rw [hp6, hL6] at hcut
 rw [hp6] at HP6
 rw [hL6] at hl6
 have E6 := zz hp6
 have EL6 := zz hL6
 clear HPF HQ
 have HPF := zz hcut
 clear hcut hp6 hL6 HP5
 have hlt := HPF.out.lt
 have c2 := HPF.out.cellp 2 (by decide) (k := .i32) rfl
 have c3 := HPF.out.cellp 3 (by decide) (k := .i32) rfl
 go_upto_region 31 with (first | (go_at_call 214; refine (r10Slow_any (m := 131072) (k := 61440) HP6.out.wx HP6.out.wy (by unfold F32; omega) _ (by unfold F32; omega)).mono ?_; rintro e w8 ⟨rfl, k8⟩; have h8 := HPF.out.on k8; have H8 := zz h8; have z2 := h8.zero 2; have z3 := h8.zero 3; have q2 := h8.cellp 2 (by decide) (k := .i32) rfl; have q3 := h8.cellp 3 (by decide) (k := .i32) rfl; have hl8 := h8.lt; clear h8 k8))
 clear z2 z3 q2 q3 c2 c3 HPF
 have HP7 := zz HP6.out.slow
 have h9 := (H8.out.setp 2 (by decide) (k := .i32) rfl (slowX (p6 2) (p6 3) 61440 131072)).setp 3 (by decide) (k := .i32) rfl (slowY (p6 2) (p6 3) 61440 131072)
 rw [show upd (upd p6 2 (slowX (p6 2) (p6 3) 61440 131072)) 3 (slowY (p6 2) (p6 3) 61440 131072) = pSlow p6 from rfl] at h9
 obtain ⟨w9, hw9⟩ : ∃ w9, (w8.setCell ⟨w.heap.size + 1 + 1, 2, none⟩ (.int .i32 (slowX (p6 2) (p6 3) 61440 131072))).setCell ⟨w.heap.size + 1 + 1, 3, none⟩ (.int .i32 (slowY (p6 2) (p6 3) 61440 131072)) = w9 := ⟨_, rfl⟩
 rw [hw9] at h9 ⊢
 obtain ⟨p7, hp7⟩ : ∃ p7, pSlow p6 = p7 := ⟨_, rfl⟩
 rw [hp7] at h9 HP7
 have E7 := zz hp7
 have HPF := zz h9
 clear hw9 h9 hp7 H8 hl8 HP6
 have hlt := HPF.out.lt
 have c0 := HPF.out.cellp 0 (by decide) (k := .i32) rfl
 have c1 := HPF.out.cellp 1 (by decide) (k := .i32) rfl
 have c2 := HPF.out.cellp 2 (by decide) (k := .i32) rfl
 have c3 := HPF.out.cellp 3 (by decide) (k := .i32) rfl
 obtain ⟨X, hX⟩ : ∃ X, wallP (p7 0) (p7 2) (-3932160) 3932160 = X := ⟨_, rfl⟩
 obtain ⟨Y, hY⟩ : ∃ X, wallP (p7 1) (p7 3) (-3932160) 3932160 = X := ⟨_, rfl⟩
 obtain ⟨U, hU⟩ : ∃ X, wallV (p7 0) (p7 2) (-3932160) 3932160 = X := ⟨_, rfl⟩
 obtain ⟨V, hV⟩ : ∃ X, wallV (p7 1) (p7 3) (-3932160) 3932160 = X := ⟨_, rfl⟩
 obtain ⟨wq, hwq⟩ : ∃ q, wMove p7 = q := ⟨_, rfl⟩
 have hpm : pMove p7 = upd (upd (upd (upd p7 0 X) 1 Y) 2 U) 3 V := by unfold pMove; rw [hX, hY, hU, hV]
 have hwq' : wallW (p7 0) (p7 2) (-3932160) 3932160 1 2 + wallW (p7 1) (p7 3) (-3932160) 3932160 4 8 = wq := hwq
 have fX : F32 X := by rw [← hX]; exact wallP_bd yard_f32.1 yard_f32.2
 have HMV := zz (fun W => r10Move_any HP7.out.ax HP7.out.ay HP7.out.wx HP7.out.wy (lx := -3932160) (ly := -3932160) (hx := 3932160) (hy := 3932160) W)
 rw [hX, hY, hU, hV, hwq'] at HMV
 have HPM := zz hpm
 have HWQ := zz hwq
 have FX := zz fX
 have HWB := zz (show 0 ≤ wq by rw [← hwq]; exact wMove_nn p7)
 clear hX hY hU hV hwq hwq' hpm fX
 have hKp := Keeps.base w9
 refine wp_region_mixedF [.pure, .held, .pure, .held, .make, .make, .pure, .pure, .pure, .pure, .make, .make, .tail, .tail, .pure] (fun | 4 => valF (.agg #[.int .i32 (-3932160), .int .i32 (-3932160), .int .i32 3932160, .int .i32 3932160]) | 5 => valF (.tuple #[.agg #[.int .i32 X, .int .i32 Y], .agg #[.int .i32 U, .int .i32 V], .int .i64 wq]) | _ => newF w9 33 #[.int .i32 0, .int .i32 0]) [10, 11] (by kernel_rfl) (by kernel_rfl) (by kernel_rfl) (by kernel_rfl) (fun i hi => ?_) ?_
 ·simp only [List.mem_cons, List.not_mem_nil, or_false] at hi
  rcases hi with rfl | rfl
  ·exact ⟨_, 33, _, rfl, rfl, zero_vecF, rfl, rfl⟩
  ·exact ⟨_, 33, _, rfl, rfl, zero_vecF, rfl, rfl⟩
 repeat (first | (refine mixF_pure rfl rfl rfl (fun K hK => ?_); go_big_quiet_op; refine hK _ ?_; clear hK K) | (refine mixF_held rfl rfl rfl (by assumption) (fun K hK => ?_); go_big_quiet_op; refine hK _ ?_; clear hK K))
 refine mixF_make rfl rfl (by assumption) valF_st (fun W hW => ?_) ?_
 ·have HS2 := zz (valF_of (r12Box_60 W))
  go_simp
  exact HS2.out
 rintro _ rfl hKp2 -
 simp only [Act.put, zD, zE, zF]
 refine mixF_make rfl rfl (by assumption) valF_st (fun W hW => ?_) ?_
 ·have HS2 := zz (valF_of (HMV.out W))
  go_simp
  exact HS2.out
 rintro _ rfl hKp3 -
 simp only [Act.put, zD, zE, zF]
 repeat (first | (refine mixF_pure rfl rfl rfl (fun K hK => ?_); go_big_quiet_op; refine hK _ ?_; clear hK K) | (refine mixF_held rfl rfl rfl (by assumption) (fun K hK => ?_); go_big_quiet_op; refine hK _ ?_; clear hK K))
 refine mixF_make rfl rfl (by assumption) newF_st (newF_makes rfl zero_vecF rfl) ?_
 rintro v ⟨ga, rfl⟩ hKp4 -
 simp only [Act.put, zD, zE, zF]
 refine mixF_make rfl rfl (by assumption) newF_st (newF_makes rfl zero_vecF rfl) ?_
 rintro v ⟨gb, rfl⟩ hKp5 hNe
 simp only [Act.put, zD, zE, zF]
 refine mixF_store rfl rfl hNe 33 (.tmp 15) (.tmp 172) rfl ga 0 #[.int .i32 X, .int .i32 Y] rfl rfl (fun _ W hW => ?_) (by kernel_rfl) (by simp [Value.oneCell']) ?_
 ·exact Blk.there (hW.1.2 ga rfl).2 (by show 0 + 2 ≤ 2; decide)
 simp only [Act.put, zD, zE, zF]
 refine mixF_store rfl rfl (by obtain ⟨W, hW⟩ := hNe; exact ⟨_, W, hW, rfl⟩) 33 (.tmp 16) (.tmp 173) rfl gb 0 #[.int .i32 U, .int .i32 V] rfl rfl (fun hdist W hW => ?_) (by kernel_rfl) (by simp [Value.oneCell']) ?_
 ·obtain ⟨W1, hW1, rfl⟩ := hW
  have hne : ga ≠ gb := fun e => hdist 10 11 ga rfl rfl (by decide) rfl (by rw [e]; rfl)
  exact Blk.there ((hW1.2 gb rfl).2.farC (fun e => hne e.symm) 0 _) (by show 0 + 2 ≤ 2; decide)
 simp only [Act.put, zD, zE, zF]
 repeat (first | (refine mixF_pure rfl rfl rfl (fun K hK => ?_); go_big_quiet_op; refine hK _ ?_; clear hK K) | (refine mixF_held rfl rfl rfl (by assumption) (fun K hK => ?_); go_big_quiet_op; refine hK _ ?_; clear hK K))
 refine mixF_nil ?_
 rintro hdist W' ⟨W1, ⟨W, hD, rfl⟩, rfl⟩
 have hne : ga ≠ gb := fun e => hdist 10 11 ga rfl rfl (by decide) rfl (by rw [e]; rfl)
 obtain ⟨⟨⟨⟨hg, -⟩, -⟩, hRa⟩, hRb⟩ := hD
 obtain ⟨hga, hBa⟩ := hRa ga rfl
 obtain ⟨hgb, hBb⟩ := hRb gb rfl
 have hg : Grown w9 W := hg
 have hx1 := (hBa.whole [.int .i32 X, .int .i32 Y] rfl).farC hne 0 [.int .i32 U, .int .i32 V]
 have hx2 := ((hBb.farC (fun e => hne e.symm) 0 [.int .i32 X, .int .i32 Y])).whole [.int .i32 U, .int .i32 V] rfl
 have hx3 := ((HPF.out.on hg).farC (HPF.out.apart hga) [.int .i32 X, .int .i32 Y]).farC (HPF.out.apart hgb) [.int .i32 U, .int .i32 V]
 obtain ⟨w10, hw10⟩ : ∃ w10, (W.setCells ga 0 [.int .i32 X, .int .i32 Y]).setCells gb 0 [.int .i32 U, .int .i32 V] = w10 := ⟨_, rfl⟩
 rw [hw10] at hx1 hx2 hx3
 first | rw [hw10] | (show Exit.then _ _ _ _ ((W.setCells ga 0 [.int .i32 X, .int .i32 Y]).setCells gb 0 [.int .i32 U, .int .i32 V]); rw [hw10])
 have x0 : w10.cell? ⟨ga, 0, none⟩ = some (.int .i32 X) := hx1.cell 0
 have x1 : w10.cell? ⟨ga, 1, none⟩ = some (.int .i32 Y) := hx1.cell 1
 have y0 : w10.cell? ⟨gb, 0, none⟩ = some (.int .i32 U) := hx2.cell 0
 have y1 : w10.cell? ⟨gb, 1, none⟩ = some (.int .i32 V) := hx2.cell 1
 have hla := hx1.lt
 have hlb := hx2.lt
 have hpa := (HPF.out.apart hga).1
 have hpb := (HPF.out.apart hgb).1
 have H10 := zz hx3
 clear hw10 hx1 hx2 hx3 hBa hBb hRa hRb hg hga hgb hdist hKp hKp2 hKp3 hKp4 hKp5 hNe c0 c1 c2 c3 HMV HPF hlt hne
 have hlt := H10.out.lt
 have c0 := H10.out.cellp 0 (by decide) (k := .i32) rfl
 have c1 := H10.out.cellp 1 (by decide) (k := .i32) rfl
 have c2 := H10.out.cellp 2 (by decide) (k := .i32) rfl
 have c3 := H10.out.cellp 3 (by decide) (k := .i32) rfl
 have z0 := H10.out.zero 0
 have z1 := H10.out.zero 1
 have z2 := H10.out.zero 2
 have z3 := H10.out.zero 3
 go_upto_region 34 with fail
 have h11 := (((H10.out.setp 0 (by decide) (k := .i32) rfl X).setp 1 (by decide) (k := .i32) rfl Y).setp 2 (by decide) (k := .i32) rfl U).setp 3 (by decide) (k := .i32) rfl V
 rw [← HPM.out] at h11
 obtain ⟨w11, hw11⟩ : ∃ w11, (((w10.setCell ⟨w.heap.size + 1 + 1, 0, none⟩ (.int .i32 X)).setCell ⟨w.heap.size + 1 + 1, 1, none⟩ (.int .i32 Y)).setCell ⟨w.heap.size + 1 + 1, 2, none⟩ (.int .i32 U)).setCell ⟨w.heap.size + 1 + 1, 3, none⟩ (.int .i32 V) = w11 := ⟨_, rfl⟩
 rw [hw11] at h11 ⊢
 have HX0 := zz (show pMove p7 0 = X by rw [HPM.out]; rfl)
 obtain ⟨p8, hp8⟩ : ∃ p8, pMove p7 = p8 := ⟨_, rfl⟩
 rw [hp8] at h11 HX0
 have E8 := zz hp8
 have HP8 := zz (show PlB p8 by rw [← hp8]; exact PlB.move HP7.out)
 have HPF := zz h11
 clear hw11 h11 hp8 c0 c1 c2 c3 z0 z1 z2 z3 x0 x1 y0 y1 hla hlb hpa hpb H10 hlt HPM
 have hlt := HPF.out.lt
 have c0 := HPF.out.cellp 0 (by decide) (k := .i32) rfl
 rw [HX0.out] at c0
 go_upto_if 180 with fail
 go_cut [1] (fun v wx => ∃ A n c, v = .slice A n c ∧ PF w wx base S p8 A n c F (lMove i p7 F L6))
 case first => as_aux_lemma =>
  have hw0 := HWB.out
  by_cases hz : wq = 0
  ·have HEL := zz (show lMove i p7 F L6 = L6 by unfold lMove; rw [HWQ.out, hz]; rfl)
   subst hz
   clear hw0
   go_wp2_with fail
   go_meet
   rw [HEL.out]
   exact ⟨A6, n6, c6, rfl, HPF.out⟩
  ·have hzb : (wq == 0) = false := by simpa using hz
   have HEL := zz (show lMove i p7 F L6 = addE F L6 (evT ((i : Int) + 1) 3 3 8192 3 0 X) by unfold lMove; rw [HWQ.out, hzb, E8.out, HX0.out]; rfl)
   have hz' : 0 < wq := by omega
   clear hz hzb hw0
   go_wp2_with fail
   refine (HPF.out.tell ((i : Int) + 1) 3 8192 3 0 X hF (by omega) (em_bd hi) (by decide) (by decide) (by decide) (by decide) FX.out).mono ?_
   rintro e w12 ⟨A', c', n', rfl, h12⟩
   have H12 := zz h12
   clear h12
   go_wp2_with fail
   go_meet
   rw [HEL.out]
   exact ⟨A', n', c', rfl, H12.out⟩
 case rest => as_aux_lemma =>
 obtain ⟨A8, n8, c8, rfl, hcut⟩ := hcut
 clear c0
 have hl8 : (lMove i p7 F L6).length ≤ 13 := by
  unfold lMove
  split
  ·omega
  ·rw [addE_length]; omega
 obtain ⟨L8, hL8⟩ : ∃ L8, lMove i p7 F L6 = L8 := ⟨_, rfl⟩
 rw [hL8] at hcut hl8
 have EL8 := zz hL8
 clear HPF
 have HPF := zz hcut
 clear hcut hL8
 have HFIN : Hid ((if bit b 16 then fireS i F (putP S i p8, L8) else (putP S i p8, L8)) = (T, M)) := zz (by
  rw [← HTM.out, play_main HH8.out, HGP.out]
  have e1 : steerP p b = p7 := by unfold steerP; rw [E1.out, E3.out, E4.out, E5.out, E6.out, E7.out]
  have e2 : steerL i p b F L = L6 := by unfold steerL; rw [E1.out, E3.out, E4.out, E5.out, EL5.out, EL6.out]
  rw [e1, e2, E8.out, EL8.out])
 clear HTM HGP HH8 E1 E3 E4 E5 E6 E7 E8 EL5 EL6 EL8 HWQ HWB FX HX0
 have hlt := HPF.out.lt
 have q1 := HBIT.out.2.2.2.2.1
 have F0 := hF.1
 go_upto_region 36 with fail
 go_wp2_with fail
 go_loopw [1, 18] (fun v1 v18 wr => ∃ (k : Nat) (A : Option Addr) (n c : Nat), k ≤ 6 ∧ v18 = .int .i64 k ∧ v1 = .slice A n c ∧ Hid (FRel w wr base S p8 i A n c F L8 b k)) (fun _ v18 _ => 6 - (intOf v18).toNat)
 case atStart => exact ⟨0, A8, n8, c8, by decide, rfl, rfl, zz (.inl ⟨HPF.out, rfl⟩)⟩
 case round =>
 obtain ⟨k, A9, n9, c9, hk, rfl, rfl, HR⟩ := hrel
 clear HPF
 rcases HR.out with ⟨h, hfr⟩ | ⟨f, hfk, hf6, hb16, hp6, hfe, h⟩
 ·have H9 := zz h
  have HFR := zz hfr
  clear h hfr HR
  have hlt := H9.out.lt
  have c6 := H9.out.cellp 6 (by decide) (k := .i64) rfl
  have hcl := HP8.out.cl.1
  by_cases hlt6 : k < 6
  ·have hk2 : (k : Int) < 6 := by omega
   cases hb16 : bit b 16
   ·as_aux_lemma =>
     have HE9 := zz (FRel.done_u hi H9.out HFR.out hcl (.inr (.inl hb16)))
     rw [hb16] at q1
     have hfin := HE9.out.symm.trans HFIN.out
     simp only [Prod.mk.injEq] at hfin
     obtain ⟨hT9, hM9⟩ := hfin
     have HM9 := zz hM9
     have hs9 := pl_put H9.out.st hi p8
     rw [hT9] at hs9
     have HS9 := zz hs9
     have HZ9 : Hid (∃ Z : Array Value, Z.size = 60 ∧ Blk (wr.setCells w.heap.size (4 + i * 10) (plCells p8)) (w.heap.size + 1) 41 Z) := zz (by
      obtain ⟨Z, hZ, hr⟩ := H9.out.re
      exact ⟨Z, hZ, hr.farC (by omega) _ _⟩)
     have HO9 := zz (OwnL.kept (row := some w.heap.size) H9.out.ow (oSetCells (World.grownBy.refl wr _) (4 + i * 10) (plCells p8)) (.inr (Blk.apart H9.out.st H9.out.ow (by decide))))
     have HB9 := zz (bSetCells H9.out.bl (zL w.heap.size) (4 + i * 10) (plCells p8))
     have HTH9 : Hid (wr.there w.heap.size (4 + i * 10) (plCells p8).toArray.size) := zz (by
      have e10 : (plCells p8).toArray.size = 10 := (by rw [zM, plCells_length])
      have e60 : (stCells S).toArray.size = 60 := (by rw [zM, stCells_length])
      rw [e10]
      exact Blk.there H9.out.st (by rw [zM, stCells_length]; omega))
     clear hs9 hT9 hM9 HE9 HFIN
     go_upto_region 44 with (first
      | (refine wpList_load_mid rfl 35 (.tmp 10) rfl (w.heap.size + 1 + 1) 0 rfl (plCells p8) _ (Blk.range H9.out.pl) Tryz.underlying35 rfl (by kernel_rfl) ?_)
      | (refine wpList_store_mid rfl 35 (.tmp 237) (.tmp 235) rfl w.heap.size (4 + i * 10) (plCells p8).toArray rfl rfl HTH9.out (by kernel_rfl) (all_oneCell_toArray (pl_one _)) ?_))
     obtain ⟨wE, hwE⟩ : ∃ wE, wr.setCells w.heap.size (4 + i * 10) (plCells p8) = wE := ⟨_, rfl⟩
     rw [hwE] at HS9 HZ9 HO9 HB9
     first | rw [hwE] | rw [show (plCells p8).toArray.toList = plCells p8 from rfl, hwE]
     clear hwE HTH9 H9 c6
     obtain ⟨Z, hZ, hBZ⟩ := (HZ9).out
     have HTH : Hid (wE.there (w.heap.size + 1) 0 (stCells T).toArray.size) := zz (by rw [show (stCells T).toArray.size = 60 from by rw [zM, stCells_length]]; exact Blk.there hBZ (by rw [hZ]; decide))
     have hrg := World.rangeAt_setCells_same wE (w.heap.size + 1) 0 (stCells T) (by rw [stCells_length]; have := HTH.out; rwa [show (stCells T).toArray.size = 60 from by rw [zM, stCells_length]] at this)
     have HRES := zz (run_loadVar_mid (P := Tryz.prog) _ _ _ 41 (stCells T) _ hrg Tryz.underlying41 rfl (by kernel_rfl))
     have HBX := zz (bSetCells (HB9).out (show w.heap.size ≤ w.heap.size + 1 by omega) 0 (stCells T))
     have HOX := zz (OwnL.kept (row := some (w.heap.size + 1)) (HO9).out (oSetCells (World.grownBy.refl wE _) 0 (stCells T)) (.inr (Blk.apart hBZ (HO9).out (by decide))))
     obtain ⟨wx, hwx⟩ : ∃ wx, wE.setCells (w.heap.size + 1) 0 (stCells T) = wx := ⟨_, rfl⟩
     rw [hwx] at HRES HBX HOX
     have HWX : Hid (wE.setCells (w.heap.size + 1) 0 (stCells T).toArray.toList = wx) := zz hwx
     have hls := (HS9).out.lt
     have hlz := hBZ.lt
     clear hZ hBZ hrg hwx
     go_wp2_with (first
      | (refine wpList_load_mid rfl 41 (.tmp 4) rfl w.heap.size 0 rfl (stCells T) _ (Blk.range (HS9).out) Tryz.underlying41 rfl (by kernel_rfl) ?_)
      | (refine wpList_store_mid rfl 41 (.tmp 8) (.tmp 238) rfl (w.heap.size + 1) 0 (stCells T).toArray rfl rfl HTH.out (by kernel_rfl) (all_oneCell_toArray (int_one T)) ?_; rw [HWX.out]))
     refine bodyPost_ret (results_c1 (a := 8) (t := 41) (x := 9) rfl rfl HRES.out) rfl ⟨A9, n9, c9, rfl, by rw [← HM9.out]; exact HOX.out, HBX.out⟩
   ·by_cases h6 : p8 6 = 0
    ·have h6' : (p8 6 == 0) = true := by simpa using h6
     rw [hb16] at q1
     have e4 : wr.cell? ⟨w.heap.size, 24 + k * 6 + 4, none⟩ = some (.int .i64 (S (24 + k * 6 + 4))) := by
      have := st_cell H9.out.st (24 + k * 6 + 4) (by omega)
      rwa [kdS_s k 4 (by decide)] at this
     have hpo : putP S i p8 (24 + k * 6 + 4) = S (24 + k * 6 + 4) := putP_other S i p8 _ (by omega)
     by_cases h0 : S (24 + k * 6 + 4) = 0
     ·as_aux_lemma =>
       have hfk : freeK (putP S i p8) = k := by
        rw [← HFR.out, show 6 - k = (5 - k) + 1 by omega, freeFrom_here _ _ _ (by rw [hpo]; exact h0)]
       have HFK := zz hfk
       have H6Z := zz h6
       have HB16 := zz hb16
       rw [h0] at e4
       rw [h6] at c6
       clear h0 hfk hpo HFR h6 h6'
       have c0 := H9.out.cellp 0 (by decide) (k := .i32) rfl
       have c1 := H9.out.cellp 1 (by decide) (k := .i32) rfl
       have c4 := H9.out.cellp 4 (by decide) (k := .i64) rfl
       have hls := H9.out.st.lt
       obtain ⟨dx, hdx⟩ : ∃ v, hdX (p8 4) 262144 = v := ⟨_, rfl⟩
       obtain ⟨dy, hdy⟩ : ∃ v, hdY (p8 4) 262144 = v := ⟨_, rfl⟩
       obtain ⟨vx, hvx⟩ : ∃ v, hdX (p8 4) 196608 = v := ⟨_, rfl⟩
       obtain ⟨vy, hvy⟩ : ∃ v, hdY (p8 4) 196608 = v := ⟨_, rfl⟩
       obtain ⟨sx, hsx⟩ : ∃ v, padd (p8 0) dx = v := ⟨_, rfl⟩
       obtain ⟨sy, hsy⟩ : ∃ v, padd (p8 1) dy = v := ⟨_, rfl⟩
       have HW1 : Hid (∀ W, Calls Tryz.prog 213 #[.int .i64 (p8 4), .int .i64 262144] W fun e w' => ∃ u, e = .returned u ∧ ((valF (.agg #[.int .i32 dx, .int .i32 dy])).S u ∧ (valF (.agg #[.int .i32 dx, .int .i32 dy])).R u w') ∧ Grown W w') := zz (fun W => by
        rw [← hdx, ← hdy]; exact valF_of (r12Way_any (p8 4) 262144 HP8.out.fc (by unfold F32; omega) W))
       have HW2 : Hid (∀ W, Calls Tryz.prog 212 #[.agg #[.int .i32 (p8 0), .int .i32 (p8 1)], .agg #[.int .i32 dx, .int .i32 dy]] W fun e w' => ∃ u, e = .returned u ∧ ((valF (.agg #[.int .i32 sx, .int .i32 sy])).S u ∧ (valF (.agg #[.int .i32 sx, .int .i32 sy])).R u w') ∧ Grown W w') := zz (fun W => by
        rw [← hsx, ← hsy, ← hdx, ← hdy]; exact valF_of (r10Plus_any HP8.out.ax HP8.out.ay (hdX_bd (p8 4) 262144) (hdY_bd (p8 4) 262144) W))
       have HW3 : Hid (∀ W, Calls Tryz.prog 213 #[.int .i64 (p8 4), .int .i64 196608] W fun e w' => ∃ u, e = .returned u ∧ ((valF (.agg #[.int .i32 vx, .int .i32 vy])).S u ∧ (valF (.agg #[.int .i32 vx, .int .i32 vy])).R u w') ∧ Grown W w') := zz (fun W => by
        rw [← hvx, ← hvy]; exact valF_of (r12Way_any (p8 4) 196608 HP8.out.fc (by unfold F32; omega) W))
       have HSH : Hid (shCells (shotOf p8 i) = [.int .i32 sx, .int .i32 sy, .int .i32 vx, .int .i32 vy, .int .i64 ((i : Int) + 1), .int .i64 40]) := zz (by
        rw [sh_six, hdx, hdy, hvx, hvy, hsx, hsy])
       clear hdx hdy hvx hvy hsx hsy
       go_upto_region 40 with fail
       have hKp := Keeps.base wr
       refine wp_region_mixedT [.pure, .pure, .held, .pure, .held, .make, .make, .pure, .held, .make, .pure, .pure, .pure, .pure, .pure, .tail] (fun | 5 => valF (.agg #[.int .i32 dx, .int .i32 dy]) | 6 => valF (.agg #[.int .i32 sx, .int .i32 sy]) | _ => valF (.agg #[.int .i32 vx, .int .i32 vy])) (by kernel_rfl) (by kernel_rfl) ?_
       repeat (first | (refine mix_pure rfl rfl rfl (fun K hK => ?_); go_big_quiet_op; refine hK _ ?_; clear hK K) | (refine mix_held rfl rfl rfl (by assumption) (fun K hK => ?_); go_big_quiet_op; refine hK _ ?_; clear hK K))
       refine mix_make rfl rfl (by assumption) valF_st (fun W hW => ?_) ?_
       ·have HS2 := zz (HW1.out W)
        go_simp
        exact HS2.out
       rintro _ rfl hKp2
       simp only [Act.put, zD, zE, zF]
       refine mix_make rfl rfl (by assumption) valF_st (fun W hW => ?_) ?_
       ·have HS2 := zz (HW2.out W)
        go_simp
        exact HS2.out
       rintro _ rfl hKp3
       simp only [Act.put, zD, zE, zF]
       repeat (first | (refine mix_pure rfl rfl rfl (fun K hK => ?_); go_big_quiet_op; refine hK _ ?_; clear hK K) | (refine mix_held rfl rfl rfl (by assumption) (fun K hK => ?_); go_big_quiet_op; refine hK _ ?_; clear hK K))
       refine mix_make rfl rfl (by assumption) valF_st (fun W hW => ?_) ?_
       ·have HS2 := zz (HW3.out W)
        go_simp
        exact HS2.out
       rintro _ rfl hKp4
       simp only [Act.put, zD, zE, zF]
       (refine mix_pure rfl rfl rfl (fun K hK => ?_); go_big_quiet_op; refine hK _ ?_; clear hK K)
       (refine mix_pure rfl rfl rfl (fun K hK => ?_); go_big_quiet_op; refine hK _ ?_; clear hK K)
       refine mix_built rfl rfl 38 [(0, .tmp 216), (1, .tmp 219), (2, .tmp 221), (3, .const (.int .i64 40))] rfl _ _ rfl (built_shot sx sy vx vy ((i : Int) + 1) 40) ?_
       simp only [Act.put, zD, zE, zF]
       repeat (first | (refine mix_pure rfl rfl rfl (fun K hK => ?_); go_big_quiet_op; refine hK _ ?_; clear hK K) | (refine mix_held rfl rfl rfl (by assumption) (fun K hK => ?_); go_big_quiet_op; refine hK _ ?_; clear hK K))
       refine mix_store rfl rfl 38 (.tmp 224) (.tmp 222) rfl w.heap.size (24 + k * 6) #[.int .i32 sx, .int .i32 sy, .int .i32 vx, .int .i32 vy, .int .i64 ((i : Int) + 1), .int .i64 40] rfl rfl (fun W hW => ?_) (by kernel_rfl) (by simp [Value.oneCell']) ?_
       ·have hW : Grown wr W := hW.1.1.1
        exact Blk.there (H9.out.st.on hW) (by show 24 + k * 6 + 6 ≤ _; rw [zM, stCells_length]; omega)
       simp only [Act.put, zD, zE, zF]
       refine mix_nil ?_
       rintro W' ⟨W, hD, rfl⟩
       obtain ⟨⟨⟨hg, -⟩, -⟩, -⟩ := hD
       have hg : Grown wr W := hg
       have hx := PF.fired (H9.out.on hg) (p := p8) hlt6 (shotOf p8 i)
       rw [HSH.out] at hx
       obtain ⟨w13, hw13⟩ : ∃ w13, W.setCells w.heap.size (24 + k * 6) [.int .i32 sx, .int .i32 sy, .int .i32 vx, .int .i32 vy, .int .i64 ((i : Int) + 1), .int .i64 40] = w13 := ⟨_, rfl⟩
       rw [hw13] at hx
       first | rw [hw13] | (show Exit.then _ _ _ _ (W.setCells w.heap.size (24 + k * 6) [.int .i32 sx, .int .i32 sy, .int .i32 vx, .int .i32 vy, .int .i64 ((i : Int) + 1), .int .i64 40]); rw [hw13])
       clear HW1 HW2 HW3 HSH
       have d6 := hx.cellp 6 (by decide) (k := .i64) rfl
       have y6 := hx.zero 6
       have d0 := hx.cellp 0 (by decide) (k := .i32) rfl
       have hl13 := hx.lt
       have H14 := zz (hx.setp 6 (by decide) (k := .i64) rfl 8)
       clear hx hw13 hg hKp hKp2 hKp3 hKp4 c0 c1 c4 c6 e4 H9 hlt hls
       go_wp2_with fail
       refine (H14.out.tell ((i : Int) + 1) 1 16384 5 0 (p8 0) hF (by omega) (em_bd hi) (by decide) (by decide) (by decide) (by decide) HP8.out.ax).mono ?_
       rintro e w15 ⟨A', c', n', rfl, h15⟩
       have H15 := zz h15
       clear h15
       go_wp2_with fail
       go_roundw
       case rel => exact ⟨k + 1, A', n', c', by omega, by go_num, rfl, zz (.inr ⟨k, by omega, hlt6, HB16.out, H6Z.out, HFK.out, H15.out⟩)⟩
       case measure => simp [intOf]; omega
     ·as_aux_lemma =>
       have HN : Hid (freeFrom (putP S i p8) (6 - (k + 1)) (k + 1) = freeK (putP S i p8)) := zz (by
        have := freeFrom_step (putP S i p8) (5 - k) k (by rw [hpo]; exact h0)
        rw [← HFR.out, show 6 - (k + 1) = 5 - k by omega, show 6 - k = 5 - k + 1 by omega, this])
       have h0' : (S (24 + k * 6 + 4) == 0) = false := by simpa using h0
       obtain ⟨v, hv⟩ : ∃ v, S (24 + k * 6 + 4) = v := ⟨_, rfl⟩
       rw [hv] at e4 h0'
       rw [h6] at c6
       have hls := H9.out.st.lt
       clear h0 hv hpo HFR h6 h6'
       go_wp2_with fail
       go_roundw
       case rel => exact ⟨k + 1, A9, n9, c9, by omega, by go_num, rfl, zz (.inl ⟨H9.out, HN.out⟩)⟩
       case measure => simp [intOf]; omega
    ·as_aux_lemma =>
      have h6' : (p8 6 == 0) = false := by simpa using h6
      have HE9 := zz (FRel.done_u (b := b) hi H9.out HFR.out hcl (.inr (.inr (by omega))))
      rw [hb16] at q1
      clear h6
      have hfin := HE9.out.symm.trans HFIN.out
      simp only [Prod.mk.injEq] at hfin
      obtain ⟨hT9, hM9⟩ := hfin
      have HM9 := zz hM9
      have hs9 := pl_put H9.out.st hi p8
      rw [hT9] at hs9
      have HS9 := zz hs9
      have HZ9 : Hid (∃ Z : Array Value, Z.size = 60 ∧ Blk (wr.setCells w.heap.size (4 + i * 10) (plCells p8)) (w.heap.size + 1) 41 Z) := zz (by
       obtain ⟨Z, hZ, hr⟩ := H9.out.re
       exact ⟨Z, hZ, hr.farC (by omega) _ _⟩)
      have HO9 := zz (OwnL.kept (row := some w.heap.size) H9.out.ow (oSetCells (World.grownBy.refl wr _) (4 + i * 10) (plCells p8)) (.inr (Blk.apart H9.out.st H9.out.ow (by decide))))
      have HB9 := zz (bSetCells H9.out.bl (zL w.heap.size) (4 + i * 10) (plCells p8))
      have HTH9 : Hid (wr.there w.heap.size (4 + i * 10) (plCells p8).toArray.size) := zz (by
       have e10 : (plCells p8).toArray.size = 10 := (by rw [zM, plCells_length])
       have e60 : (stCells S).toArray.size = 60 := (by rw [zM, stCells_length])
       rw [e10]
       exact Blk.there H9.out.st (by rw [zM, stCells_length]; omega))
      clear hs9 hT9 hM9 HE9 HFIN
      go_upto_region 44 with (first
       | (refine wpList_load_mid rfl 35 (.tmp 10) rfl (w.heap.size + 1 + 1) 0 rfl (plCells p8) _ (Blk.range H9.out.pl) Tryz.underlying35 rfl (by kernel_rfl) ?_)
       | (refine wpList_store_mid rfl 35 (.tmp 237) (.tmp 235) rfl w.heap.size (4 + i * 10) (plCells p8).toArray rfl rfl HTH9.out (by kernel_rfl) (all_oneCell_toArray (pl_one _)) ?_))
      obtain ⟨wE, hwE⟩ : ∃ wE, wr.setCells w.heap.size (4 + i * 10) (plCells p8) = wE := ⟨_, rfl⟩
      rw [hwE] at HS9 HZ9 HO9 HB9
      first | rw [hwE] | rw [show (plCells p8).toArray.toList = plCells p8 from rfl, hwE]
      clear hwE HTH9 H9 c6
      obtain ⟨Z, hZ, hBZ⟩ := (HZ9).out
      have HTH : Hid (wE.there (w.heap.size + 1) 0 (stCells T).toArray.size) := zz (by rw [show (stCells T).toArray.size = 60 from by rw [zM, stCells_length]]; exact Blk.there hBZ (by rw [hZ]; decide))
      have hrg := World.rangeAt_setCells_same wE (w.heap.size + 1) 0 (stCells T) (by rw [stCells_length]; have := HTH.out; rwa [show (stCells T).toArray.size = 60 from by rw [zM, stCells_length]] at this)
      have HRES := zz (run_loadVar_mid (P := Tryz.prog) _ _ _ 41 (stCells T) _ hrg Tryz.underlying41 rfl (by kernel_rfl))
      have HBX := zz (bSetCells (HB9).out (show w.heap.size ≤ w.heap.size + 1 by omega) 0 (stCells T))
      have HOX := zz (OwnL.kept (row := some (w.heap.size + 1)) (HO9).out (oSetCells (World.grownBy.refl wE _) 0 (stCells T)) (.inr (Blk.apart hBZ (HO9).out (by decide))))
      obtain ⟨wx, hwx⟩ : ∃ wx, wE.setCells (w.heap.size + 1) 0 (stCells T) = wx := ⟨_, rfl⟩
      rw [hwx] at HRES HBX HOX
      have HWX : Hid (wE.setCells (w.heap.size + 1) 0 (stCells T).toArray.toList = wx) := zz hwx
      have hls := (HS9).out.lt
      have hlz := hBZ.lt
      clear hZ hBZ hrg hwx
      go_wp2_with (first
       | (refine wpList_load_mid rfl 41 (.tmp 4) rfl w.heap.size 0 rfl (stCells T) _ (Blk.range (HS9).out) Tryz.underlying41 rfl (by kernel_rfl) ?_)
       | (refine wpList_store_mid rfl 41 (.tmp 8) (.tmp 238) rfl (w.heap.size + 1) 0 (stCells T).toArray rfl rfl HTH.out (by kernel_rfl) (all_oneCell_toArray (int_one T)) ?_; rw [HWX.out]))
      refine bodyPost_ret (results_c1 (a := 8) (t := 41) (x := 9) rfl rfl HRES.out) rfl ⟨A9, n9, c9, rfl, by rw [← HM9.out]; exact HOX.out, HBX.out⟩
  ·as_aux_lemma =>
    obtain rfl : k = 6 := by omega
    have HE9 := zz (FRel.done_u (b := b) hi H9.out HFR.out hcl (.inl rfl))
    clear q1
    have hfin := HE9.out.symm.trans HFIN.out
    simp only [Prod.mk.injEq] at hfin
    obtain ⟨hT9, hM9⟩ := hfin
    have HM9 := zz hM9
    have hs9 := pl_put H9.out.st hi p8
    rw [hT9] at hs9
    have HS9 := zz hs9
    have HZ9 : Hid (∃ Z : Array Value, Z.size = 60 ∧ Blk (wr.setCells w.heap.size (4 + i * 10) (plCells p8)) (w.heap.size + 1) 41 Z) := zz (by
     obtain ⟨Z, hZ, hr⟩ := H9.out.re
     exact ⟨Z, hZ, hr.farC (by omega) _ _⟩)
    have HO9 := zz (OwnL.kept (row := some w.heap.size) H9.out.ow (oSetCells (World.grownBy.refl wr _) (4 + i * 10) (plCells p8)) (.inr (Blk.apart H9.out.st H9.out.ow (by decide))))
    have HB9 := zz (bSetCells H9.out.bl (zL w.heap.size) (4 + i * 10) (plCells p8))
    have HTH9 : Hid (wr.there w.heap.size (4 + i * 10) (plCells p8).toArray.size) := zz (by
     have e10 : (plCells p8).toArray.size = 10 := (by rw [zM, plCells_length])
     have e60 : (stCells S).toArray.size = 60 := (by rw [zM, stCells_length])
     rw [e10]
     exact Blk.there H9.out.st (by rw [zM, stCells_length]; omega))
    clear hs9 hT9 hM9 HE9 HFIN
    go_upto_region 44 with (first
     | (refine wpList_load_mid rfl 35 (.tmp 10) rfl (w.heap.size + 1 + 1) 0 rfl (plCells p8) _ (Blk.range H9.out.pl) Tryz.underlying35 rfl (by kernel_rfl) ?_)
     | (refine wpList_store_mid rfl 35 (.tmp 237) (.tmp 235) rfl w.heap.size (4 + i * 10) (plCells p8).toArray rfl rfl HTH9.out (by kernel_rfl) (all_oneCell_toArray (pl_one _)) ?_))
    obtain ⟨wE, hwE⟩ : ∃ wE, wr.setCells w.heap.size (4 + i * 10) (plCells p8) = wE := ⟨_, rfl⟩
    rw [hwE] at HS9 HZ9 HO9 HB9
    first | rw [hwE] | rw [show (plCells p8).toArray.toList = plCells p8 from rfl, hwE]
    clear hwE HTH9 H9 c6
    obtain ⟨Z, hZ, hBZ⟩ := (HZ9).out
    have HTH : Hid (wE.there (w.heap.size + 1) 0 (stCells T).toArray.size) := zz (by rw [show (stCells T).toArray.size = 60 from by rw [zM, stCells_length]]; exact Blk.there hBZ (by rw [hZ]; decide))
    have hrg := World.rangeAt_setCells_same wE (w.heap.size + 1) 0 (stCells T) (by rw [stCells_length]; have := HTH.out; rwa [show (stCells T).toArray.size = 60 from by rw [zM, stCells_length]] at this)
    have HRES := zz (run_loadVar_mid (P := Tryz.prog) _ _ _ 41 (stCells T) _ hrg Tryz.underlying41 rfl (by kernel_rfl))
    have HBX := zz (bSetCells (HB9).out (show w.heap.size ≤ w.heap.size + 1 by omega) 0 (stCells T))
    have HOX := zz (OwnL.kept (row := some (w.heap.size + 1)) (HO9).out (oSetCells (World.grownBy.refl wE _) 0 (stCells T)) (.inr (Blk.apart hBZ (HO9).out (by decide))))
    obtain ⟨wx, hwx⟩ : ∃ wx, wE.setCells (w.heap.size + 1) 0 (stCells T) = wx := ⟨_, rfl⟩
    rw [hwx] at HRES HBX HOX
    have HWX : Hid (wE.setCells (w.heap.size + 1) 0 (stCells T).toArray.toList = wx) := zz hwx
    have hls := (HS9).out.lt
    have hlz := hBZ.lt
    clear hZ hBZ hrg hwx
    go_wp2_with (first
     | (refine wpList_load_mid rfl 41 (.tmp 4) rfl w.heap.size 0 rfl (stCells T) _ (Blk.range (HS9).out) Tryz.underlying41 rfl (by kernel_rfl) ?_)
     | (refine wpList_store_mid rfl 41 (.tmp 8) (.tmp 238) rfl (w.heap.size + 1) 0 (stCells T).toArray rfl rfl HTH.out (by kernel_rfl) (all_oneCell_toArray (int_one T)) ?_; rw [HWX.out]))
    refine bodyPost_ret (results_c1 (a := 8) (t := 41) (x := 9) rfl rfl HRES.out) rfl ⟨A9, n9, c9, rfl, by rw [← HM9.out]; exact HOX.out, HBX.out⟩
 ·as_aux_lemma =>
   have HE9 := zz (FRel.done_d (F := F) (L := L8) hi hf6 hb16 hp6 hfe)
   have H9 := zz h
   have hlt := h.lt
   have c6 : wr.cell? ⟨w.heap.size + 1 + 1, 6, none⟩ = some (.int .i64 8) := h.cellp 6 (by decide) (k := .i64) rfl
   rw [hb16] at q1
   clear hfk hb16 hp6 hfe h HR
   by_cases hlt6 : k < 6
   ·have hk2 : (k : Int) < 6 := by omega
    have hfin := HE9.out.symm.trans HFIN.out
    simp only [Prod.mk.injEq] at hfin
    obtain ⟨hT9, hM9⟩ := hfin
    have HM9 := zz hM9
    have hs9 := pl_put H9.out.st hi (upd p8 6 8)
    rw [hT9] at hs9
    have HS9 := zz hs9
    have HZ9 : Hid (∃ Z : Array Value, Z.size = 60 ∧ Blk (wr.setCells w.heap.size (4 + i * 10) (plCells (upd p8 6 8))) (w.heap.size + 1) 41 Z) := zz (by
     obtain ⟨Z, hZ, hr⟩ := H9.out.re
     exact ⟨Z, hZ, hr.farC (by omega) _ _⟩)
    have HO9 := zz (OwnL.kept (row := some w.heap.size) H9.out.ow (oSetCells (World.grownBy.refl wr _) (4 + i * 10) (plCells (upd p8 6 8))) (.inr (Blk.apart H9.out.st H9.out.ow (by decide))))
    have HB9 := zz (bSetCells H9.out.bl (zL w.heap.size) (4 + i * 10) (plCells (upd p8 6 8)))
    have HTH9 : Hid (wr.there w.heap.size (4 + i * 10) (plCells (upd p8 6 8)).toArray.size) := zz (by
     have e10 : (plCells (upd p8 6 8)).toArray.size = 10 := (by rw [zM, plCells_length])
     have e60 : (stCells S).toArray.size = 60 := (by rw [zM, stCells_length])
     rw [e10]
     exact Blk.there H9.out.st (by rw [zM, stCells_length]; omega))
    clear hs9 hT9 hM9 HE9 HFIN
    go_upto_region 44 with (first
     | (refine wpList_load_mid rfl 35 (.tmp 10) rfl (w.heap.size + 1 + 1) 0 rfl (plCells (upd p8 6 8)) _ (Blk.range H9.out.pl) Tryz.underlying35 rfl (by kernel_rfl) ?_)
     | (refine wpList_store_mid rfl 35 (.tmp 237) (.tmp 235) rfl w.heap.size (4 + i * 10) (plCells (upd p8 6 8)).toArray rfl rfl HTH9.out (by kernel_rfl) (all_oneCell_toArray (pl_one _)) ?_))
    obtain ⟨wE, hwE⟩ : ∃ wE, wr.setCells w.heap.size (4 + i * 10) (plCells (upd p8 6 8)) = wE := ⟨_, rfl⟩
    rw [hwE] at HS9 HZ9 HO9 HB9
    first | rw [hwE] | rw [show (plCells (upd p8 6 8)).toArray.toList = plCells (upd p8 6 8) from rfl, hwE]
    clear hwE HTH9 H9 c6
    obtain ⟨Z, hZ, hBZ⟩ := (HZ9).out
    have HTH : Hid (wE.there (w.heap.size + 1) 0 (stCells T).toArray.size) := zz (by rw [show (stCells T).toArray.size = 60 from by rw [zM, stCells_length]]; exact Blk.there hBZ (by rw [hZ]; decide))
    have hrg := World.rangeAt_setCells_same wE (w.heap.size + 1) 0 (stCells T) (by rw [stCells_length]; have := HTH.out; rwa [show (stCells T).toArray.size = 60 from by rw [zM, stCells_length]] at this)
    have HRES := zz (run_loadVar_mid (P := Tryz.prog) _ _ _ 41 (stCells T) _ hrg Tryz.underlying41 rfl (by kernel_rfl))
    have HBX := zz (bSetCells (HB9).out (show w.heap.size ≤ w.heap.size + 1 by omega) 0 (stCells T))
    have HOX := zz (OwnL.kept (row := some (w.heap.size + 1)) (HO9).out (oSetCells (World.grownBy.refl wE _) 0 (stCells T)) (.inr (Blk.apart hBZ (HO9).out (by decide))))
    obtain ⟨wx, hwx⟩ : ∃ wx, wE.setCells (w.heap.size + 1) 0 (stCells T) = wx := ⟨_, rfl⟩
    rw [hwx] at HRES HBX HOX
    have HWX : Hid (wE.setCells (w.heap.size + 1) 0 (stCells T).toArray.toList = wx) := zz hwx
    have hls := (HS9).out.lt
    have hlz := hBZ.lt
    clear hZ hBZ hrg hwx
    go_wp2_with (first
     | (refine wpList_load_mid rfl 41 (.tmp 4) rfl w.heap.size 0 rfl (stCells T) _ (Blk.range (HS9).out) Tryz.underlying41 rfl (by kernel_rfl) ?_)
     | (refine wpList_store_mid rfl 41 (.tmp 8) (.tmp 238) rfl (w.heap.size + 1) 0 (stCells T).toArray rfl rfl HTH.out (by kernel_rfl) (all_oneCell_toArray (int_one T)) ?_; rw [HWX.out]))
    refine bodyPost_ret (results_c1 (a := 8) (t := 41) (x := 9) rfl rfl HRES.out) rfl ⟨A9, n9, c9, rfl, by rw [← HM9.out]; exact HOX.out, HBX.out⟩
   ·obtain rfl : k = 6 := by omega
    have hfin := HE9.out.symm.trans HFIN.out
    simp only [Prod.mk.injEq] at hfin
    obtain ⟨hT9, hM9⟩ := hfin
    have HM9 := zz hM9
    have hs9 := pl_put H9.out.st hi (upd p8 6 8)
    rw [hT9] at hs9
    have HS9 := zz hs9
    have HZ9 : Hid (∃ Z : Array Value, Z.size = 60 ∧ Blk (wr.setCells w.heap.size (4 + i * 10) (plCells (upd p8 6 8))) (w.heap.size + 1) 41 Z) := zz (by
     obtain ⟨Z, hZ, hr⟩ := H9.out.re
     exact ⟨Z, hZ, hr.farC (by omega) _ _⟩)
    have HO9 := zz (OwnL.kept (row := some w.heap.size) H9.out.ow (oSetCells (World.grownBy.refl wr _) (4 + i * 10) (plCells (upd p8 6 8))) (.inr (Blk.apart H9.out.st H9.out.ow (by decide))))
    have HB9 := zz (bSetCells H9.out.bl (zL w.heap.size) (4 + i * 10) (plCells (upd p8 6 8)))
    have HTH9 : Hid (wr.there w.heap.size (4 + i * 10) (plCells (upd p8 6 8)).toArray.size) := zz (by
     have e10 : (plCells (upd p8 6 8)).toArray.size = 10 := (by rw [zM, plCells_length])
     have e60 : (stCells S).toArray.size = 60 := (by rw [zM, stCells_length])
     rw [e10]
     exact Blk.there H9.out.st (by rw [zM, stCells_length]; omega))
    clear hs9 hT9 hM9 HE9 HFIN
    go_upto_region 44 with (first
     | (refine wpList_load_mid rfl 35 (.tmp 10) rfl (w.heap.size + 1 + 1) 0 rfl (plCells (upd p8 6 8)) _ (Blk.range H9.out.pl) Tryz.underlying35 rfl (by kernel_rfl) ?_)
     | (refine wpList_store_mid rfl 35 (.tmp 237) (.tmp 235) rfl w.heap.size (4 + i * 10) (plCells (upd p8 6 8)).toArray rfl rfl HTH9.out (by kernel_rfl) (all_oneCell_toArray (pl_one _)) ?_))
    obtain ⟨wE, hwE⟩ : ∃ wE, wr.setCells w.heap.size (4 + i * 10) (plCells (upd p8 6 8)) = wE := ⟨_, rfl⟩
    rw [hwE] at HS9 HZ9 HO9 HB9
    first | rw [hwE] | rw [show (plCells (upd p8 6 8)).toArray.toList = plCells (upd p8 6 8) from rfl, hwE]
    clear hwE HTH9 H9 c6
    obtain ⟨Z, hZ, hBZ⟩ := (HZ9).out
    have HTH : Hid (wE.there (w.heap.size + 1) 0 (stCells T).toArray.size) := zz (by rw [show (stCells T).toArray.size = 60 from by rw [zM, stCells_length]]; exact Blk.there hBZ (by rw [hZ]; decide))
    have hrg := World.rangeAt_setCells_same wE (w.heap.size + 1) 0 (stCells T) (by rw [stCells_length]; have := HTH.out; rwa [show (stCells T).toArray.size = 60 from by rw [zM, stCells_length]] at this)
    have HRES := zz (run_loadVar_mid (P := Tryz.prog) _ _ _ 41 (stCells T) _ hrg Tryz.underlying41 rfl (by kernel_rfl))
    have HBX := zz (bSetCells (HB9).out (show w.heap.size ≤ w.heap.size + 1 by omega) 0 (stCells T))
    have HOX := zz (OwnL.kept (row := some (w.heap.size + 1)) (HO9).out (oSetCells (World.grownBy.refl wE _) 0 (stCells T)) (.inr (Blk.apart hBZ (HO9).out (by decide))))
    obtain ⟨wx, hwx⟩ : ∃ wx, wE.setCells (w.heap.size + 1) 0 (stCells T) = wx := ⟨_, rfl⟩
    rw [hwx] at HRES HBX HOX
    have HWX : Hid (wE.setCells (w.heap.size + 1) 0 (stCells T).toArray.toList = wx) := zz hwx
    have hls := (HS9).out.lt
    have hlz := hBZ.lt
    clear hZ hBZ hrg hwx
    go_wp2_with (first
     | (refine wpList_load_mid rfl 41 (.tmp 4) rfl w.heap.size 0 rfl (stCells T) _ (Blk.range (HS9).out) Tryz.underlying41 rfl (by kernel_rfl) ?_)
     | (refine wpList_store_mid rfl 41 (.tmp 8) (.tmp 238) rfl (w.heap.size + 1) 0 (stCells T).toArray rfl rfl HTH.out (by kernel_rfl) (all_oneCell_toArray (int_one T)) ?_; rw [HWX.out]))
    refine bodyPost_ret (results_c1 (a := 8) (t := 41) (x := 9) rfl rfl HRES.out) rfl ⟨A9, n9, c9, rfl, by rw [← HM9.out]; exact HOX.out, HBX.out⟩
end
end
end Go.Proofs.YtibeihcpehikoaaGreat
