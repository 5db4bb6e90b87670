/-
  The walks beneath: R12h, R12f, R12g, MatR, StepR.
-/
import Derived.Test.YtibeihcpehikoaaGreatNm2
import Derived.Test.YtibeihcpehikoaaGreatNl3
namespace Go.Proofs.YtibeihcpehikoaaGreat
open Go.RowKit
set_option maxRecDepth 100000
set_option maxHeartbeats 16000000
set_option linter.unusedSimpArgs false
section
section
variable {base : Nat} {S : Nat → Int} {A : Option Addr} {n c i b : Nat} {F : Int} {L : List Ev} {w : World}
theorem r12Player_any (hi : i < 2) (ho : OwnL w base 62 9 (.slice A n c) Ev.cells L) (hbw : base ≤ w.heap.size) (hp : PageOk F L) (hok : StOk S) (hS : S 0 = F) (hF : 0 ≤ F ∧ F ≤ 1073741824) (hL : L.length ≤ 10) (hb : b < 64) (T : Nat → Int) (M : List Ev)
  (hTM : playS i b F (S, L) = (T, M)) :
  Calls Tryz.prog 148 #[.agg (stCells S).toArray, .slice A n c, .int .i64 i, .int .i64 b] w fun e w' => ∃ A' n' c', e = .returned (.tuple #[.agg (stCells T).toArray, .slice A' n' c']) ∧ OwnL w' base 62 9 (.slice A' n' c') Ev.cells M ∧ Below w.heap.size w w' := by
 have hpm := hok.m.pl i hi
 have hdn := hpm.dn
 by_cases h8 : 1 < getP S i 8
 ·have e : playS i b F (S, L) = (putP S i (upd (getP S i) 8 (getP S i 8 - 1)), L) := by
   unfold playS; dsimp only; rw [if_pos h8]
  rw [e] at hTM
  obtain ⟨rfl, rfl⟩ := Prod.mk.inj hTM
  refine (r12Player_down hi ho hbw hp hS h8 hdn.2).mono ?_
  rintro e w' ⟨he, ho', hb'⟩
  exact ⟨_, _, _, he, ho', hb'⟩
 ·by_cases h1 : getP S i 8 = 1
  ·have hu := hok.m.dc
   obtain ⟨-, -, t0, t4⟩ := throw_num (S 1) 4 (by decide) (by decide)
   obtain ⟨m, hm⟩ := Int.eq_ofNat_of_zero_le t0
   have e : playS i b F (S, L) = (putP (upd S 1 (nextZ (S 1))) i (pBack (getP S i) m), addE F L (evT ((i : Int) + 1) 6 6 16384 9 0 (cornX m))) := by
    unfold playS; dsimp only; rw [if_neg h8, if_pos h1, hm]
   rw [e] at hTM
   obtain ⟨rfl, rfl⟩ := Prod.mk.inj hTM
   refine (r12Player_back hi ho hbw hp hS hF (by omega) h1 hu (m := m) (by omega) hm).mono ?_
   rintro e w' ⟨A', n', c', he, ho', hb'⟩
   exact ⟨A', n', c', he, ho', hb'⟩
  ·exact r12Player_main hi ho hbw hp hS hF hL (by omega) (hpm.b (hok.two i hi)) hb T M hTM
end
end
section
theorem arena_in (x y : Int) (w : World) (b : Bool) (h : arenaB x y = b) : Calls Tryz.prog 223 #[.agg #[.int .i32 (-4194304), .int .i32 (-4194304), .int .i32 4194304, .int .i32 4194304], .agg #[.int .i32 x, .int .i32 y]] w fun e w' => e = .returned (.bool b) ∧ Below w.heap.size w w' :=
 (r10Inside_any (-4194304) (-4194304) 4194304 4194304 x y w).mono fun _ _ ⟨h1, h2⟩ => ⟨by rw [h1]; exact congrArg (fun z => Ending.returned (.bool z)) h, h2⟩
section
variable {base : Nat} {S : Nat → Int} {A : Option Addr} {n c k : Nat} {F : Int} {L : List Ev} {w : World}
theorem r12Shot_any (hk : k < 6) (ho : OwnL w base 62 9 (.slice A n c) Ev.cells L) (hbw : base ≤ w.heap.size) (hp : PageOk F L) (hm : StM S) (hS : S 0 = F) (hF : 0 ≤ F ∧ F ≤ 1073741824) (h4 : getS S k 4 ≠ 0) {a b : Nat} (hev : EvN L a b) (ha : a ≤ 60) (hb : b ≤ 14) (T : Nat → Int) (M : List Ev)
  (hTM : flyS k F (S, L) = (T, M)) :
  Calls Tryz.prog 151 #[.agg (stCells S).toArray, .slice A n c, .int .i64 k] w fun e w' => ∃ A' n' c', e = .returned (.tuple #[.agg (stCells T).toArray, .slice A' n' c']) ∧ OwnL w' base 62 9 (.slice A' n' c') Ev.cells M ∧ Below w.heap.size w w' := by
 have HOW := zz ho
 have HPO := zz hp
 have hk2 : (k : Int) < 6 := by omega
 have HTM := zz hTM
 have HM := zz hm
 have HS0 := zz hS
 have HEV := zz hev
 have hsh := hm.sh k hk
 have HGS : Hid (∀ x, getS S k = x → x 4 = S (24 + k * 6 + 4)) := zz (fun x e => by rw [← e]; rfl)
 obtain ⟨x, hx⟩ : ∃ x, getS S k = x := ⟨_, rfl⟩
 have HX := zz hx
 rw [hx] at hsh h4
 have HSH := zz hsh
 have HX4 := zz h4
 obtain ⟨v, hv⟩ : ∃ v, x 5 - 1 = v := ⟨_, rfl⟩
 obtain ⟨X, hX⟩ : ∃ X, padd (x 0) (x 2) = X := ⟨_, rfl⟩
 obtain ⟨Y, hY⟩ : ∃ Y, padd (x 1) (x 3) = Y := ⟨_, rfl⟩
 have HPL : Hid (∀ W, Calls Tryz.prog 212 #[.agg #[.int .i32 (x 0), .int .i32 (x 1)], .agg #[.int .i32 (x 2), .int .i32 (x 3)]] W fun e w' => e = .returned (.agg #[.int .i32 X, .int .i32 Y]) ∧ Below W.heap.size W w') := zz (fun W => by
  rw [← hX, ← hY]
  exact r10Plus_any (by have := hsh.ax; unfold F32; omega) (by have := hsh.ay; unfold F32; omega) hsh.wx hsh.wy W)
 have HFX := zz (show F32 X by rw [← hX]; exact sat_bd _)
 have HFY := zz (show F32 Y by rw [← hY]; exact sat_bd _)
 have HY : Hid (upd (upd (upd x 5 v) 0 X) 1 Y = shotNext x) := zz (by unfold shotNext; rw [hv, hX, hY])
 have HV := zz hv
 have HNX := zz (show shotNext x 0 = X by rw [← hX]; rfl)
 have HNY := zz (show shotNext x 1 = Y by rw [← hY]; rfl)
 have HN4 := zz (show shotNext x 4 = x 4 from rfl)
 have HN5 := zz (show shotNext x 5 = v by rw [← hv]; rfl)
 have hx5 : 1 ≤ x 5 ∧ x 5 ≤ 40 := ⟨hsh.on h4, hsh.lf.2⟩
 have hvb : 0 ≤ v ∧ v < 40 := by omega
 have hlx := hx5
 clear ho hp hm hS hev hTM hsh h4 hX hY
 go_enter Tryz.func151, Tryz.ntmps151
 go_upto_region 1 with fail
 refine named2 (F := fun W => Code.wp _ _ _ _ W) ?_
 intro w1 k0 k1 hb1 hz1
 have HK0 := zz k0
 have HK1 := zz k1
 have HB1 := zz hb1
 have HZ1 := zz hz1
 have HRG : Hid (w1.rangeAt w.heap.size (24 + k * 6) (shCells x)) := zz (by rw [← HX.out]; exact sh_range k0 hk)
 have HT1 : Hid ((w1.alloc (.cells (shCells zeroS).toArray 38)).there w1.heap.size 0 (shCells x).toArray.size) := zz (there_new _ _ _ rfl)
 clear k0 k1 hb1 hz1
 go_upto_region 2 with (first
  | (refine wpList_load_mid rfl 38 (.tmp 13) rfl w.heap.size (24 + k * 6) rfl (shCells x) _ HRG.out Tryz.underlying38 rfl (by kernel_rfl) ?_)
  | (refine wpList_store_mid rfl 38 (.tmp 8) (.tmp 14) rfl w1.heap.size 0 (shCells x).toArray rfl rfl HT1.out (by kernel_rfl) (all_oneCell_toArray (sh_one x)) ?_))
 refine named_put (F := fun W => Code.wp _ _ _ _ W) (by rfl) ?_
 intro w2 hk2' hb2 hz2
 rw [HZ1.out] at hk2' ⊢
 rw [zJ] at hk2'
 have HSF : Hid (SF w w2 base S x A n c F L) := zz ⟨HK0.out.on hb2, ⟨_, by rfl, HK1.out.on hb2⟩, hk2', HOW.out.below (bTrans HB1.out hb2), HPO.out, hbw, bTrans HB1.out hb2⟩
 clear hk2' hb2 hz2 HK0 HK1 HB1 HZ1 HT1 HRG
 have c5 := HSF.out.cellx 5 (by decide) (k := .i64) rfl
 have z5 := HSF.out.zero 5
 have hlt := HSF.out.lt
 have H3' := HSF.out.setx 5 (by decide) (k := .i64) rfl v
 go_upto_region 3 with fail
 try rw [HV.out]
 obtain ⟨w3, hw3⟩ : ∃ w3, w2.setCell ⟨w.heap.size + 1 + 1, 5, none⟩ (.int .i64 v) = w3 := ⟨_, rfl⟩
 rw [hw3] at H3' ⊢
 have H3 := zz H3'
 clear hw3 H3' c5 z5 hlt HSF
 have hlt := H3.out.lt
 have c0 : w3.cell? ⟨w.heap.size + 1 + 1, 0, none⟩ = some (.int .i32 (x 0)) := H3.out.cellx 0 (by decide) (k := .i32) rfl
 have c1 : w3.cell? ⟨w.heap.size + 1 + 1, 1, none⟩ = some (.int .i32 (x 1)) := H3.out.cellx 1 (by decide) (k := .i32) rfl
 have c2 : w3.cell? ⟨w.heap.size + 1 + 1, 2, none⟩ = some (.int .i32 (x 2)) := H3.out.cellx 2 (by decide) (k := .i32) rfl
 have c3 : w3.cell? ⟨w.heap.size + 1 + 1, 3, none⟩ = some (.int .i32 (x 3)) := H3.out.cellx 3 (by decide) (k := .i32) rfl
 go_upto_region 4 with (first | (go_at_call 212; refine (HPL.out _).mono ?_; rintro e w4 ⟨rfl, hb4⟩; have H4 := zz (H3.out.on hb4); have hl4 := H4.out.lt; have z0 := H4.out.zero 0; have z1 := H4.out.zero 1; have q0 := H4.out.cellx 0 (by decide) (k := .i32) rfl; have q1 := H4.out.cellx 1 (by decide) (k := .i32) rfl; clear hb4))
 have h5 := (H4.out.setx 0 (by decide) (k := .i32) rfl X).setx 1 (by decide) (k := .i32) rfl Y
 rw [HY.out] at h5
 obtain ⟨w5, hw5⟩ : ∃ w5, (w4.setCell ⟨w.heap.size + 1 + 1, 0, none⟩ (.int .i32 X)).setCell ⟨w.heap.size + 1 + 1, 1, none⟩ (.int .i32 Y) = w5 := ⟨_, rfl⟩
 rw [hw5] at h5 ⊢
 have H5 := zz h5
 have HT5 : Hid (w5.there w.heap.size (24 + k * 6) (shCells zeroS).toArray.size) := zz (Blk.there h5.st (by show 24 + k * 6 + 6 ≤ _; rw [zM, stCells_length]; omega))
 have h6 := h5.put hk zeroS
 clear hw5 h5 c0 c1 c2 c3 z0 z1 q0 q1 hlt hl4 H3 H4
 go_upto_region 5 with (first
  | (refine wpList_store_mid rfl 38 (.tmp 28) (.tmp 26) rfl w.heap.size (24 + k * 6) (shCells zeroS).toArray rfl rfl HT5.out (by kernel_rfl) (all_oneCell_toArray (sh_one zeroS)) ?_))
 obtain ⟨w6, hw6⟩ : ∃ w6, w5.setCells w.heap.size (24 + k * 6) (shCells zeroS) = w6 := ⟨_, rfl⟩
 rw [hw6] at h6
 first | rw [hw6] | rw [show (shCells zeroS).toArray.toList = shCells zeroS from rfl, hw6]
 have H6 := zz h6
 clear hw6 h6 H5 HT5
 simp only [Act.put, zD, zE, zF]
 have c5 := H6.out.cellx 5 (by decide) (k := .i64) rfl
 rw [HN5.out] at c5
 have hlt := H6.out.lt
 by_cases hv0 : v = 0
 ·as_aux_lemma =>
   have HT : Hid (T = putS S k zeroS ∧ M = L) := zz (by
    have := (flyS_gone (F := F) (L := L) (by rw [HX.out]; exact HX4.out) (.inl (by rw [HX.out, HV.out, hv0]))).symm.trans HTM.out
    exact ⟨(Prod.mk.inj this).1.symm, (Prod.mk.inj this).2.symm⟩)
   obtain ⟨rfl, rfl⟩ := HT.out
   subst hv0
   refine wp_region_mild (by kernel_rfl) (by kernel_rfl) ?_
   repeat (go_big_quiet_step ((fail)))
   refine wpQuiet_nil ?_
   intro w7 hw'
   obtain ⟨⟨wq, k7⟩, hw''⟩ := hw'
   subst hw''
   have H7 := zz (H6.out.on k7)
   clear k7 H6 c5 hlt
   have HS9 := zz (H7).out.st
   have HZ9 := zz (H7).out.re
   have HO9 := zz (H7).out.ow
   have HB9 := zz (H7).out.bl
   obtain ⟨Z, hZ, hBZ⟩ := (HZ9).out
   have HTH : Hid (w7.there (w.heap.size + 1) 0 (stCells (putS S k zeroS)).toArray.size) := zz (by rw [show (stCells (putS S k zeroS)).toArray.size = 60 from by rw [zM, stCells_length]]; exact Blk.there hBZ (by rw [hZ]; decide))
   have hrg := World.rangeAt_setCells_same w7 (w.heap.size + 1) 0 (stCells (putS S k zeroS)) (by rw [stCells_length]; have := HTH.out; rwa [show (stCells (putS S k zeroS)).toArray.size = 60 from by rw [zM, stCells_length]] at this)
   have HRES := zz (run_loadVar_mid (P := Tryz.prog) _ _ _ 41 (stCells (putS S k zeroS)) _ hrg Tryz.underlying41 rfl (by kernel_rfl))
   have HBX := zz (bSetCells (HB9).out (show w.heap.size ≤ w.heap.size + 1 by omega) 0 (stCells (putS S k zeroS)))
   have HOX := zz (OwnL.kept (row := some (w.heap.size + 1)) (HO9).out (oSetCells (World.grownBy.refl w7 _) 0 (stCells (putS S k zeroS))) (.inr (Blk.apart hBZ (HO9).out (by decide))))
   obtain ⟨wx, hwx⟩ : ∃ wx, w7.setCells (w.heap.size + 1) 0 (stCells (putS S k zeroS)) = wx := ⟨_, rfl⟩
   rw [hwx] at HRES HBX HOX
   have HWX : Hid (w7.setCells (w.heap.size + 1) 0 (stCells (putS S k zeroS)).toArray.toList = wx) := zz hwx
   have hls := (HS9).out.lt
   have hlz := hBZ.lt
   clear hZ hBZ hrg hwx
   go_wp2_with (first
    | (refine wpList_load_mid rfl 41 (.tmp 3) rfl w.heap.size 0 rfl (stCells (putS S k zeroS)) _ (Blk.range (HS9).out) Tryz.underlying41 rfl (by kernel_rfl) ?_)
    | (refine wpList_store_mid rfl 41 (.tmp 6) (.tmp 39) rfl (w.heap.size + 1) 0 (stCells (putS S k zeroS)).toArray rfl rfl HTH.out (by kernel_rfl) (all_oneCell_toArray (int_one (putS S k zeroS))) ?_; rw [HWX.out]))
   refine bodyPost_ret (results_c1 (a := 6) (t := 41) (x := 7) rfl rfl HRES.out) rfl ⟨_, _, _, rfl, HOX.out, HBX.out⟩
 ·have hvb0 : (v == 0) = false := by simpa using hv0
  have c0 : w6.cell? ⟨w.heap.size + 1 + 1, 0, none⟩ = some (.int .i32 X) := by rw [← HNX.out]; exact H6.out.cellx 0 (by decide) (k := .i32) rfl
  have c1 : w6.cell? ⟨w.heap.size + 1 + 1, 1, none⟩ = some (.int .i32 Y) := by rw [← HNY.out]; exact H6.out.cellx 1 (by decide) (k := .i32) rfl
  cases har : arenaB X Y
  ·as_aux_lemma =>
    have HT : Hid (T = putS S k zeroS ∧ M = L) := zz (by
     have := (flyS_gone (F := F) (L := L) (by rw [HX.out]; exact HX4.out) (.inr (by rw [HX.out, HNX.out, HNY.out]; exact har))).symm.trans HTM.out
     exact ⟨(Prod.mk.inj this).1.symm, (Prod.mk.inj this).2.symm⟩)
    obtain ⟨rfl, rfl⟩ := HT.out
    have HIN := zz har
    clear hv0 har
    refine wp_region_mild (by kernel_rfl) (by kernel_rfl) ?_
    repeat (go_big_quiet_step ((first | (go_at_call 216; exact mild_of (r12Box_64 _)) | (go_at_call 223; exact mild_of (arena_in _ _ _ _ HIN.out)))))
    refine wpQuiet_nil ?_
    intro w7 hw'
    obtain ⟨⟨wq, k7⟩, hw''⟩ := hw'
    subst hw''
    have H7 := zz (H6.out.on k7)
    clear k7 H6 c5 c0 c1 hlt
    have HS9 := zz (H7).out.st
    have HZ9 := zz (H7).out.re
    have HO9 := zz (H7).out.ow
    have HB9 := zz (H7).out.bl
    obtain ⟨Z, hZ, hBZ⟩ := (HZ9).out
    have HTH : Hid (w7.there (w.heap.size + 1) 0 (stCells (putS S k zeroS)).toArray.size) := zz (by rw [show (stCells (putS S k zeroS)).toArray.size = 60 from by rw [zM, stCells_length]]; exact Blk.there hBZ (by rw [hZ]; decide))
    have hrg := World.rangeAt_setCells_same w7 (w.heap.size + 1) 0 (stCells (putS S k zeroS)) (by rw [stCells_length]; have := HTH.out; rwa [show (stCells (putS S k zeroS)).toArray.size = 60 from by rw [zM, stCells_length]] at this)
    have HRES := zz (run_loadVar_mid (P := Tryz.prog) _ _ _ 41 (stCells (putS S k zeroS)) _ hrg Tryz.underlying41 rfl (by kernel_rfl))
    have HBX := zz (bSetCells (HB9).out (show w.heap.size ≤ w.heap.size + 1 by omega) 0 (stCells (putS S k zeroS)))
    have HOX := zz (OwnL.kept (row := some (w.heap.size + 1)) (HO9).out (oSetCells (World.grownBy.refl w7 _) 0 (stCells (putS S k zeroS))) (.inr (Blk.apart hBZ (HO9).out (by decide))))
    obtain ⟨wx, hwx⟩ : ∃ wx, w7.setCells (w.heap.size + 1) 0 (stCells (putS S k zeroS)) = wx := ⟨_, rfl⟩
    rw [hwx] at HRES HBX HOX
    have HWX : Hid (w7.setCells (w.heap.size + 1) 0 (stCells (putS S k zeroS)).toArray.toList = wx) := zz hwx
    have hls := (HS9).out.lt
    have hlz := hBZ.lt
    clear hZ hBZ hrg hwx
    go_wp2_with (first
     | (refine wpList_load_mid rfl 41 (.tmp 3) rfl w.heap.size 0 rfl (stCells (putS S k zeroS)) _ (Blk.range (HS9).out) Tryz.underlying41 rfl (by kernel_rfl) ?_)
     | (refine wpList_store_mid rfl 41 (.tmp 6) (.tmp 39) rfl (w.heap.size + 1) 0 (stCells (putS S k zeroS)).toArray rfl rfl HTH.out (by kernel_rfl) (all_oneCell_toArray (int_one (putS S k zeroS))) ?_; rw [HWX.out]))
    refine bodyPost_ret (results_c1 (a := 6) (t := 41) (x := 7) rfl rfl HRES.out) rfl ⟨_, _, _, rfl, HOX.out, HBX.out⟩
  ·as_aux_lemma =>
    have HIN := zz har
    have HV0 := zz hv0
    clear hv0 har
    refine wp_region_mild (by kernel_rfl) (by kernel_rfl) ?_
    repeat (go_big_quiet_step ((first | (go_at_call 216; exact mild_of (r12Box_64 _)) | (go_at_call 223; exact mild_of (arena_in _ _ _ _ HIN.out)))))
    refine wpQuiet_nil ?_
    intro w7 hw'
    obtain ⟨⟨wq, k7⟩, hw''⟩ := hw'
    subst hw''
    have H7 := zz (H6.out.on k7)
    clear k7 H6 c5 c0 c1 hlt hvb0
    have hlt := H7.out.lt
    have c4 : w7.cell? ⟨w.heap.size + 1 + 1, 4, none⟩ = some (.int .i64 (x 4)) := by rw [← HN4.out]; exact H7.out.cellx 4 (by decide) (k := .i64) rfl
    obtain ⟨o, ho⟩ : ∃ o, otherOf (x 4) = o := ⟨_, rfl⟩
    have ho2 : o < 2 := by rw [← ho]; unfold otherOf; split <;> decide
    have ho2' : (o : Int) < 2 := by omega
    have HO := zz ho
    have HOV : Hid (if x 4 = 2 then o = 0 else o = 1) := zz (by rw [← ho]; unfold otherOf; split <;> rfl)
    clear ho
    have HGP : Hid (∀ j, j < 10 → getP (putS S k zeroS) o j = getP S o j) := zz (fun j hj => getP_putS S o k ho2 zeroS j hj)
    go_upto_if 43 with fail
    go_cut [9] (fun v9 wx => v9 = .int .i64 (o : Int) ∧ SF w wx base (putS S k zeroS) (shotNext x) A n c F L)
    case first =>
     by_cases hx2 : x 4 = 2
     ·have ho0 : o = 0 := by have := HOV.out; rwa [if_pos hx2] at this
      rw [hx2] at c4
      go_wp2_with fail
      go_meet
      exact ⟨by rw [ho0]; rfl, H7.out⟩
     ·have ho0 : o = 1 := by have := HOV.out; rwa [if_neg hx2] at this
      have hx2' : (x 4 == 2) = false := by simpa using hx2
      clear hx2
      go_wp2_with fail
      go_meet
      exact ⟨by rw [ho0]; rfl, H7.out⟩
    case rest =>
    obtain ⟨rfl, hc8⟩ := hcut
    have H8 := zz hc8
    clear hc8 H7 c4 hlt HOV
    obtain ⟨p, hp⟩ : ∃ p, getP S o = p := ⟨_, rfl⟩
    have HP := zz hp
    have hpm := HM.out.pl o ho2
    rw [hp] at hpm HGP
    have HPM := zz hpm
    have hpc : plCells (getP (putS S k zeroS) o) = plCells p := rowOf_congr fun j hj => by rw [HGP.out j hj]
    have HRG : Hid (wc.rangeAt w.heap.size (4 + o * 10) (plCells p)) := zz (by rw [← hpc]; exact pl_range H8.out.st ho2)
    have HT8 : Hid ((wc.alloc (.cells (plCells (fun _ => 0)).toArray 35)).there wc.heap.size 0 (plCells p).toArray.size) := zz (there_new _ _ _ rfl)
    have hls := H8.out.st.lt
    clear hp hpm hpc
    go_upto_region 11 with (first
     | (refine wpList_load_mid rfl 35 (.tmp 46) rfl w.heap.size (4 + o * 10) rfl (plCells p) _ HRG.out Tryz.underlying35 rfl (by kernel_rfl) ?_)
     | (refine wpList_store_mid rfl 35 (.tmp 10) (.tmp 47) rfl wc.heap.size 0 (plCells p).toArray rfl rfl HT8.out (by kernel_rfl) (all_oneCell_toArray (pl_one _)) ?_))
    refine named_put (F := fun W => Code.wp _ _ _ _ W) (by rw [zK, zM, plCells_length]; rfl) ?_
    intro w9 hk9 hb9 hz9
    rw [zJ] at hk9
    obtain ⟨gp, hgp⟩ : ∃ gp, wc.heap.size = gp := ⟨_, rfl⟩
    have h9 : SP w w9 base wc.heap.size (putS S k zeroS) (shotNext x) p A n c F L := ⟨H8.out.on hb9, hk9, H8.out.lt⟩
    rw [hgp] at h9 ⊢
    have H9 := zz h9
    clear h9 hk9 hb9 hz9 hgp hls H8 HRG HT8
    simp only [Act.put, zD, zE, zF]
    have hlt := H9.out.sf.lt
    have hlg := H9.out.pl.lt
    have c8 : w9.cell? ⟨gp, 8, none⟩ = some (.int .i64 (p 8)) := H9.out.cellp 8 (by decide) (k := .i64) rfl
    by_cases hd : 0 < p 8
    ·as_aux_lemma =>
      have hT : T = putS S k (shotNext x) ∧ M = L := by
       have h8 : S (4 + o * 10 + 8) = p 8 := by rw [← HP.out]; rfl
       have hh : hitB S (shotNext (getS S k)) (otherOf (getS S k 4)) = false := by
        rw [HX.out, HO.out]; unfold hitB; rw [decide_eq_false (by rw [h8]; omega)]; rfl
       have := (flyS_on (F := F) (L := L) (by rw [HX.out]; exact HX4.out) (by rw [HX.out, HV.out]; exact HV0.out) (by rw [HX.out, HNX.out, HNY.out]; exact HIN.out) hh).symm.trans HTM.out
       rw [HX.out] at this
       exact ⟨(Prod.mk.inj this).1.symm, (Prod.mk.inj this).2.symm⟩
      obtain ⟨rfl, rfl⟩ := hT
      have H10 := H9
      clear HP HPM H9
      have hls := H10.out.sf.st.lt
      have h11 := H10.out.sf.put hk (shotNext x)
      rw [putS_putS] at h11
      have HT10 : Hid (w9.there w.heap.size (24 + k * 6) (shCells (shotNext x)).toArray.size) := zz (Blk.there H10.out.sf.st (by show 24 + k * 6 + 6 ≤ _; rw [zM, stCells_length]; omega))
      go_upto_region 13 with (first
       | (refine wpList_load_mid rfl 38 (.tmp 8) rfl (w.heap.size + 1 + 1) 0 rfl (shCells (shotNext x)) _ (Blk.range H10.out.sf.sh) Tryz.underlying38 rfl (by kernel_rfl) ?_)
       | (refine wpList_store_mid rfl 38 (.tmp 62) (.tmp 60) rfl w.heap.size (24 + k * 6) (shCells (shotNext x)).toArray rfl rfl HT10.out (by kernel_rfl) (all_oneCell_toArray (sh_one _)) ?_))
      obtain ⟨w11, hw11⟩ : ∃ w11, w9.setCells w.heap.size (24 + k * 6) (shCells (shotNext x)) = w11 := ⟨_, rfl⟩
      rw [hw11] at h11
      first | rw [hw11] | rw [show (shCells (shotNext x)).toArray.toList = shCells (shotNext x) from rfl, hw11]
      have H11 := zz h11
      clear hw11 h11 H10 HT10 hls
      have HS9 := zz (H11).out.st
      have HZ9 := zz (H11).out.re
      have HO9 := zz (H11).out.ow
      have HB9 := zz (H11).out.bl
      obtain ⟨Z, hZ, hBZ⟩ := (HZ9).out
      have HTH : Hid (w11.there (w.heap.size + 1) 0 (stCells (putS S k (shotNext x))).toArray.size) := zz (by rw [show (stCells (putS S k (shotNext x))).toArray.size = 60 from by rw [zM, stCells_length]]; exact Blk.there hBZ (by rw [hZ]; decide))
      have hrg := World.rangeAt_setCells_same w11 (w.heap.size + 1) 0 (stCells (putS S k (shotNext x))) (by rw [stCells_length]; have := HTH.out; rwa [show (stCells (putS S k (shotNext x))).toArray.size = 60 from by rw [zM, stCells_length]] at this)
      have HRES := zz (run_loadVar_mid (P := Tryz.prog) _ _ _ 41 (stCells (putS S k (shotNext x))) _ hrg Tryz.underlying41 rfl (by kernel_rfl))
      have HBX := zz (bSetCells (HB9).out (show w.heap.size ≤ w.heap.size + 1 by omega) 0 (stCells (putS S k (shotNext x))))
      have HOX := zz (OwnL.kept (row := some (w.heap.size + 1)) (HO9).out (oSetCells (World.grownBy.refl w11 _) 0 (stCells (putS S k (shotNext x)))) (.inr (Blk.apart hBZ (HO9).out (by decide))))
      obtain ⟨wx, hwx⟩ : ∃ wx, w11.setCells (w.heap.size + 1) 0 (stCells (putS S k (shotNext x))) = wx := ⟨_, rfl⟩
      rw [hwx] at HRES HBX HOX
      have HWX : Hid (w11.setCells (w.heap.size + 1) 0 (stCells (putS S k (shotNext x))).toArray.toList = wx) := zz hwx
      have hls := (HS9).out.lt
      have hlz := hBZ.lt
      clear hZ hBZ hrg hwx
      go_wp2_with (first
       | (refine wpList_load_mid rfl 41 (.tmp 3) rfl w.heap.size 0 rfl (stCells (putS S k (shotNext x))) _ (Blk.range (HS9).out) Tryz.underlying41 rfl (by kernel_rfl) ?_)
       | (refine wpList_store_mid rfl 41 (.tmp 6) (.tmp 63) rfl (w.heap.size + 1) 0 (stCells (putS S k (shotNext x))).toArray rfl rfl HTH.out (by kernel_rfl) (all_oneCell_toArray (int_one (putS S k (shotNext x)))) ?_; rw [HWX.out]))
      refine bodyPost_ret (results_c1 (a := 6) (t := 41) (x := 7) rfl rfl HRES.out) rfl ⟨_, _, _, rfl, HOX.out, HBX.out⟩
    ·have hdd : decide (0 < p 8) = false := decide_eq_false hd
     have c0 : w9.cell? ⟨w.heap.size + 1 + 1, 0, none⟩ = some (.int .i32 X) := by rw [← HNX.out]; exact H9.out.sf.cellx 0 (by decide) (k := .i32) rfl
     have c1 : w9.cell? ⟨w.heap.size + 1 + 1, 1, none⟩ = some (.int .i32 Y) := by rw [← HNY.out]; exact H9.out.sf.cellx 1 (by decide) (k := .i32) rfl
     have d0 : w9.cell? ⟨gp, 0, none⟩ = some (.int .i32 (p 0)) := H9.out.cellp 0 (by decide) (k := .i32) rfl
     have d1 : w9.cell? ⟨gp, 1, none⟩ = some (.int .i32 (p 1)) := H9.out.cellp 1 (by decide) (k := .i32) rfl
     have HD8 : Hid (p 8 = 0) := zz (by have := HPM.out.dn; omega)
     have HTO : Hid (∀ W, Calls Tryz.prog 149 #[.agg #[.int .i32 X, .int .i32 Y], .int .i32 65536, .agg #[.int .i32 (p 0), .int .i32 (p 1)], .int .i32 262144] W fun e w' => e = .returned (.bool (touchB X Y 65536 (p 0) (p 1) 262144)) ∧ Below W.heap.size W w') := zz (fun W => r10Touch_any HFX.out HFY.out (by unfold F32; omega) (by have := HPM.out.ax; unfold F32; omega) (by have := HPM.out.ay; unfold F32; omega) (by unfold F32; omega) W)
     obtain ⟨t, ht⟩ : ∃ t, touchB X Y 65536 (p 0) (p 1) 262144 = t := ⟨_, rfl⟩
     have HHB : Hid (hitB S (shotNext x) o = t) := zz (by
      have h8 : S (4 + o * 10 + 8) = 0 := by rw [← HD8.out, ← HP.out]; rfl
      have e0 : S (4 + o * 10) = p 0 := by rw [← HP.out]; rfl
      have e1 : S (4 + o * 10 + 1) = p 1 := by rw [← HP.out]; rfl
      unfold hitB
      rw [decide_eq_true h8, e0, e1, HNX.out, HNY.out, ht]
      rfl)
     rw [ht] at HTO
     clear ht hd
     cases t
     ·as_aux_lemma =>
       have hT : T = putS S k (shotNext x) ∧ M = L := by
        have hh : hitB S (shotNext (getS S k)) (otherOf (getS S k 4)) = false := by rw [HX.out, HO.out]; exact HHB.out
        have := (flyS_on (F := F) (L := L) (by rw [HX.out]; exact HX4.out) (by rw [HX.out, HV.out]; exact HV0.out) (by rw [HX.out, HNX.out, HNY.out]; exact HIN.out) hh).symm.trans HTM.out
        rw [HX.out] at this
        exact ⟨(Prod.mk.inj this).1.symm, (Prod.mk.inj this).2.symm⟩
       obtain ⟨rfl, rfl⟩ := hT
       clear HP HPM
       go_upto_if 58 with (first | (go_at_call 149; refine (HTO.out _).mono ?_; rintro e w10 ⟨rfl, k10⟩; have H10 := zz (H9.out.on k10); clear k10))
       clear c0 c1 d0 d1 hlt hlg c8 H9
       have hlt := H10.out.sf.lt
       have hls := H10.out.sf.st.lt
       have h11 := H10.out.sf.put hk (shotNext x)
       rw [putS_putS] at h11
       have HT10 : Hid (w10.there w.heap.size (24 + k * 6) (shCells (shotNext x)).toArray.size) := zz (Blk.there H10.out.sf.st (by show 24 + k * 6 + 6 ≤ _; rw [zM, stCells_length]; omega))
       go_upto_region 13 with (first
        | (refine wpList_load_mid rfl 38 (.tmp 8) rfl (w.heap.size + 1 + 1) 0 rfl (shCells (shotNext x)) _ (Blk.range H10.out.sf.sh) Tryz.underlying38 rfl (by kernel_rfl) ?_)
        | (refine wpList_store_mid rfl 38 (.tmp 62) (.tmp 60) rfl w.heap.size (24 + k * 6) (shCells (shotNext x)).toArray rfl rfl HT10.out (by kernel_rfl) (all_oneCell_toArray (sh_one _)) ?_))
       obtain ⟨w11, hw11⟩ : ∃ w11, w10.setCells w.heap.size (24 + k * 6) (shCells (shotNext x)) = w11 := ⟨_, rfl⟩
       rw [hw11] at h11
       first | rw [hw11] | rw [show (shCells (shotNext x)).toArray.toList = shCells (shotNext x) from rfl, hw11]
       have H11 := zz h11
       clear hw11 h11 H10 HT10 hls
       have HS9 := zz (H11).out.st
       have HZ9 := zz (H11).out.re
       have HO9 := zz (H11).out.ow
       have HB9 := zz (H11).out.bl
       obtain ⟨Z, hZ, hBZ⟩ := (HZ9).out
       have HTH : Hid (w11.there (w.heap.size + 1) 0 (stCells (putS S k (shotNext x))).toArray.size) := zz (by rw [show (stCells (putS S k (shotNext x))).toArray.size = 60 from by rw [zM, stCells_length]]; exact Blk.there hBZ (by rw [hZ]; decide))
       have hrg := World.rangeAt_setCells_same w11 (w.heap.size + 1) 0 (stCells (putS S k (shotNext x))) (by rw [stCells_length]; have := HTH.out; rwa [show (stCells (putS S k (shotNext x))).toArray.size = 60 from by rw [zM, stCells_length]] at this)
       have HRES := zz (run_loadVar_mid (P := Tryz.prog) _ _ _ 41 (stCells (putS S k (shotNext x))) _ hrg Tryz.underlying41 rfl (by kernel_rfl))
       have HBX := zz (bSetCells (HB9).out (show w.heap.size ≤ w.heap.size + 1 by omega) 0 (stCells (putS S k (shotNext x))))
       have HOX := zz (OwnL.kept (row := some (w.heap.size + 1)) (HO9).out (oSetCells (World.grownBy.refl w11 _) 0 (stCells (putS S k (shotNext x)))) (.inr (Blk.apart hBZ (HO9).out (by decide))))
       obtain ⟨wx, hwx⟩ : ∃ wx, w11.setCells (w.heap.size + 1) 0 (stCells (putS S k (shotNext x))) = wx := ⟨_, rfl⟩
       rw [hwx] at HRES HBX HOX
       have HWX : Hid (w11.setCells (w.heap.size + 1) 0 (stCells (putS S k (shotNext x))).toArray.toList = wx) := zz hwx
       have hls := (HS9).out.lt
       have hlz := hBZ.lt
       clear hZ hBZ hrg hwx
       go_wp2_with (first
        | (refine wpList_load_mid rfl 41 (.tmp 3) rfl w.heap.size 0 rfl (stCells (putS S k (shotNext x))) _ (Blk.range (HS9).out) Tryz.underlying41 rfl (by kernel_rfl) ?_)
        | (refine wpList_store_mid rfl 41 (.tmp 6) (.tmp 63) rfl (w.heap.size + 1) 0 (stCells (putS S k (shotNext x))).toArray rfl rfl HTH.out (by kernel_rfl) (all_oneCell_toArray (int_one (putS S k (shotNext x)))) ?_; rw [HWX.out]))
       refine bodyPost_ret (results_c1 (a := 6) (t := 41) (x := 7) rfl rfl HRES.out) rfl ⟨_, _, _, rfl, HOX.out, HBX.out⟩
     ·as_aux_lemma =>
       go_upto_if 58 with (first | (go_at_call 149; refine (HTO.out _).mono ?_; rintro e w10 ⟨rfl, k10⟩; have H10 := zz (H9.out.on k10); clear k10))
       clear H9 c0 c1 d0 d1 c8 hlt hlg hdd HTO
       have hlt := H10.out.sf.lt
       have hlg := H10.out.pl.lt
       have hls := H10.out.sf.st.lt
       have hup := HPM.out.up
       have hp5 : 1 ≤ p 5 ∧ p 5 ≤ 3 := by have h1 := HPM.out.hp; have h2 := hup.2 HD8.out; omega
       clear hup
       have c5 : w10.cell? ⟨gp, 5, none⟩ = some (.int .i64 (p 5)) := H10.out.cellp 5 (by decide) (k := .i64) rfl
       have z5 := H10.out.zero 5
       obtain ⟨q, hq⟩ : ∃ q, p 5 - 1 = q := ⟨_, rfl⟩
       have HQ := zz hq
       have hqb : 0 ≤ q ∧ q ≤ 2 := by omega
       have h11 := H10.out.setp 5 (by decide) (k := .i64) rfl q
       go_upto_region 15 with fail
       try rw [HQ.out]
       obtain ⟨w11, hw11⟩ : ∃ w11, w10.setCell ⟨gp, 5, none⟩ (.int .i64 q) = w11 := ⟨_, rfl⟩
       rw [hw11] at h11 ⊢
       have H11 := zz h11
       clear hw11 h11 H10 c5 z5 hlt hlg hls hq
       have hlt := H11.out.sf.lt
       have hlg := H11.out.pl.lt
       have hls := H11.out.sf.st.lt
       have HF0 : Hid (putS S k zeroS 0 = F) := zz (by rw [putS_other S k zeroS 0 (.inl (by omega))]; exact HS0.out)
       have e0 : w11.cell? ⟨w.heap.size, 0, none⟩ = some (.int .i64 F) := by rw [← HF0.out]; exact st_cell H11.out.sf.st 0 (by decide)
       have d0 : w11.cell? ⟨gp, 0, none⟩ = some (.int .i32 (p 0)) := H11.out.cellp 0 (by decide) (k := .i32) rfl
       have HFP : Hid (F32 (p 0)) := zz (by have := HPM.out.ax; unfold F32; omega)
       go_wp2_with fail
       refine (H11.out.tell ((o : Int) + 1) 2 32768 8 0 (p 0) hF (by have := HEV.out.len; omega) (Nat.le_trans (HEV.out.cnt _ _ (.inl rfl)) (by omega)) (by omega) (by decide) (by decide) (by decide) (by decide) HFP.out).mono ?_
       rintro e w12 ⟨A2, c2, n2, rfl, h12⟩
       have H12 := zz h12
       clear h12 H11 e0 d0 hlt hlg hls
       have hlt := H12.out.sf.lt
       have hlg := H12.out.pl.lt
       have c5 : w12.cell? ⟨gp, 5, none⟩ = some (.int .i64 q) := by have := H12.out.cellp 5 (by decide) (k := .i64) rfl; rwa [upd_same] at this
       obtain ⟨L2, hL2⟩ : ∃ L2, addE F L (evT ((o : Int) + 1) 2 2 32768 8 0 (p 0)) = L2 := ⟨_, rfl⟩
       have HEV2 : Hid (EvN L2 (a + 1) (b + 1)) := zz (by rw [← hL2]; exact HEV.out.hit F _)
       rw [hL2] at H12
       have HL2 := zz hL2
       clear hL2
       have hh : hitB S (shotNext (getS S k)) (otherOf (getS S k 4)) = true := by rw [HX.out, HO.out]; exact HHB.out
       have HH := zz hh
       clear hh
       by_cases hq0 : q = 0
       ·subst hq0
        have h01 : o = 0 ∨ o = 1 := by omega
        rcases h01 with rfl | rfl
        ·as_aux_lemma =>
          have c8 : w12.cell? ⟨gp, 8, none⟩ = some (.int .i64 (p 8)) := (by have := H12.out.cellp 8 (by decide) (k := .i64) rfl; rwa [upd_other _ _ _ _ (by decide)] at this)
          have z8 := H12.out.zero 8
          obtain ⟨s9, hs9⟩ : ∃ s9, S 23 = s9 := ⟨_, rfl⟩
          have HS9K := zz hs9
          have hsb : 0 ≤ s9 ∧ s9 ≤ 3 := (by rw [← hs9]; exact (HM.out.pl 1 (by decide)).sc)
          have HSA : Hid (putS S k zeroS 23 = s9) := zz (by rw [putS_other S k zeroS 23 (.inl (by omega))]; exact hs9)
          have e9 : w12.cell? ⟨w.heap.size, 23, none⟩ = some (.int .i64 s9) := (by rw [← HSA.out]; exact st_cell H12.out.sf.st 23 (by decide))
          have y9 := H12.out.sf.st.frozen 23
          have hls := H12.out.sf.st.lt
          have hgl := H12.out.far
          have h13 := (H12.out.setp 8 (by decide) (k := .i64) rfl 30).setS 23 (by decide) (k := .i64) rfl (s9 + 1)
          clear hs9
          go_upto_region 19 with fail
          obtain ⟨w13, hw13⟩ : ∃ w13, (w12.setCell ⟨gp, 8, none⟩ (.int .i64 30)).setCell ⟨w.heap.size, 23, none⟩ (.int .i64 (s9 + 1)) = w13 := ⟨_, rfl⟩
          rw [hw13] at h13 ⊢
          have H13 := zz h13
          clear hw13 h13 H12 c5 c8 z8 e9 y9 hls hlt hlg
          have hls := H13.out.sf.st.lt
          have hlg := H13.out.pl.lt
          have HF1 : Hid (upd (putS S k zeroS) 23 (s9 + 1) 0 = F) := zz (by rw [upd_other _ _ _ _ (by decide)]; exact HF0.out)
          have e0 : w13.cell? ⟨w.heap.size, 0, none⟩ = some (.int .i64 F) := (by rw [← HF1.out]; exact st_cell H13.out.sf.st 0 (by decide))
          have d0 : w13.cell? ⟨gp, 0, none⟩ = some (.int .i32 (p 0)) := H13.out.cellp 0 (by decide) (k := .i32) rfl
          go_wp2_with fail
          refine (H13.out.tell 1 5 32768 10 0 (p 0) hF (by have := HEV2.out.len; omega) (Nat.le_trans (HEV2.out.cnt _ _ (.inr rfl)) (by omega)) (by omega) (by decide) (by decide) (by decide) (by decide) HFP.out).mono ?_
          rintro e w14 ⟨A3, c3, n3, rfl, h14⟩
          have H14' := zz h14
          clear h14 H13 e0 d0 hls hlg
          have hT : T = putP (upd (putS S k zeroS) 23 (s9 + 1)) 0 (upd (upd p 5 0) 8 30) ∧ M = addE F L2 (evT 1 5 5 32768 10 0 (p 0)) := (by
           have := (flyS_kill (F := F) (L := L) (by rw [HX.out]; exact HX4.out) (by rw [HX.out, HV.out]; exact HV0.out) (by rw [HX.out, HNX.out, HNY.out]; exact HIN.out) HH.out (o := 0) (by rw [HX.out]; exact HO.out) (by decide) (by rw [HP.out, HQ.out]; decide)).symm.trans HTM.out
           rw [HP.out, HQ.out, HL2.out] at this
           rw [show S (4 + (1 - 0) * 10 + 9) = s9 from HS9K.out] at this
           exact ⟨(Prod.mk.inj this).1.symm, (Prod.mk.inj this).2.symm⟩)
          obtain ⟨rfl, rfl⟩ := hT
          have hlt := H14'.out.sf.lt
          have hlg := H14'.out.pl.lt
          have hls := (H14').out.sf.st.lt
          have h24 := (H14').out.sf.putp ho2 (upd (upd p 5 0) 8 30)
          have HT12 : Hid ((w14).there w.heap.size (4 + 0 * 10) (plCells (upd (upd p 5 0) 8 30)).toArray.size) := zz (Blk.there (H14').out.sf.st (by rw [show (plCells (upd (upd p 5 0) 8 30)).toArray.size = 10 from by rw [zM, plCells_length], zM, stCells_length]; omega))
          go_upto_region 21 with (first
           | (refine wpList_load_mid rfl 35 (.tmp 10) rfl gp 0 rfl (plCells (upd (upd p 5 0) 8 30)) _ (Blk.range (H14').out.pl) Tryz.underlying35 rfl (by kernel_rfl) ?_)
           | (refine wpList_store_mid rfl 35 (.tmp 106) (.tmp 104) rfl w.heap.size (4 + 0 * 10) (plCells (upd (upd p 5 0) 8 30)).toArray rfl rfl HT12.out (by kernel_rfl) (all_oneCell_toArray (pl_one _)) ?_))
          obtain ⟨w24, hw24⟩ : ∃ w24, (w14).setCells w.heap.size (4 + 0 * 10) (plCells (upd (upd p 5 0) 8 30)) = w24 := ⟨_, rfl⟩
          rw [hw24] at h24
          first | rw [hw24] | rw [show (plCells (upd (upd p 5 0) 8 30)).toArray.toList = plCells (upd (upd p 5 0) 8 30) from rfl, hw24]
          have H24 := zz h24
          clear hw24 h24 HT12 hls
          have HS9 := zz (H24).out.st
          have HZ9 := zz (H24).out.re
          have HO9 := zz (H24).out.ow
          have HB9 := zz (H24).out.bl
          obtain ⟨Z, hZ, hBZ⟩ := (HZ9).out
          have HTH : Hid (w24.there (w.heap.size + 1) 0 (stCells (putP (upd (putS S k zeroS) 23 (s9 + 1)) 0 (upd (upd p 5 0) 8 30))).toArray.size) := zz (by rw [show (stCells (putP (upd (putS S k zeroS) 23 (s9 + 1)) 0 (upd (upd p 5 0) 8 30))).toArray.size = 60 from by rw [zM, stCells_length]]; exact Blk.there hBZ (by rw [hZ]; decide))
          have hrg := World.rangeAt_setCells_same w24 (w.heap.size + 1) 0 (stCells (putP (upd (putS S k zeroS) 23 (s9 + 1)) 0 (upd (upd p 5 0) 8 30))) (by rw [stCells_length]; have := HTH.out; rwa [show (stCells (putP (upd (putS S k zeroS) 23 (s9 + 1)) 0 (upd (upd p 5 0) 8 30))).toArray.size = 60 from by rw [zM, stCells_length]] at this)
          have HRES := zz (run_loadVar_mid (P := Tryz.prog) _ _ _ 41 (stCells (putP (upd (putS S k zeroS) 23 (s9 + 1)) 0 (upd (upd p 5 0) 8 30))) _ hrg Tryz.underlying41 rfl (by kernel_rfl))
          have HBX := zz (bSetCells (HB9).out (show w.heap.size ≤ w.heap.size + 1 by omega) 0 (stCells (putP (upd (putS S k zeroS) 23 (s9 + 1)) 0 (upd (upd p 5 0) 8 30))))
          have HOX := zz (OwnL.kept (row := some (w.heap.size + 1)) (HO9).out (oSetCells (World.grownBy.refl w24 _) 0 (stCells (putP (upd (putS S k zeroS) 23 (s9 + 1)) 0 (upd (upd p 5 0) 8 30)))) (.inr (Blk.apart hBZ (HO9).out (by decide))))
          obtain ⟨wx, hwx⟩ : ∃ wx, w24.setCells (w.heap.size + 1) 0 (stCells (putP (upd (putS S k zeroS) 23 (s9 + 1)) 0 (upd (upd p 5 0) 8 30))) = wx := ⟨_, rfl⟩
          rw [hwx] at HRES HBX HOX
          have HWX : Hid (w24.setCells (w.heap.size + 1) 0 (stCells (putP (upd (putS S k zeroS) 23 (s9 + 1)) 0 (upd (upd p 5 0) 8 30))).toArray.toList = wx) := zz hwx
          have hls := (HS9).out.lt
          have hlz := hBZ.lt
          clear hZ hBZ hrg hwx
          go_wp2_with (first
           | (refine wpList_load_mid rfl 41 (.tmp 3) rfl w.heap.size 0 rfl (stCells (putP (upd (putS S k zeroS) 23 (s9 + 1)) 0 (upd (upd p 5 0) 8 30))) _ (Blk.range (HS9).out) Tryz.underlying41 rfl (by kernel_rfl) ?_)
           | (refine wpList_store_mid rfl 41 (.tmp 6) (.tmp 107) rfl (w.heap.size + 1) 0 (stCells (putP (upd (putS S k zeroS) 23 (s9 + 1)) 0 (upd (upd p 5 0) 8 30))).toArray rfl rfl HTH.out (by kernel_rfl) (all_oneCell_toArray (int_one (putP (upd (putS S k zeroS) 23 (s9 + 1)) 0 (upd (upd p 5 0) 8 30)))) ?_; rw [HWX.out]))
          refine bodyPost_ret (results_c1 (a := 6) (t := 41) (x := 7) rfl rfl HRES.out) rfl ⟨_, _, _, rfl, HOX.out, HBX.out⟩
        ·as_aux_lemma =>
          have c8 : w12.cell? ⟨gp, 8, none⟩ = some (.int .i64 (p 8)) := (by have := H12.out.cellp 8 (by decide) (k := .i64) rfl; rwa [upd_other _ _ _ _ (by decide)] at this)
          have z8 := H12.out.zero 8
          obtain ⟨s9, hs9⟩ : ∃ s9, S 13 = s9 := ⟨_, rfl⟩
          have HS9K := zz hs9
          have hsb : 0 ≤ s9 ∧ s9 ≤ 3 := (by rw [← hs9]; exact (HM.out.pl 0 (by decide)).sc)
          have HSA : Hid (putS S k zeroS 13 = s9) := zz (by rw [putS_other S k zeroS 13 (.inl (by omega))]; exact hs9)
          have e9 : w12.cell? ⟨w.heap.size, 13, none⟩ = some (.int .i64 s9) := (by rw [← HSA.out]; exact st_cell H12.out.sf.st 13 (by decide))
          have y9 := H12.out.sf.st.frozen 13
          have hls := H12.out.sf.st.lt
          have hgl := H12.out.far
          have h13 := (H12.out.setp 8 (by decide) (k := .i64) rfl 30).setS 13 (by decide) (k := .i64) rfl (s9 + 1)
          clear hs9
          go_upto_region 19 with fail
          obtain ⟨w13, hw13⟩ : ∃ w13, (w12.setCell ⟨gp, 8, none⟩ (.int .i64 30)).setCell ⟨w.heap.size, 13, none⟩ (.int .i64 (s9 + 1)) = w13 := ⟨_, rfl⟩
          rw [hw13] at h13 ⊢
          have H13 := zz h13
          clear hw13 h13 H12 c5 c8 z8 e9 y9 hls hlt hlg
          have hls := H13.out.sf.st.lt
          have hlg := H13.out.pl.lt
          have HF1 : Hid (upd (putS S k zeroS) 13 (s9 + 1) 0 = F) := zz (by rw [upd_other _ _ _ _ (by decide)]; exact HF0.out)
          have e0 : w13.cell? ⟨w.heap.size, 0, none⟩ = some (.int .i64 F) := (by rw [← HF1.out]; exact st_cell H13.out.sf.st 0 (by decide))
          have d0 : w13.cell? ⟨gp, 0, none⟩ = some (.int .i32 (p 0)) := H13.out.cellp 0 (by decide) (k := .i32) rfl
          go_wp2_with fail
          refine (H13.out.tell 2 5 32768 10 0 (p 0) hF (by have := HEV2.out.len; omega) (Nat.le_trans (HEV2.out.cnt _ _ (.inr rfl)) (by omega)) (by omega) (by decide) (by decide) (by decide) (by decide) HFP.out).mono ?_
          rintro e w14 ⟨A3, c3, n3, rfl, h14⟩
          have H14' := zz h14
          clear h14 H13 e0 d0 hls hlg
          have hT : T = putP (upd (putS S k zeroS) 13 (s9 + 1)) 1 (upd (upd p 5 0) 8 30) ∧ M = addE F L2 (evT 2 5 5 32768 10 0 (p 0)) := (by
           have := (flyS_kill (F := F) (L := L) (by rw [HX.out]; exact HX4.out) (by rw [HX.out, HV.out]; exact HV0.out) (by rw [HX.out, HNX.out, HNY.out]; exact HIN.out) HH.out (o := 1) (by rw [HX.out]; exact HO.out) (by decide) (by rw [HP.out, HQ.out]; decide)).symm.trans HTM.out
           rw [HP.out, HQ.out, HL2.out] at this
           rw [show S (4 + (1 - 1) * 10 + 9) = s9 from HS9K.out] at this
           exact ⟨(Prod.mk.inj this).1.symm, (Prod.mk.inj this).2.symm⟩)
          obtain ⟨rfl, rfl⟩ := hT
          have hlt := H14'.out.sf.lt
          have hlg := H14'.out.pl.lt
          have hls := (H14').out.sf.st.lt
          have h24 := (H14').out.sf.putp ho2 (upd (upd p 5 0) 8 30)
          have HT12 : Hid ((w14).there w.heap.size (4 + 1 * 10) (plCells (upd (upd p 5 0) 8 30)).toArray.size) := zz (Blk.there (H14').out.sf.st (by rw [show (plCells (upd (upd p 5 0) 8 30)).toArray.size = 10 from by rw [zM, plCells_length], zM, stCells_length]; omega))
          go_upto_region 21 with (first
           | (refine wpList_load_mid rfl 35 (.tmp 10) rfl gp 0 rfl (plCells (upd (upd p 5 0) 8 30)) _ (Blk.range (H14').out.pl) Tryz.underlying35 rfl (by kernel_rfl) ?_)
           | (refine wpList_store_mid rfl 35 (.tmp 106) (.tmp 104) rfl w.heap.size (4 + 1 * 10) (plCells (upd (upd p 5 0) 8 30)).toArray rfl rfl HT12.out (by kernel_rfl) (all_oneCell_toArray (pl_one _)) ?_))
          obtain ⟨w24, hw24⟩ : ∃ w24, (w14).setCells w.heap.size (4 + 1 * 10) (plCells (upd (upd p 5 0) 8 30)) = w24 := ⟨_, rfl⟩
          rw [hw24] at h24
          first | rw [hw24] | rw [show (plCells (upd (upd p 5 0) 8 30)).toArray.toList = plCells (upd (upd p 5 0) 8 30) from rfl, hw24]
          have H24 := zz h24
          clear hw24 h24 HT12 hls
          have HS9 := zz (H24).out.st
          have HZ9 := zz (H24).out.re
          have HO9 := zz (H24).out.ow
          have HB9 := zz (H24).out.bl
          obtain ⟨Z, hZ, hBZ⟩ := (HZ9).out
          have HTH : Hid (w24.there (w.heap.size + 1) 0 (stCells (putP (upd (putS S k zeroS) 13 (s9 + 1)) 1 (upd (upd p 5 0) 8 30))).toArray.size) := zz (by rw [show (stCells (putP (upd (putS S k zeroS) 13 (s9 + 1)) 1 (upd (upd p 5 0) 8 30))).toArray.size = 60 from by rw [zM, stCells_length]]; exact Blk.there hBZ (by rw [hZ]; decide))
          have hrg := World.rangeAt_setCells_same w24 (w.heap.size + 1) 0 (stCells (putP (upd (putS S k zeroS) 13 (s9 + 1)) 1 (upd (upd p 5 0) 8 30))) (by rw [stCells_length]; have := HTH.out; rwa [show (stCells (putP (upd (putS S k zeroS) 13 (s9 + 1)) 1 (upd (upd p 5 0) 8 30))).toArray.size = 60 from by rw [zM, stCells_length]] at this)
          have HRES := zz (run_loadVar_mid (P := Tryz.prog) _ _ _ 41 (stCells (putP (upd (putS S k zeroS) 13 (s9 + 1)) 1 (upd (upd p 5 0) 8 30))) _ hrg Tryz.underlying41 rfl (by kernel_rfl))
          have HBX := zz (bSetCells (HB9).out (show w.heap.size ≤ w.heap.size + 1 by omega) 0 (stCells (putP (upd (putS S k zeroS) 13 (s9 + 1)) 1 (upd (upd p 5 0) 8 30))))
          have HOX := zz (OwnL.kept (row := some (w.heap.size + 1)) (HO9).out (oSetCells (World.grownBy.refl w24 _) 0 (stCells (putP (upd (putS S k zeroS) 13 (s9 + 1)) 1 (upd (upd p 5 0) 8 30)))) (.inr (Blk.apart hBZ (HO9).out (by decide))))
          obtain ⟨wx, hwx⟩ : ∃ wx, w24.setCells (w.heap.size + 1) 0 (stCells (putP (upd (putS S k zeroS) 13 (s9 + 1)) 1 (upd (upd p 5 0) 8 30))) = wx := ⟨_, rfl⟩
          rw [hwx] at HRES HBX HOX
          have HWX : Hid (w24.setCells (w.heap.size + 1) 0 (stCells (putP (upd (putS S k zeroS) 13 (s9 + 1)) 1 (upd (upd p 5 0) 8 30))).toArray.toList = wx) := zz hwx
          have hls := (HS9).out.lt
          have hlz := hBZ.lt
          clear hZ hBZ hrg hwx
          go_wp2_with (first
           | (refine wpList_load_mid rfl 41 (.tmp 3) rfl w.heap.size 0 rfl (stCells (putP (upd (putS S k zeroS) 13 (s9 + 1)) 1 (upd (upd p 5 0) 8 30))) _ (Blk.range (HS9).out) Tryz.underlying41 rfl (by kernel_rfl) ?_)
           | (refine wpList_store_mid rfl 41 (.tmp 6) (.tmp 107) rfl (w.heap.size + 1) 0 (stCells (putP (upd (putS S k zeroS) 13 (s9 + 1)) 1 (upd (upd p 5 0) 8 30))).toArray rfl rfl HTH.out (by kernel_rfl) (all_oneCell_toArray (int_one (putP (upd (putS S k zeroS) 13 (s9 + 1)) 1 (upd (upd p 5 0) 8 30)))) ?_; rw [HWX.out]))
          refine bodyPost_ret (results_c1 (a := 6) (t := 41) (x := 7) rfl rfl HRES.out) rfl ⟨_, _, _, rfl, HOX.out, HBX.out⟩
       ·as_aux_lemma =>
         have hT : T = putP (putS S k zeroS) o (upd p 5 q) ∧ M = L2 := by
          have := (flyS_hit (F := F) (L := L) (by rw [HX.out]; exact HX4.out) (by rw [HX.out, HV.out]; exact HV0.out) (by rw [HX.out, HNX.out, HNY.out]; exact HIN.out) HH.out (o := o) (by rw [HX.out]; exact HO.out) ho2 (by rw [HP.out, HQ.out]; omega)).symm.trans HTM.out
          rw [HP.out, HQ.out, HL2.out] at this
          exact ⟨(Prod.mk.inj this).1.symm, (Prod.mk.inj this).2.symm⟩
         obtain ⟨rfl, rfl⟩ := hT
         have hq0' : (q == 0) = false := by simpa using hq0
         clear hq0
         have hls := (H12).out.sf.st.lt
         have h24 := (H12).out.sf.putp ho2 (upd p 5 q)
         have HT12 : Hid ((w12).there w.heap.size (4 + o * 10) (plCells (upd p 5 q)).toArray.size) := zz (Blk.there (H12).out.sf.st (by rw [show (plCells (upd p 5 q)).toArray.size = 10 from by rw [zM, plCells_length], zM, stCells_length]; omega))
         go_upto_region 21 with (first
          | (refine wpList_load_mid rfl 35 (.tmp 10) rfl gp 0 rfl (plCells (upd p 5 q)) _ (Blk.range (H12).out.pl) Tryz.underlying35 rfl (by kernel_rfl) ?_)
          | (refine wpList_store_mid rfl 35 (.tmp 106) (.tmp 104) rfl w.heap.size (4 + o * 10) (plCells (upd p 5 q)).toArray rfl rfl HT12.out (by kernel_rfl) (all_oneCell_toArray (pl_one _)) ?_))
         obtain ⟨w24, hw24⟩ : ∃ w24, (w12).setCells w.heap.size (4 + o * 10) (plCells (upd p 5 q)) = w24 := ⟨_, rfl⟩
         rw [hw24] at h24
         first | rw [hw24] | rw [show (plCells (upd p 5 q)).toArray.toList = plCells (upd p 5 q) from rfl, hw24]
         have H24 := zz h24
         clear hw24 h24 HT12 hls
         have HS9 := zz (H24).out.st
         have HZ9 := zz (H24).out.re
         have HO9 := zz (H24).out.ow
         have HB9 := zz (H24).out.bl
         obtain ⟨Z, hZ, hBZ⟩ := (HZ9).out
         have HTH : Hid (w24.there (w.heap.size + 1) 0 (stCells (putP (putS S k zeroS) o (upd p 5 q))).toArray.size) := zz (by rw [show (stCells (putP (putS S k zeroS) o (upd p 5 q))).toArray.size = 60 from by rw [zM, stCells_length]]; exact Blk.there hBZ (by rw [hZ]; decide))
         have hrg := World.rangeAt_setCells_same w24 (w.heap.size + 1) 0 (stCells (putP (putS S k zeroS) o (upd p 5 q))) (by rw [stCells_length]; have := HTH.out; rwa [show (stCells (putP (putS S k zeroS) o (upd p 5 q))).toArray.size = 60 from by rw [zM, stCells_length]] at this)
         have HRES := zz (run_loadVar_mid (P := Tryz.prog) _ _ _ 41 (stCells (putP (putS S k zeroS) o (upd p 5 q))) _ hrg Tryz.underlying41 rfl (by kernel_rfl))
         have HBX := zz (bSetCells (HB9).out (show w.heap.size ≤ w.heap.size + 1 by omega) 0 (stCells (putP (putS S k zeroS) o (upd p 5 q))))
         have HOX := zz (OwnL.kept (row := some (w.heap.size + 1)) (HO9).out (oSetCells (World.grownBy.refl w24 _) 0 (stCells (putP (putS S k zeroS) o (upd p 5 q)))) (.inr (Blk.apart hBZ (HO9).out (by decide))))
         obtain ⟨wx, hwx⟩ : ∃ wx, w24.setCells (w.heap.size + 1) 0 (stCells (putP (putS S k zeroS) o (upd p 5 q))) = wx := ⟨_, rfl⟩
         rw [hwx] at HRES HBX HOX
         have HWX : Hid (w24.setCells (w.heap.size + 1) 0 (stCells (putP (putS S k zeroS) o (upd p 5 q))).toArray.toList = wx) := zz hwx
         have hls := (HS9).out.lt
         have hlz := hBZ.lt
         clear hZ hBZ hrg hwx
         go_wp2_with (first
          | (refine wpList_load_mid rfl 41 (.tmp 3) rfl w.heap.size 0 rfl (stCells (putP (putS S k zeroS) o (upd p 5 q))) _ (Blk.range (HS9).out) Tryz.underlying41 rfl (by kernel_rfl) ?_)
          | (refine wpList_store_mid rfl 41 (.tmp 6) (.tmp 107) rfl (w.heap.size + 1) 0 (stCells (putP (putS S k zeroS) o (upd p 5 q))).toArray rfl rfl HTH.out (by kernel_rfl) (all_oneCell_toArray (int_one (putP (putS S k zeroS) o (upd p 5 q)))) ?_; rw [HWX.out]))
         refine bodyPost_ret (results_c1 (a := 6) (t := 41) (x := 7) rfl rfl HRES.out) rfl ⟨_, _, _, rfl, HOX.out, HBX.out⟩
end
end
section
structure TF (w0 w : World) (n0 n1 : Nat) (S : Nat → Int) (A : Option Addr) (n c : Nat) (L : List Ev) : Prop where
 st : Blk w w0.heap.size 41 (stCells S).toArray
 inn : Blk w (w0.heap.size + 1) 118 #[.int .u8 n0, .int .u8 n1]
 re : ∃ Z : Array Value, Z.size = 60 ∧ Blk w (w0.heap.size + 1 + 1) 41 Z
 ow : OwnL w w0.heap.size 62 9 (.slice A n c) Ev.cells L
 bl : Below w0.heap.size w0 w
section
variable {w0 w w' : World} {n0 n1 : Nat} {S : Nat → Int} {A : Option Addr} {n c : Nat} {L : List Ev}
theorem TF.on (h : TF w0 w n0 n1 S A n c L) (hb : Below w.heap.size w w') : TF w0 w' n0 n1 S A n c L := by
 obtain ⟨Z, hZ, hr⟩ := h.re
 exact ⟨h.st.on hb, h.inn.on hb, ⟨Z, hZ, hr.on hb⟩, h.ow.below hb, bTrans h.bl hb⟩
theorem TF.lt (h : TF w0 w n0 n1 S A n c L) : w0.heap.size + 1 + 1 < w.heap.size := by
 obtain ⟨Z, hZ, hr⟩ := h.re
 exact hr.lt
theorem TF.told (h : TF w0 w n0 n1 S A n c L) {A' : Option Addr} {n' c' : Nat} {L' : List Ev} (hb : Below w.heap.size w w') (ho : OwnL w' w0.heap.size 62 9 (.slice A' n' c') Ev.cells L') : TF w0 w' n0 n1 S A' n' c' L' := by
 have k := h.on hb
 exact ⟨k.st, k.inn, k.re, ho, k.bl⟩
theorem TF.put (h : TF w0 w n0 n1 S A n c L) (T : Nat → Int) : TF w0 (w.setCells w0.heap.size 0 (stCells T)) n0 n1 T A n c L := by
 obtain ⟨Z, hZ, hr⟩ := h.re
 exact ⟨h.st.whole (stCells T) (by rw [stCells_length, zM, stCells_length]), h.inn.farC (by omega) _ _, ⟨Z, hZ, hr.farC (by omega) _ _⟩, OwnL.kept (row := some w0.heap.size) h.ow (oSetCells (World.grownBy.refl w _) _ _) (.inr (Blk.apart h.st h.ow (by decide))), bSetCells h.bl (zL _) _ _⟩
theorem TF.setS (h : TF w0 w n0 n1 S A n c L) (j : Nat) (hj : j < 60) {k : IntKind} (hk : kdS j = k) (v : Int) : TF w0 (w.setCell ⟨w0.heap.size, j, none⟩ (.int k v)) n0 n1 (upd S j v) A n c L := by
 obtain ⟨Z, hZ, hr⟩ := h.re
 exact ⟨st_set h.st j hj hk v, h.inn.farG (by omega) _ _, ⟨Z, hZ, hr.farG (by omega) _ _⟩, h.ow.farG (Blk.apart h.st h.ow (by decide)) _ _, bSetG h.bl (zL _) _ _⟩
theorem TF.there (h : TF w0 w n0 n1 S A n c L) (T : Nat → Int) : w.there w0.heap.size 0 (stCells T).toArray.size := by
 rw [show (stCells T).toArray.size = 60 from by rw [zM, stCells_length]]
 exact Blk.there h.st (by rw [zM, stCells_length]; decide)
theorem TF.farC (h : TF w0 w n0 n1 S A n c L) {g : Nat} (hg : w.heap.size ≤ g) {W : World} (k : Below w.heap.size w W) (vs : List Value) : TF w0 (W.setCells g 0 vs) n0 n1 S A n c L := by
 have hlt := h.lt
 have hW := h.on k
 obtain ⟨Z, hZ, hr⟩ := hW.re
 refine ⟨hW.st.farC (by omega) 0 vs, hW.inn.farC (by omega) 0 vs, ⟨Z, hZ, hr.farC (by omega) 0 vs⟩, OwnL.kept (row := some g) hW.ow (oSetCells (World.grownBy.refl W _) 0 vs) (.inr (fun e => by have := h.ow.block_lt g e; omega)), bSetCells hW.bl (by omega) 0 vs⟩
theorem TF.tell (em kd ga pr ln y : Int) (h : TF w0 w n0 n1 S A n c L) {F : Int} (hp : PageOk F L) (hF : 0 ≤ F ∧ F ≤ 1073741824) (hL : L.length < 64) (hc : cntE L em kd ≤ 15) (h1 : 0 ≤ em ∧ em ≤ 2) (h2 : 1 ≤ kd ∧ kd ≤ 9) (h4 : 0 ≤ ga ∧ ga ≤ 32768) (h5 : 0 ≤ pr ∧ pr ≤ 15) (h6 : 0 ≤ ln ∧ ln ≤ 600) (hx : F32 y) :
  Calls Tryz.prog 150 #[.slice A n c, .int .i64 F, .int .i64 em, .int .i64 kd, .int .i64 ga, .int .i64 pr, .int .i64 ln, .int .i32 y] w fun e w' => ∃ A' c' n', e = .returned (.slice A' n' c') ∧ TF w0 w' n0 n1 S A' n' c' (addE F L (evT em kd kd ga pr ln y)) := by
 have hlt := h.lt
 refine (r12Told_any em kd ga pr ln y h.ow (by omega) hp (evT_ok F _ _ _ _ _ _ _ hF h1 h2 (by omega) h4 h5 h6 0 (by decide)) hL hc (by omega) hx).mono ?_
 rintro e w' ⟨A', c', n', rfl, ho, hb⟩
 exact ⟨A', c', n', rfl, h.told hb ho⟩
end
theorem pl_cell {w : World} {g : Nat} {p : Nat → Int} (h : Blk w g 35 (plCells p).toArray) (j : Nat) (hj : j < 10) {k : IntKind} (hk : kdP j = k) : w.cell? ⟨g, j, none⟩ = some (.int k (p j)) := by
 rw [h.cell]
 simp [plCells, rowOf, hj, hk]
theorem zero_plF (W : World) : (zeroValue 35).run Tryz.prog W = .ok (.agg (plCells (fun _ => 0)).toArray) W := by kernel_rfl
def overS (f d r : Int) : Nat → Int := upd (upd (beginS d) 0 f) 2 r
theorem built_over (f d r : Int) : Tryz.prog.built 41 [(0, .int .i64 f), (1, .int .u32 d), (2, .int .i64 r), (3, .int .i64 600), (4, .agg freshBoth.toArray)] = some (stCells (overS f d r)).toArray := by kernel_rfl
theorem over_eq (S : Nat → Int) : stCells (clearS (putP (putP (upd (upd S 2 (S 2 + 1)) 3 600) 0 (freshP 0)) 1 (freshP 1))) = stCells (overS (S 0) (S 1) (S 2 + 1)) := by
 refine rowOf_congr fun j hj => ?_
 congr 1
 unfold clearS overS beginS putP upd
 by_cases h : 24 ≤ j
 ·simp only [show 24 ≤ j ∧ j < 60 from ⟨h, hj⟩, if_true, and_self]
  simp [show ¬ j = 0 by omega, show ¬ j = 1 by omega, show ¬ j = 2 by omega, show ¬ j = 3 by omega, show ¬ j < 14 by omega, show ¬ j < 24 by omega]
 ·have h24 : j < 24 := by omega
  have : ∀ (S : Nat → Int) (j : Fin 24), True := fun _ _ => trivial
  rcases (show j = 0 ∨ j = 1 ∨ j = 2 ∨ j = 3 ∨ (4 ≤ j ∧ j < 14) ∨ (14 ≤ j ∧ j < 24) by omega) with rfl | rfl | rfl | rfl | ⟨a, b⟩ | ⟨a, b⟩
  ·simp
  ·simp
  ·simp
  ·simp
  ·simp [show ¬ j = 0 by omega, show ¬ j = 1 by omega, show ¬ j = 2 by omega, show ¬ j = 3 by omega, show ¬ 24 ≤ j by omega, show ¬ 14 ≤ j by omega, a, b]
  ·simp [show ¬ j = 0 by omega, show ¬ j = 1 by omega, show ¬ j = 2 by omega, show ¬ j = 3 by omega, show ¬ 24 ≤ j by omega, a, b, show ¬ j < 14 by omega]
section
variable {S : Nat → Int} {n0 n1 : Nat} {w : World}
theorem r12Step_any (hok : StOk S) (h0 : n0 < 64) (h1 : n1 < 64) (T : Nat → Int) (M : List Ev) (hTM : stepS n0 n1 S = (T, M)) :
  Calls Tryz.prog 73 #[.agg (stCells S).toArray, .agg #[.int .u8 n0, .int .u8 n1]] w fun e w' => ∃ A n c, e = .returned (.tuple #[.agg (stCells T).toArray, .slice A n c]) ∧ OwnL w' w.heap.size 62 9 (.slice A n c) Ev.cells M ∧ Below w.heap.size w w' := by
 have hfr := hok.m.fr
 have HO := zz hok
 have HTM := zz hTM
 have hs1 := stg1_ok n0 hok
 have hs2 := stg2_ok n0 n1 hok
 have hp1 := stg1_page (n0 := n0) hfr
 have hp2 := stg2_page (n0 := n0) (n1 := n1) hok
 have hl1 := hs1.2.1.len
 have hl2 := hs2.2.1.len
 have hf1 := hs1.2.2.fr
 have hf2 := hs2.2.2.fr
 obtain ⟨T1, M1, h1e⟩ : ∃ T1 M1, stg1 n0 S = (T1, M1) := ⟨_, _, rfl⟩
 obtain ⟨T2, M2, h2e⟩ : ∃ T2 M2, stg2 n0 n1 S = (T2, M2) := ⟨_, _, rfl⟩
 have e2 : playS 1 n1 (S 0) (T1, M1) = (T2, M2) := by rw [← h1e]; exact h2e
 rw [h1e] at hs1 hp1 hl1 hf1
 rw [h2e] at hs2 hp2 hl2 hf2
 have HPL0 : Hid (∀ W A n c, OwnL W w.heap.size 62 9 (.slice A n c) Ev.cells [] → w.heap.size ≤ W.heap.size → Calls Tryz.prog 148 #[.agg (stCells S).toArray, .slice A n c, .int .i64 0, .int .i64 n0] W fun e w' => ∃ A' n' c', e = .returned (.tuple #[.agg (stCells T1).toArray, .slice A' n' c']) ∧ OwnL w' w.heap.size 62 9 (.slice A' n' c') Ev.cells M1 ∧ Below W.heap.size W w') :=
  zz (fun W A n c ho hb => r12Player_any (i := 0) (F := S 0) (by decide) ho hb (PageOk.nil _) hok rfl hfr (by decide) h0 T1 M1 h1e)
 have HPL1 : Hid (∀ W A n c, OwnL W w.heap.size 62 9 (.slice A n c) Ev.cells M1 → w.heap.size ≤ W.heap.size → Calls Tryz.prog 148 #[.agg (stCells T1).toArray, .slice A n c, .int .i64 1, .int .i64 n1] W fun e w' => ∃ A' n' c', e = .returned (.tuple #[.agg (stCells T2).toArray, .slice A' n' c']) ∧ OwnL w' w.heap.size 62 9 (.slice A' n' c') Ev.cells M2 ∧ Below W.heap.size W w') :=
  zz (fun W A n c ho hb => r12Player_any (i := 1) (F := S 0) (by decide) ho hb hp1 hs1.1 hf1 hfr (by have : M1.length ≤ 4 := hl1; omega) h1 T2 M2 e2)
 have HP2 : Hid (PageOk (S 0) M2) := zz hp2
 have HS2 := zz hs2.1
 have HF2 : Hid (T2 0 = S 0) := zz hf2
 have hm2 : M2.length ≤ 8 := hl2
 have HE2 := zz h2e
 have h0b : (n0 : Int) < 64 := by omega
 have h1b : (n1 : Int) < 64 := by omega
 clear hok hTM hs1 hs2 hp1 hp2 hl1 hl2 hf1 hf2 h1e h2e e2
 go_enter Tryz.func73, Tryz.ntmps73
 go_upto_region 1 with fail
 refine named3 (F := fun W => Code.wp _ _ _ _ W) ?_
 intro w1 k0 k1 k2 hb1 hz1
 have hl1 := k2.lt
 have HK0 := zz k0
 have HK1 := zz k1
 have HK2 := zz k2
 have HB1 := zz hb1
 clear k0 k1 k2 hb1 hz1
 go_upto_region 2 with fail
 have h2 : TF w (w1.alloc (.cells #[] 62)) n0 n1 S (some ⟨w1.heap.size, 0, none⟩) 0 0 [] := ⟨HK0.out.alloc _, HK1.out.alloc _, ⟨_, by rfl, HK2.out.alloc _⟩, OwnL.lit [] #[] (by omega) (by decide) Ev.cells_length rfl rfl rfl, bAlloc HB1.out _⟩
 obtain ⟨w2, hw2⟩ : ∃ w2, w1.alloc (.cells #[] 62) = w2 := ⟨_, rfl⟩
 rw [hw2] at h2 ⊢
 have H2 := zz h2
 clear h2 hw2 HK0 HK1 HK2 HB1 hl1
 have hlt := H2.out.lt
 have i0 := H2.out.inn.cell 0
 simp only [zA, zB, zC] at i0
 go_upto_region 3 with (first
  | (refine wpList_load_mid rfl 41 (.tmp 2) rfl w.heap.size 0 rfl (stCells S) _ (Blk.range H2.out.st) Tryz.underlying41 rfl (by kernel_rfl) ?_)
  | (go_at_call 148; refine (HPL0.out _ _ _ _ H2.out.ow (by omega)).mono ?_; rintro e w3 ⟨A1, m1, c1, rfl, ho3, hb3⟩; have H3 := zz (H2.out.told hb3 ho3); have HTH3 : Hid (w3.there w.heap.size 0 (stCells T1).toArray.size) := zz (H3.out.there T1); obtain ⟨w4, hw4⟩ : ∃ w4, w3.setCells w.heap.size 0 (stCells T1) = w4 := ⟨_, rfl⟩; have HW4 : Hid (w3.setCells w.heap.size 0 (stCells T1).toArray.toList = w4) := zz hw4; clear ho3 hb3)
  | (refine wpList_store_mid rfl 41 (.tmp 2) (.tmp 18) rfl w.heap.size 0 (stCells T1).toArray rfl rfl HTH3.out (by kernel_rfl) (all_oneCell_toArray (int_one T1)) ?_; rw [HW4.out]))
 have h4 := H3.out.put T1
 rw [hw4] at h4
 have H4 := zz h4
 clear hw4 h4 H3 HTH3 H2 HPL0 hlt i0
 have hlt := H4.out.lt
 have i1 := H4.out.inn.cell 1
 simp only [zA, zB, zC] at i1
 go_upto_region 4 with (first
  | (refine wpList_load_mid rfl 41 (.tmp 2) rfl w.heap.size 0 rfl (stCells T1) _ (Blk.range H4.out.st) Tryz.underlying41 rfl (by kernel_rfl) ?_)
  | (go_at_call 148; refine (HPL1.out _ _ _ _ H4.out.ow (by omega)).mono ?_; rintro e w5 ⟨A2, m2, c2, rfl, ho5, hb5⟩; have H5 := zz (H4.out.told hb5 ho5); have HTH5 : Hid (w5.there w.heap.size 0 (stCells T2).toArray.size) := zz (H5.out.there T2); obtain ⟨w6, hw6⟩ : ∃ w6, w5.setCells w.heap.size 0 (stCells T2) = w6 := ⟨_, rfl⟩; have HW6 : Hid (w5.setCells w.heap.size 0 (stCells T2).toArray.toList = w6) := zz hw6; clear ho5 hb5)
  | (refine wpList_store_mid rfl 41 (.tmp 2) (.tmp 27) rfl w.heap.size 0 (stCells T2).toArray rfl rfl HTH5.out (by kernel_rfl) (all_oneCell_toArray (int_one T2)) ?_; rw [HW6.out]))
 have h6 := H5.out.put T2
 rw [hw6] at h6
 have H6 := zz h6
 clear hw6 h6 H5 HTH5 H4 HPL1 hlt i1 h0b h1b
 have hlt := H6.out.lt
 obtain ⟨pa, hpa⟩ : ∃ pa, getP T2 0 = pa := ⟨_, rfl⟩
 obtain ⟨pb, hpb⟩ : ∃ pb, getP T2 1 = pb := ⟨_, rfl⟩
 have HPA := zz hpa
 have HPB := zz hpb
 have HRA : Hid (w6.rangeAt w.heap.size 4 (plCells pa)) := zz (by rw [← hpa]; exact pl_range H6.out.st (i := 0) (by decide))
 have HRB : Hid (w6.rangeAt w.heap.size 14 (plCells pb)) := zz (by rw [← hpb]; exact pl_range H6.out.st (i := 1) (by decide))
 have hls := H6.out.st.lt
 clear hpa hpb
 have hKp := Keeps.base w6
 refine wp_region_mixedG [.pure, .pure, .held, .pure, .pure, .held, .make, .make, .tail, .tail] (fun _ => newF w6 35 (plCells (fun _ => 0)).toArray) [6, 7] [8] (by kernel_rfl) (by kernel_rfl) (by kernel_rfl) (by kernel_rfl) (fun i hi => ?_) ?_
 ·simp only [List.mem_cons, List.not_mem_nil, or_false] at hi
  rcases hi with rfl | rfl
  ·exact ⟨_, 35, _, rfl, rfl, zero_plF, rfl, rfl⟩
  ·exact ⟨_, 35, _, rfl, rfl, zero_plF, rfl, rfl⟩
 repeat (first | (refine mixG_pure rfl rfl rfl (fun K hK => ?_); go_big_quiet_op; refine hK _ ?_; clear hK K))
 refine mixG_load rfl rfl (by assumption) 35 (.tmp 30) rfl w.heap.size 4 rfl (plCells pa) _ hls HRA.out Tryz.underlying35 rfl (by kernel_rfl) ?_
 simp only [Act.put, zD, zE, zF]
 repeat (first | (refine mixG_pure rfl rfl rfl (fun K hK => ?_); go_big_quiet_op; refine hK _ ?_; clear hK K))
 refine mixG_load rfl rfl (by assumption) 35 (.tmp 33) rfl w.heap.size 14 rfl (plCells pb) _ hls HRB.out Tryz.underlying35 rfl (by kernel_rfl) ?_
 simp only [Act.put, zD, zE, zF]
 refine mixG_make rfl rfl (by assumption) newF_st (newF_makes rfl zero_plF rfl) ?_
 rintro v ⟨ga, rfl⟩ hKp2 -
 simp only [Act.put, zD, zE, zF]
 refine mixG_make rfl rfl (by assumption) newF_st (newF_makes rfl zero_plF rfl) ?_
 rintro v ⟨gb, rfl⟩ hKp3 hNe
 simp only [Act.put, zD, zE, zF]
 have hga0 : w6.heap.size ≤ ga := by obtain ⟨W, hW⟩ := hNe; exact (hW.1.2 ga rfl).1
 refine mixG_new rfl rfl hNe (by assumption) 35 (.tmp 7) (.tmp 31) rfl ga 0 (plCells pa).toArray rfl rfl hga0 (fun _ W hW => ?_) (by kernel_rfl) (all_oneCell_toArray (pl_one _)) ?_
 ·exact Blk.there (hW.1.2 ga rfl).2 (by simp only [zM, plCells_length]; decide)
 simp only [Act.put, zD, zE, zF]
 refine mixG_store rfl rfl rfl (by obtain ⟨W, hW⟩ := hNe; exact ⟨_, W, hW, Grown.refl _⟩) 35 (.tmp 8) (.tmp 34) rfl gb 0 (plCells pb).toArray rfl rfl (fun hdist W hW => ?_) (by kernel_rfl) (all_oneCell_toArray (pl_one _)) ?_
 ·obtain ⟨W1, hW1, hg1⟩ := hW
  have hne : ga ≠ gb := fun e => hdist 6 7 ga rfl rfl (by decide) rfl (by rw [e]; rfl)
  exact Blk.there (((hW1.2 gb rfl).2.farC (fun e => hne e.symm) 0 _).on hg1) (by simp only [zM, plCells_length]; decide)
 simp only [Act.put, zD, zE, zF]
 refine mixG_nil ?_
 rintro hdist W' ⟨W1, ⟨W, hD, hg1⟩, rfl⟩
 have hne : ga ≠ gb := fun e => hdist 6 7 ga rfl rfl (by decide) rfl (by rw [e]; rfl)
 obtain ⟨⟨hg, hRa⟩, hRb⟩ := hD
 obtain ⟨hga, hBa⟩ := hRa ga rfl
 obtain ⟨hgb, hBb⟩ := hRb gb rfl
 have hg : Grown w6 W := hg
 have hga' : w.heap.size + 1 + 1 < ga := by have := H6.out.lt; omega
 have hgb' : w.heap.size + 1 + 1 < gb := by have := H6.out.lt; omega
 have hx1 := ((hBa.whole (plCells pa) (by rw [plCells_length, zM, plCells_length])).on hg1).farC hne 0 (plCells pb)
 have hx2 := ((hBb.farC (fun e => hne e.symm) 0 (plCells pa)).on hg1).whole (plCells pb) (by rw [plCells_length, zM, plCells_length])
 have hx3 := H6.out.farC hgb (bTrans (bSetCells hg hga 0 (plCells pa)) hg1) (plCells pb)
 obtain ⟨w7, hw7⟩ : ∃ w7, W1.setCells gb 0 (plCells pb) = w7 := ⟨_, rfl⟩
 rw [hw7] at hx1 hx2 hx3
 first | rw [hw7] | (show Exit.then _ _ _ _ (W1.setCells gb 0 (plCells pb)); rw [hw7])
 have H7 := zz hx3
 have HA7 := zz hx1
 have HB7 := zz hx2
 clear hw7 hx1 hx2 hx3 hBa hBb hRa hRb hg hg1 hga hga0 hgb hdist hKp hKp2 hKp3 hNe HRA HRB hls hlt H6 hne
 have hlt := H7.out.lt
 have hla := HA7.out.lt
 have hlb := HB7.out.lt
 have a8 : w7.cell? ⟨ga, 8, none⟩ = some (.int .i64 (pa 8)) := pl_cell HA7.out 8 (by decide) (k := .i64) rfl
 have b8 : w7.cell? ⟨gb, 8, none⟩ = some (.int .i64 (pb 8)) := pl_cell HB7.out 8 (by decide) (k := .i64) rfl
 have hA12 : T2 12 = pa 8 := by rw [← HPA.out]; rfl
 have hB22 : T2 22 = pb 8 := by rw [← HPB.out]; rfl
 obtain ⟨q, hq⟩ : ∃ q, clashB T2 = q := ⟨_, rfl⟩
 have HQ := zz hq
 have HA12 := zz hA12
 have HB22 := zz hB22
 clear hq hA12 hB22
 go_upto_region 5 with fail
 go_cut [49] (fun v wx => v = .bool q ∧ TF w wx n0 n1 T2 A2 m2 c2 M2 ∧ Blk wx ga 35 (plCells pa).toArray ∧ Blk wx gb 35 (plCells pb).toArray)
 case first => as_aux_lemma =>
  by_cases ha0 : pa 8 = 0
  ·have ha1 : (pa 8 == 0) = true := by simpa using ha0
   by_cases hb0 : pb 8 = 0
   ·have hb1 : (pb 8 == 0) = true := by simpa using hb0
    have hqt : touchB (pa 0) (pa 1) 262144 (pb 0) (pb 1) 262144 = q := by
     rw [← HQ.out]
     unfold clashB
     rw [HA12.out, HB22.out, decide_eq_true ha0, decide_eq_true hb0, ← HPA.out, ← HPB.out]
     rfl
    have hma := HS2.out.m.pl 0 (by decide)
    have hmb := HS2.out.m.pl 1 (by decide)
    rw [HPA.out] at hma
    rw [HPB.out] at hmb
    have HTO : Hid (∀ W, Calls Tryz.prog 149 #[.agg #[.int .i32 (pa 0), .int .i32 (pa 1)], .int .i32 262144, .agg #[.int .i32 (pb 0), .int .i32 (pb 1)], .int .i32 262144] W fun e w' => e = .returned (.bool q) ∧ Below W.heap.size W w') := zz (fun W => by
     rw [← hqt]
     exact r10Touch_any (by have := hma.ax; unfold F32; omega) (by have := hma.ay; unfold F32; omega) (by unfold F32; omega) (by have := hmb.ax; unfold F32; omega) (by have := hmb.ay; unfold F32; omega) (by unfold F32; omega) W)
    have a0 : w7.cell? ⟨ga, 0, none⟩ = some (.int .i32 (pa 0)) := pl_cell HA7.out 0 (by decide) (k := .i32) rfl
    have a1 : w7.cell? ⟨ga, 1, none⟩ = some (.int .i32 (pa 1)) := pl_cell HA7.out 1 (by decide) (k := .i32) rfl
    have b0 : w7.cell? ⟨gb, 0, none⟩ = some (.int .i32 (pb 0)) := pl_cell HB7.out 0 (by decide) (k := .i32) rfl
    have b1 : w7.cell? ⟨gb, 1, none⟩ = some (.int .i32 (pb 1)) := pl_cell HB7.out 1 (by decide) (k := .i32) rfl
    clear ha0 hb0 hqt hma hmb
    go_wp2_with fail
    refine (HTO.out _).mono ?_
    rintro e w8 ⟨rfl, hb8⟩
    have H8 := zz (H7.out.on hb8)
    have HA8 := zz (HA7.out.on hb8)
    have HB8 := zz (HB7.out.on hb8)
    clear hb8
    go_wp2_with fail
    go_meet
    exact ⟨rfl, H8.out, HA8.out, HB8.out⟩
   ·have hb1 : (pb 8 == 0) = false := by simpa using hb0
    have hq0 : q = false := by
     rw [← HQ.out]; unfold clashB; rw [HA12.out, HB22.out, decide_eq_false hb0]; simp
    clear ha0 hb0
    go_wp2_with fail
    go_meet
    exact ⟨by rw [hq0], H7.out, HA7.out, HB7.out⟩
  ·have ha1 : (pa 8 == 0) = false := by simpa using ha0
   have hq0 : q = false := by
    rw [← HQ.out]; unfold clashB; rw [HA12.out, decide_eq_false ha0]; rfl
   clear ha0
   go_wp2_with fail
   go_meet
   exact ⟨by rw [hq0], H7.out, HA7.out, HB7.out⟩
 case rest => as_aux_lemma =>
 obtain ⟨rfl, hc8, hca, hcb⟩ := hcut
 clear H7 HA7 HB7 a8 b8 hlt hla hlb HA12 HB22
 have H8 := zz hc8
 have HA8 := zz hca
 have HB8 := zz hcb
 clear hc8 hca hcb
 obtain ⟨w8, hw8⟩ : ∃ w8, w8 = wc := ⟨_, rfl⟩
 rw [← hw8] at H8 HA8 HB8 ⊢
 clear hw8
 have hlt := H8.out.lt
 have hls := H8.out.st.lt
 have hla := HA8.out.lt
 have hlb := HB8.out.lt
 have HC3 : Hid (stg3 n0 n1 S = if q then (upd (upd (upd (upd T2 6 (pb 2)) 7 (pb 3)) 16 (pa 2)) 17 (pa 3), addE (S 0) M2 (evT 0 4 4 16384 6 0 0)) else (T2, M2)) := zz (by
  unfold stg3
  rw [HE2.out]
  unfold clashS
  dsimp only
  rw [HQ.out, ← HPA.out, ← HPB.out]
  rfl)
 go_upto_if 49 with fail
 go_cut [6] (fun v wx => ∃ A n c, v = .slice A n c ∧ TF w wx n0 n1 (stg4 n0 n1 S 0).1 A n c (stg4 n0 n1 S 0).2)
 case first => as_aux_lemma =>
  cases q
  ·have hc := HC3.out
   rw [if_neg (by decide)] at hc
   have HC := zz hc
   clear hc
   go_wp2_with fail
   go_meet
   refine ⟨A2, m2, c2, rfl, ?_⟩
   show TF w w8 n0 n1 (stg3 n0 n1 S).1 A2 m2 c2 (stg3 n0 n1 S).2
   rw [HC.out]
   exact H8.out
  ·have hc := HC3.out
   rw [if_pos rfl] at hc
   have HC := zz hc
   clear hc
   have b2 : w8.cell? ⟨gb, 2, none⟩ = some (.int .i32 (pb 2)) := pl_cell HB8.out 2 (by decide) (k := .i32) rfl
   have b3 : w8.cell? ⟨gb, 3, none⟩ = some (.int .i32 (pb 3)) := pl_cell HB8.out 3 (by decide) (k := .i32) rfl
   have a2 : w8.cell? ⟨ga, 2, none⟩ = some (.int .i32 (pa 2)) := pl_cell HA8.out 2 (by decide) (k := .i32) rfl
   have a3 : w8.cell? ⟨ga, 3, none⟩ = some (.int .i32 (pa 3)) := pl_cell HA8.out 3 (by decide) (k := .i32) rfl
   have y6 := H8.out.st.frozen 6
   have y7 := H8.out.st.frozen 7
   have y16 := H8.out.st.frozen 16
   have y17 := H8.out.st.frozen 17
   have e6 : w8.cell? ⟨w.heap.size, 6, none⟩ = some (.int .i32 (T2 6)) := st_cell H8.out.st 6 (by decide)
   have e7 : w8.cell? ⟨w.heap.size, 7, none⟩ = some (.int .i32 (T2 7)) := st_cell H8.out.st 7 (by decide)
   have e16 : w8.cell? ⟨w.heap.size, 16, none⟩ = some (.int .i32 (T2 16)) := st_cell H8.out.st 16 (by decide)
   have e17 : w8.cell? ⟨w.heap.size, 17, none⟩ = some (.int .i32 (T2 17)) := st_cell H8.out.st 17 (by decide)
   have h9 := (((H8.out.setS 6 (by decide) (k := .i32) rfl (pb 2)).setS 7 (by decide) (k := .i32) rfl (pb 3)).setS 16 (by decide) (k := .i32) rfl (pa 2)).setS 17 (by decide) (k := .i32) rfl (pa 3)
   go_upto_region 8 with fail
   obtain ⟨w9, hw9⟩ : ∃ w9, (((w8.setCell ⟨w.heap.size, 6, none⟩ (.int .i32 (pb 2))).setCell ⟨w.heap.size, 7, none⟩ (.int .i32 (pb 3))).setCell ⟨w.heap.size, 16, none⟩ (.int .i32 (pa 2))).setCell ⟨w.heap.size, 17, none⟩ (.int .i32 (pa 3)) = w9 := ⟨_, rfl⟩
   rw [hw9] at h9 ⊢
   have H9 := zz h9
   clear hw9 h9 b2 b3 a2 a3 y6 y7 y16 y17 e6 e7 e16 e17 hlt hls hla hlb
   have hls := H9.out.st.lt
   have e0 : w9.cell? ⟨w.heap.size, 0, none⟩ = some (.int .i64 (S 0)) := by
    rw [← HF2.out]; exact st_cell H9.out.st 0 (by decide)
   go_wp2_with fail
   refine (H9.out.tell 0 4 16384 6 0 0 HP2.out hfr (by omega) (Nat.le_trans (cntE_le _ _ _) (by omega)) (by decide) (by decide) (by decide) (by decide) (by decide) (by unfold F32; decide)).mono ?_
   rintro e w10 ⟨A', c', n', rfl, h10⟩
   have H10 := zz h10
   clear h10
   go_wp2_with fail
   go_meet
   refine ⟨A', n', c', rfl, ?_⟩
   show TF w _ n0 n1 (stg3 n0 n1 S).1 _ _ _ (stg3 n0 n1 S).2
   rw [HC.out]
   exact H10.out
 case rest => as_aux_lemma =>
 obtain ⟨A3, m3, c3, rfl, hcut⟩ := hcut
 clear H8 HA8 HB8 hlt hls hla hlb HC3 HQ HPA HPB
 have H10 := zz hcut
 clear hcut
 obtain ⟨w10, hw10⟩ : ∃ w10, w10 = wc := ⟨_, rfl⟩
 rw [← hw10] at H10 ⊢
 clear hw10
 go_upto_region 9 with fail
 go_wp2_with fail
 go_loopw [6, 9] (fun v6 v9 wr => ∃ (k : Nat) (A : Option Addr) (n c : Nat), k ≤ 6 ∧ v9 = .int .i64 k ∧ v6 = .slice A n c ∧ Hid (TF w wr n0 n1 (stg4 n0 n1 S k).1 A n c (stg4 n0 n1 S k).2)) (fun _ v9 _ => 6 - (intOf v9).toNat)
 case atStart => exact ⟨0, A3, m3, c3, by decide, rfl, rfl, H10⟩
 case round =>
 obtain ⟨k, A4, m4, c4, hk, rfl, rfl, HR⟩ := hrel
 clear H10
 have hk4 := stg4_ok n0 n1 HO.out k hk
 by_cases hlt6 : k < 6
 ·as_aux_lemma =>
   have hk2 : (k : Int) < 6 := by omega
   have hpg := stg4_page (n0 := n0) (n1 := n1) HO.out k hk
   obtain ⟨T4, M4, h4e⟩ : ∃ T4 M4, stg4 n0 n1 S k = (T4, M4) := ⟨_, _, rfl⟩
   obtain ⟨T5, M5, h5e⟩ : ∃ T5 M5, stg4 n0 n1 S (k + 1) = (T5, M5) := ⟨_, _, rfl⟩
   have hstep : flyS k (S 0) (T4, M4) = (T5, M5) := by rw [← h4e]; exact h5e
   rw [h4e] at hk4 hpg HR
   obtain ⟨hm4, hev4, hd4⟩ := hk4
   have hd40 : T4 0 = S 0 := hd4.fr
   have hsh := hm4.sh k hlt6
   have how : 0 ≤ T4 (24 + k * 6 + 4) ∧ T4 (24 + k * 6 + 4) ≤ 2 := hsh.ow
   have e4 : wr.cell? ⟨w.heap.size, 24 + k * 6 + 4, none⟩ = some (.int .i64 (T4 (24 + k * 6 + 4))) := by
    have := st_cell HR.out.st (24 + k * 6 + 4) (by omega)
    rwa [kdS_s k 4 (by decide)] at this
   have hlt := HR.out.lt
   have hls := HR.out.st.lt
   have H5E := zz h5e
   have HOK4 : Hid (StM T4 ∧ EvN M4 (9 + 2 * k) (0 + k) ∧ PageOk (S 0) M4 ∧ T4 0 = S 0) := zz ⟨hm4, hev4, hpg, hd40⟩
   have HST := zz hstep
   obtain ⟨v, hv⟩ : ∃ v, T4 (24 + k * 6 + 4) = v := ⟨_, rfl⟩
   have HV := zz hv
   rw [hv] at e4 how
   clear hm4 hev4 hd4 hd40 hsh hpg h4e h5e hstep hv
   by_cases hv0 : v = 0
   ·as_aux_lemma =>
     have HE : Hid (T5 = T4 ∧ M5 = M4) := zz (by
      have := (flyS_zero (F := S 0) (L := M4) (by rw [HV.out]; exact hv0)).symm.trans HST.out
      exact ⟨(Prod.mk.inj this).1.symm, (Prod.mk.inj this).2.symm⟩)
     subst hv0
     go_wp2_with fail
     go_roundw
     case rel => exact ⟨k + 1, A4, m4, c4, by omega, by go_num, rfl, zz (by rw [H5E.out, HE.out.1, HE.out.2]; exact HR.out)⟩
     case measure => simp [intOf]; omega
   ·as_aux_lemma =>
     have hv1 : decide (0 < v) = true := decide_eq_true (by omega)
     have HSH : Hid (∀ W, OwnL W w.heap.size 62 9 (.slice A4 m4 c4) Ev.cells M4 → w.heap.size ≤ W.heap.size → Calls Tryz.prog 151 #[.agg (stCells T4).toArray, .slice A4 m4 c4, .int .i64 k] W fun e w' => ∃ A' n' c', e = .returned (.tuple #[.agg (stCells T5).toArray, .slice A' n' c']) ∧ OwnL w' w.heap.size 62 9 (.slice A' n' c') Ev.cells M5 ∧ Below W.heap.size W w') :=
      zz (fun W ho hb => r12Shot_any hlt6 ho hb HOK4.out.2.2.1 HOK4.out.1 HOK4.out.2.2.2 hfr (by show T4 (24 + k * 6 + 4) ≠ 0; rw [HV.out]; exact hv0) HOK4.out.2.1 (by omega) (by omega) T5 M5 HST.out)
     clear hv0
     go_upto_if 73 with fail
     go_upto_region 11 with (first
      | (refine wpList_load_mid rfl 41 (.tmp 2) rfl w.heap.size 0 rfl (stCells T4) _ (Blk.range HR.out.st) Tryz.underlying41 rfl (by kernel_rfl) ?_)
      | (go_at_call 151; refine (HSH.out _ HR.out.ow (by omega)).mono ?_; rintro e w5 ⟨A5, m5, c5, rfl, ho5, hb5⟩; have H5 := zz (HR.out.told hb5 ho5); have HTH5 : Hid (w5.there w.heap.size 0 (stCells T5).toArray.size) := zz (H5.out.there T5); obtain ⟨w6, hw6⟩ : ∃ w6, w5.setCells w.heap.size 0 (stCells T5) = w6 := ⟨_, rfl⟩; have HW6 : Hid (w5.setCells w.heap.size 0 (stCells T5).toArray.toList = w6) := zz hw6; clear ho5 hb5)
      | (refine wpList_store_mid rfl 41 (.tmp 2) (.tmp 79) rfl w.heap.size 0 (stCells T5).toArray rfl rfl HTH5.out (by kernel_rfl) (all_oneCell_toArray (int_one T5)) ?_; rw [HW6.out]))
     have h6 := H5.out.put T5
     rw [hw6] at h6
     have H6 := zz h6
     clear hw6 h6 H5 HTH5 HR HSH e4 hlt hls
     go_wp2_with fail
     go_roundw
     case rel => exact ⟨k + 1, A5, m5, c5, by omega, by go_num, rfl, zz (by rw [H5E.out]; exact H6.out)⟩
     case measure => simp [intOf]; omega
 ·as_aux_lemma =>
   obtain rfl : k = 6 := by omega
   have hpg := stg4_page (n0 := n0) (n1 := n1) HO.out 6 (by decide)
   have hnr := stg4_nor n0 n1 S 6
   have h5e : stg5 n0 n1 S = roundS (S 0) (stg4 n0 n1 S 6) := rfl
   obtain ⟨T4, M4, h4e⟩ : ∃ T4 M4, stg4 n0 n1 S 6 = (T4, M4) := ⟨_, _, rfl⟩
   rw [h4e] at hk4 hpg HR hnr h5e
   obtain ⟨hm4, hev4, hd4⟩ := hk4
   have HR : Hid (TF w wr n0 n1 T4 A4 m4 c4 M4) := HR
   have hpg : PageOk (S 0) M4 := hpg
   have HD40 : Hid (T4 0 = S 0) := zz hd4.fr
   have hl3 : 1 ≤ T4 3 ∧ T4 3 ≤ 600 := hm4.lf
   have hr2 : 0 ≤ T4 2 ∧ T4 2 ≤ 1073741824 := hm4.rd
   have hsc0 : 0 ≤ T4 13 ∧ T4 13 ≤ 3 := (hm4.pl 0 (by decide)).sc
   have hsc1 : 0 ≤ T4 23 ∧ T4 23 ≤ 3 := (hm4.pl 1 (by decide)).sc
   have HPG := zz hpg
   have HLEN : Hid (M4.length ≤ 21 ∧ cntE M4 0 7 = 0) := zz ⟨hev4.len, hnr.cnt⟩
   have HTM5 : Hid (upd (roundS (S 0) (T4, M4)).1 0 (S 0 + 1) = T ∧ (roundS (S 0) (T4, M4)).2 = M) := zz (by
    have := HTM.out
    rw [stepS_eq, h5e] at this
    exact ⟨(Prod.mk.inj this).1, (Prod.mk.inj this).2⟩)
   clear hm4 hev4 hd4 hpg hnr h5e h4e hk hlt6 HTM HO HP2 HS2 HF2 HE2
   have e3 : wr.cell? ⟨w.heap.size, 3, none⟩ = some (.int .i64 (T4 3)) := st_cell HR.out.st 3 (by decide)
   have z3 := HR.out.st.frozen 3
   have hls := HR.out.st.lt
   obtain ⟨l, hl⟩ : ∃ l, T4 3 - 1 = l := ⟨_, rfl⟩
   have HL := zz hl
   have h11 := HR.out.setS 3 (by decide) (k := .i64) rfl l
   go_upto_region 15 with fail
   try rw [HL.out]
   obtain ⟨w11, hw11⟩ : ∃ w11, wr.setCell ⟨w.heap.size, 3, none⟩ (.int .i64 l) = w11 := ⟨_, rfl⟩
   rw [hw11] at h11 ⊢
   have H11 := zz h11
   clear hw11 h11 e3 z3 hls HR
   have hlb : 0 ≤ l ∧ l ≤ 599 := by omega
   clear hl
   have hls := H11.out.st.lt
   obtain ⟨q, hq⟩ : ∃ q, overB T4 = q := ⟨_, rfl⟩
   have HQ : Hid ((decide (l ≤ 0) || (decide (3 ≤ T4 13) || decide (3 ≤ T4 23))) = q) := zz (by rw [← hq, ← HL.out]; rfl)
   have HRS : Hid (roundS (S 0) (T4, M4) = if q then (clearS (putP (putP (upd (upd T4 2 (T4 2 + 1)) 3 600) 0 (freshP 0)) 1 (freshP 1)), addE (S 0) M4 (evT 0 7 7 32768 12 0 0)) else (upd T4 3 l, M4)) := zz (by
    unfold roundS
    dsimp only
    rw [hq, HL.out])
   have e3 : w11.cell? ⟨w.heap.size, 3, none⟩ = some (.int .i64 l) := by
    have := st_cell H11.out.st 3 (by decide)
    rwa [upd_same] at this
   have e13 : w11.cell? ⟨w.heap.size, 13, none⟩ = some (.int .i64 (T4 13)) := by
    have := st_cell H11.out.st 13 (by decide)
    rwa [upd_other _ _ _ _ (by decide)] at this
   have e23 : w11.cell? ⟨w.heap.size, 23, none⟩ = some (.int .i64 (T4 23)) := by
    have := st_cell H11.out.st 23 (by decide)
    rwa [upd_other _ _ _ _ (by decide)] at this
   clear hq
   go_cut [101] (fun v wx => v = .bool q ∧ w11 = wx)
   case first => as_aux_lemma =>
    by_cases l0 : l = 0
    ·have l1 : (l == 0) = true := by simpa using l0
     have hq1 : q = true := by rw [← HQ.out, l0]; rfl
     clear l0
     go_wp2_with fail
     go_meet
     exact ⟨by rw [hq1], rfl⟩
    ·have l1 : (l == 0) = false := by simpa using l0
     have hqd : (decide (3 ≤ T4 13) || decide (3 ≤ T4 23)) = q := by
      rw [← HQ.out, decide_eq_false (show ¬ l ≤ 0 by omega), Bool.false_or]
     clear l0
     by_cases s0 : 3 ≤ T4 13
     ·have s1 : decide (3 ≤ T4 13) = true := decide_eq_true s0
      have hq1 : q = true := by rw [← hqd, s1]; rfl
      clear s0 hqd
      go_wp2_with fail
      go_meet
      exact ⟨by rw [hq1], rfl⟩
     ·have s1 : decide (3 ≤ T4 13) = false := decide_eq_false s0
      have hq1 : decide (3 ≤ T4 23) = q := by rw [← hqd, s1]; rfl
      clear s0 hqd
      go_wp2_with fail
      go_meet
      exact ⟨by first | rfl | rw [hq1], rfl⟩
   case rest => as_aux_lemma =>
   obtain ⟨rfl, rfl⟩ := hcut
   clear e3 e13 e23 HQ
   go_upto_if 101 with fail
   go_cut [6] (fun v wx => ∃ A n c, v = .slice A n c ∧ TF w wx n0 n1 (roundS (S 0) (T4, M4)).1 A n c (roundS (S 0) (T4, M4)).2)
   case first => as_aux_lemma =>
    cases q
    ·have hrs := HRS.out
     rw [if_neg (by decide)] at hrs
     have HE := zz hrs
     clear hrs
     go_wp2_with fail
     go_meet
     refine ⟨A4, m4, c4, rfl, ?_⟩
     rw [HE.out]
     exact H11.out
    ·have hrs := HRS.out
     rw [if_pos rfl] at hrs
     have HE := zz hrs
     clear hrs
     have e0 : w11.cell? ⟨w.heap.size, 0, none⟩ = some (.int .i64 (S 0)) := by
      have := st_cell H11.out.st 0 (by decide)
      rwa [upd_other _ _ _ _ (by decide), HD40.out] at this
     go_wp2_with fail
     refine (H11.out.tell 0 7 32768 12 0 0 HPG.out hfr (by have := HLEN.out.1; omega) (by rw [HLEN.out.2]; decide) (by decide) (by decide) (by decide) (by decide) (by decide) (by unfold F32; decide)).mono ?_
     rintro e w12 ⟨A', c', n', rfl, h12⟩
     have H12 := zz h12
     clear h12 H11 e0 hls
     have hls := H12.out.st.lt
     have e0 : w12.cell? ⟨w.heap.size, 0, none⟩ = some (.int .i64 (S 0)) := by
      have := st_cell H12.out.st 0 (by decide)
      rwa [upd_other _ _ _ _ (by decide), HD40.out] at this
     have e1 : w12.cell? ⟨w.heap.size, 1, none⟩ = some (.int .u32 (T4 1)) := by
      have := st_cell H12.out.st 1 (by decide)
      rwa [upd_other _ _ _ _ (by decide)] at this
     have e2 : w12.cell? ⟨w.heap.size, 2, none⟩ = some (.int .i64 (T4 2)) := by
      have := st_cell H12.out.st 2 (by decide)
      rwa [upd_other _ _ _ _ (by decide)] at this
     obtain ⟨d, hd⟩ : ∃ d, T4 1 = d := ⟨_, rfl⟩
     obtain ⟨r, hr⟩ : ∃ r, T4 2 = r := ⟨_, rfl⟩
     have HOV := zz (over_eq T4)
     rw [hd, hr, HD40.out] at HOV
     rw [hd] at e1
     rw [hr] at e2 hr2 HE
     clear hd hr
     go_upto_region 17 with fail
     have hKp := Keeps.base w12
     refine wp_region_mixedT [.pure, .held, .pure, .held, .pure, .held, .pure, .make, .make, .pure, .pure, .tail] (fun | 7 => valF (.agg #[.int .i32 (-2097152), .int .i32 0, .int .i32 0, .int .i32 0, .int .i64 0, .int .i64 3, .int .i64 0, .int .i64 0, .int .i64 0, .int .i64 0]) | _ => valF (.agg #[.int .i32 2097152, .int .i32 0, .int .i32 0, .int .i32 0, .int .i64 32768, .int .i64 3, .int .i64 0, .int .i64 0, .int .i64 0, .int .i64 0])) (by kernel_rfl) (by kernel_rfl) ?_
     repeat (first | (refine mix_pure rfl rfl rfl (fun K hK => ?_); go_big_quiet_op; refine hK _ ?_; clear hK K) | (refine mix_held rfl rfl rfl (by assumption) (fun K hK => ?_); go_big_quiet_op; refine hK _ ?_; clear hK K))
     refine mix_make rfl rfl (by assumption) valF_st (fun W hW => ?_) ?_
     ·have HS2 := zz (valF_of (r12Fresh_0 W))
      go_simp
      exact HS2.out
     rintro _ rfl hKp2
     simp only [Act.put, zD, zE, zF]
     refine mix_make rfl rfl (by assumption) valF_st (fun W hW => ?_) ?_
     ·have HS2 := zz (valF_of (r12Fresh_1 W))
      go_simp
      exact HS2.out
     rintro _ rfl hKp3
     simp only [Act.put, zD, zE, zF]
     refine mix_built rfl rfl 36 [(0, .tmp 113), (1, .tmp 114)] rfl _ _ rfl built_both ?_
     simp only [Act.put, zD, zE, zF]
     refine mix_built rfl rfl 41 [(0, .tmp 107), (1, .tmp 109), (2, .tmp 112), (3, .const (.int .i64 600)), (4, .tmp 115)] rfl _ _ rfl (built_over (S 0) d (r + 1)) ?_
     simp only [Act.put, zD, zE, zF]
     refine mix_store rfl rfl 41 (.tmp 2) (.tmp 116) rfl w.heap.size 0 (stCells (overS (S 0) d (r + 1))).toArray rfl rfl (fun W hW => ?_) (by kernel_rfl) (all_oneCell_toArray (int_one _)) ?_
     ·have hW : Grown w12 W := hW.1.1
      exact (H12.out.on hW).there _
     simp only [Act.put, zD, zE, zF]
     refine mix_nil ?_
     rintro W' ⟨W, hD, rfl⟩
     obtain ⟨⟨hg, -⟩, -⟩ := hD
     have hg : Grown w12 W := hg
     have h13 := (H12.out.on hg).put (overS (S 0) d (r + 1))
     obtain ⟨w13, hw13⟩ : ∃ w13, W.setCells w.heap.size 0 (stCells (overS (S 0) d (r + 1))) = w13 := ⟨_, rfl⟩
     rw [hw13] at h13
     first | rw [hw13] | (show Exit.then _ _ _ _ (W.setCells w.heap.size 0 (stCells (overS (S 0) d (r + 1)))); rw [hw13])
     have H13 := zz h13
     clear hw13 h13 hg hKp hKp2 hKp3 H12 e0 e1 e2 hls
     go_wp2_with fail
     go_meet
     refine ⟨A', n', c', rfl, ?_⟩
     rw [HE.out]
     exact ⟨by rw [HOV.out]; exact H13.out.st, H13.out.inn, H13.out.re, H13.out.ow, H13.out.bl⟩
   case rest => as_aux_lemma =>
   obtain ⟨A5, m5, c5, rfl, hcut⟩ := hcut
   have hfr5 : (roundS (S 0) (T4, M4)).1 0 = S 0 := by rw [roundS_fr]; exact HD40.out
   obtain ⟨T5, M5, h5⟩ : ∃ T5 M5, roundS (S 0) (T4, M4) = (T5, M5) := ⟨_, _, rfl⟩
   rw [h5] at hcut HTM5 hfr5
   have hfr5 : T5 0 = S 0 := hfr5
   have H14 : Hid (TF w wc n0 n1 T5 A5 m5 c5 M5) := zz hcut
   have HTT : Hid (upd T5 0 (S 0 + 1) = T ∧ M5 = M) := HTM5
   clear hcut H11 HRS HPG HLEN HD40 h5 HTM5 hls
   have e0 : wc.cell? ⟨w.heap.size, 0, none⟩ = some (.int .i64 (S 0)) := by rw [← hfr5]; exact st_cell H14.out.st 0 (by decide)
   have z0 := H14.out.st.frozen 0
   have hls := H14.out.st.lt
   have h15 := H14.out.setS 0 (by decide) (k := .i64) rfl (S 0 + 1)
   rw [HTT.out.1, HTT.out.2] at h15
   go_upto_region 19 with fail
   obtain ⟨w15, hw15⟩ : ∃ w15, wc.setCell ⟨w.heap.size, 0, none⟩ (.int .i64 (S 0 + 1)) = w15 := ⟨_, rfl⟩
   rw [hw15] at h15 ⊢
   have HS9 := zz h15.st
   have HZ9 := zz h15.re
   have HO9 := zz h15.ow
   have HB9 := zz h15.bl
   clear hw15 h15 e0 z0 hls H14 HTT hfr5
   obtain ⟨Z, hZ, hBZ⟩ := (HZ9).out
   have HTH : Hid (w15.there (w.heap.size + 1 + 1) 0 (stCells T).toArray.size) := zz (by rw [show (stCells T).toArray.size = 60 from by rw [zM, stCells_length]]; exact Blk.there hBZ (by rw [hZ]; decide))
   have hrg := World.rangeAt_setCells_same w15 (w.heap.size + 1 + 1) 0 (stCells T) (by rw [stCells_length]; have := HTH.out; rwa [show (stCells T).toArray.size = 60 from by rw [zM, stCells_length]] at this)
   have HRES := zz (run_loadVar_mid (P := Tryz.prog) _ _ _ 41 (stCells T) _ hrg Tryz.underlying41 rfl (by kernel_rfl))
   have HBX := zz (bSetCells (HB9).out (show w.heap.size ≤ w.heap.size + 1 + 1 by omega) 0 (stCells T))
   have HOX := zz (OwnL.kept (row := some (w.heap.size + 1 + 1)) (HO9).out (oSetCells (World.grownBy.refl w15 _) 0 (stCells T)) (.inr (Blk.apart hBZ (HO9).out (by decide))))
   obtain ⟨wx, hwx⟩ : ∃ wx, w15.setCells (w.heap.size + 1 + 1) 0 (stCells T) = wx := ⟨_, rfl⟩
   rw [hwx] at HRES HBX HOX
   have HWX : Hid (w15.setCells (w.heap.size + 1 + 1) 0 (stCells T).toArray.toList = wx) := zz hwx
   have hls := (HS9).out.lt
   have hlz := hBZ.lt
   clear hZ hBZ hrg hwx
   go_wp2_with (first
    | (refine wpList_load_mid rfl 41 (.tmp 2) rfl w.heap.size 0 rfl (stCells T) _ (Blk.range (HS9).out) Tryz.underlying41 rfl (by kernel_rfl) ?_)
    | (refine wpList_store_mid rfl 41 (.tmp 4) (.tmp 121) rfl (w.heap.size + 1 + 1) 0 (stCells T).toArray rfl rfl HTH.out (by kernel_rfl) (all_oneCell_toArray (int_one T)) ?_; rw [HWX.out]))
   refine bodyPost_ret (results_c1 (a := 4) (t := 41) (x := 5) rfl rfl HRES.out) rfl ⟨_, _, _, rfl, HOX.out, HBX.out⟩
end
end
section
open Go.RowKit Go.Shelf
attribute [local go_sem] Oper.semAt_some
theorem wpList_goes {P : Program} {ops : Array Oper} {rest : List Oper} {o : Oper} {a : Act} {w : World} {Q : Exit → Act → World → Prop} {T : Value → World → Prop} (hw : Region.wanted o (yielded ops a.tmps) = true)
  (h : Oper.goes P o a w T) (k : ∀ v w', T v w' → wpList P ops Q rest (a.put o.dst v) w') : wpList P ops Q (o :: rest) a w :=
 wpList_step fun K hK => by
  simp only [hw, if_true]
  unfold Oper.wp
  unfold Oper.goes at h
  generalize (execOp a.eval o).run P w = r at *
  cases r with
  | ok x w' =>
   cases x <;> simp only [Oper.goesUpon] at h
   case value u => exact hK _ _ (k _ _ h)
   case skip => exact hK _ _ (k _ _ h)
   case enter f args => exact h.mono fun e w'' ⟨v, he, hh⟩ => by subst he; exact hK _ _ (k _ _ hh)
  | halt x w' => simp only [Oper.goesUpon] at h
def StepR : Prop := ∀ (S : Nat → Int) (n0 n1 : Nat) (w : World) (T : Nat → Int) (M : List Ev), StOk S → n0 < 64 → n1 < 64 → stepS n0 n1 S = (T, M) → Calls Tryz.prog 73 #[.agg (stCells S).toArray, .agg #[.int .u8 n0, .int .u8 n1]] w fun e w' => ∃ A n c, e = .returned (.tuple #[.agg (stCells T).toArray, .slice A n c]) ∧ OwnL w' w.heap.size 62 9 (.slice A n c) Ev.cells M ∧ Below w.heap.size w w'
end
section
theorem step_is : StepR := fun _ _ _ _ T M hok h0 h1 hTM => r12Step_any hok h0 h1 T M hTM
end
end Go.Proofs.YtibeihcpehikoaaGreat
