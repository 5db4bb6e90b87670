/-
  The walk of a player that was down.
-/
import Derived.Outline
import Derived.Test.YtibeihcpehikoaaGreatNk18
namespace Go.Proofs.YtibeihcpehikoaaGreat
open Go.RowKit
set_option maxRecDepth 100000
set_option maxHeartbeats 4000000
section
def cornX (k : Int) : Int := if k % 2 = 1 then 2621440 else -2621440
def cornY (k : Int) : Int := if 2 ≤ k then 2621440 else -2621440
def pBack (p : Nat → Int) (k : Int) : Nat → Int := upd (upd (upd (upd (upd (upd (upd (upd (upd (upd p 0 (cornX k)) 1 (cornY k)) 2 0) 3 0) 4 0) 5 3) 6 0) 7 0) 8 0) 9 (p 9)
theorem corn_f32 (k : Int) : F32 (cornX k) ∧ F32 (cornY k) := by
 unfold cornX cornY F32
 constructor <;> split <;> omega
theorem upd_putP_far (S : Nat → Int) (i : Nat) (p : Nat → Int) (j : Nat) (v : Int) (hj : j < 4 + i * 10) : upd (putP S i p) j v = putP (upd S j v) i p := by
 funext k
 by_cases h : k = j
 ·subst h; rw [upd_same, putP_other _ _ _ _ (.inl hj), upd_same]
 ·rw [upd_other _ _ _ _ h]
  unfold putP
  split
  ·rfl
  ·rw [upd_other _ _ _ _ h]
theorem pBack_of (p : Nat → Int) (k X Y : Int) (hX : cornX k = X) (hY : cornY k = Y) : upd (upd (upd (upd (upd (upd (upd (upd (upd (upd (upd p 8 0) 0 X) 1 Y) 2 0) 3 0) 4 0) 5 3) 6 0) 7 0) 8 0) 9 (p 9) = pBack p k := by
 subst hX hY
 funext j
 unfold pBack
 by_cases h : j = 8
 ·subst h; rfl
 ·simp [upd, h]
section
variable {g gp base : Nat} {S p : Nat → Int} {F : Int} {L : List Ev} {w : World} {i : Nat}
theorem gback_more (h : Stg w g gp base (putP S i p) F L) (hi : i < 2) (h8 : 1 < p 8) (h8' : p 8 ≤ 30) :
  Calls Tryz.prog 187 #[.pointer (some ⟨g, 0, none⟩), .int .i64 i] w fun e w' => e = .returned (.tuple #[]) ∧ Stg w' g gp base (putP S i (upd p 8 (p 8 - 1))) F L ∧ Below base w w' := by
 have H := zz h
 have hi2 : (i : Int) < 2 := by omega
 have hbg := h.bg
 have hlt := h.lt
 have c8 := h.cellP hi 8 (by decide) (k := .i64) rfl
 have z8 := h.st.frozen (4 + i * 10 + 8)
 have hpos : 0 < p 8 - 1 := by omega
 clear h
 go_enter Tryz.func187, Tryz.ntmps187
 go_wp2
 refine bodyPost_ret (results_none rfl _ _ _) rfl ⟨rfl, H.out.setP hi 8 (by decide) rfl _, (Below.refl base w).setCell (p := ⟨g, 4 + i * 10 + 8, none⟩) hbg _⟩
theorem gback_one (h : Stg w g gp base (putP S i p) F L) (hi : i < 2) (h8 : p 8 = 1) (hd : U32 (S 1)) (hF : 0 ≤ F ∧ F ≤ 1073741824) (hL : L.length ≤ 14) :
  Calls Tryz.prog 187 #[.pointer (some ⟨g, 0, none⟩), .int .i64 i] w fun e w' => e = .returned (.tuple #[]) ∧ Stg w' g gp base (putP (upd S 1 (nextZ (S 1))) i (pBack p (throwZ (S 1) 4))) F (addE F L (evT ((i : Int) + 1) 6 6 16384 9 0 (cornX (throwZ (S 1) 4)))) ∧ Below base w w' := by
 have HD := zz hd
 have hi2 : (i : Int) < 2 := by omega
 have hbg := h.bg
 have hlt := h.lt
 have c1 := h.st.cell 1 (by decide)
 rw [putP_other S i p 1 (by omega)] at c1
 have c1' : w.cell? ⟨g, 1, none⟩ = some (.int .u32 (S 1)) := c1
 have z1 := h.st.frozen 1
 have c8 := h.cellP hi 8 (by decide) (k := .i64) rfl
 have z8 := h.st.frozen (4 + i * 10 + 8)
 rw [h8] at c8
 have H1 := zz (h.setP hi 8 (by decide) (k := .i64) rfl 0)
 have ht := throw_num (S 1) 4 (by decide) (by decide)
 obtain ⟨d, hd'⟩ : ∃ d, S 1 = d := ⟨_, rfl⟩
 rw [hd'] at HD c1' ht
 obtain ⟨k, hk⟩ : ∃ k, throwZ d 4 = k := ⟨_, rfl⟩
 obtain ⟨d2, hd2⟩ : ∃ d2, nextZ d = d2 := ⟨_, rfl⟩
 rw [hk] at ht
 have HDE := zz hd'
 have HK := zz hk
 have HD2 := zz hd2
 obtain ⟨-, -, k0, k4⟩ := ht
 have HCF := zz (corn_f32 k)
 rw [hd', hk, hd2]
 clear h c1 hd hd' hk hd2 h8
 go_enter Tryz.func187, Tryz.ntmps187
 go_wp2_with fail
 refine (dThrow_any d 4 _ HD.out (by decide) (by decide)).mono ?_
 rw [HK.out, HD2.out]
 rintro e w1 ⟨rfl, k1⟩
 have h1 := H1.out.on k1
 have q1 := h1.st.cell 1 (by decide)
 have y1 := h1.st.frozen 1
 have hb1 : Below base w w1 := ((Below.refl base w).setCell (p := ⟨g, 4 + i * 10 + 8, none⟩) hbg _).trans (k1.mono (by simpa using H1.out.bw))
 have HH1 := zz h1
 have HB1 := zz hb1
 have hl1 := h1.lt
 clear h1 k1 hb1 H1 c1' z1 c8 z8
 have hk4 : k = 0 ∨ k = 1 ∨ k = 2 ∨ k = 3 := by omega
 have HSET := zz (HH1.out.set 1 (by decide) (k := .u32) rfl d2)
 have HBS := zz (HB1.out.setCell (p := ⟨g, 1, none⟩) hbg (.int .u32 d2))
 rw [upd_putP_far S i _ 1 d2 (by omega)] at HSET
 rcases hk4 with rfl | rfl | rfl | rfl
 ·
  have HX := zz (show cornX 0 = (-2621440) from rfl)
  have HY := zz (show cornY 0 = (-2621440) from rfl)
  go_wp2
  obtain ⟨W2, hW2⟩ : ∃ W2, W2 = (w1.setCell ⟨g, 1, none⟩ (.int .u32 d2)).alloc (.cells #[.int .i32 (-2621440), .int .i32 (-2621440)] 33) := ⟨_, rfl⟩
  rw [← hW2]
  have h2 : Stg W2 g gp base (putP (upd S 1 d2) i (upd p 8 0)) F L := by rw [hW2]; exact HSET.out.alloc _
  have hb2 : Below base w W2 := by rw [hW2]; exact HBS.out.alloc HSET.out.bw _
  have bq : Blk W2 w1.heap.size 33 #[.int .i32 (-2621440), .int .i32 (-2621440)] := by rw [hW2]; exact blk_new_at (by simp)
  clear hW2
  have e0 := h2.cellP hi 0 (by decide) (k := .i32) rfl
  have e0' : W2.cell? ⟨g, 4 + i * 10, none⟩ = some (.int .i32 (upd p 8 0 0)) := e0
  have z0 := h2.st.frozen (4 + i * 10)
  have e1 := h2.cellP hi 1 (by decide) (k := .i32) rfl
  have e2 := h2.cellP hi 2 (by decide) (k := .i32) rfl
  have e3 := h2.cellP hi 3 (by decide) (k := .i32) rfl
  have e4 := h2.cellP hi 4 (by decide) (k := .i64) rfl
  have e5 := h2.cellP hi 5 (by decide) (k := .i64) rfl
  have e6 := h2.cellP hi 6 (by decide) (k := .i64) rfl
  have e7 := h2.cellP hi 7 (by decide) (k := .i64) rfl
  have e8 := h2.cellP hi 8 (by decide) (k := .i64) rfl
  have e9 := h2.cellP hi 9 (by decide) (k := .i64) rfl
  have z1 := h2.st.frozen (4 + i * 10 + 1)
  have z2 := h2.st.frozen (4 + i * 10 + 2)
  have z3 := h2.st.frozen (4 + i * 10 + 3)
  have z4 := h2.st.frozen (4 + i * 10 + 4)
  have z5 := h2.st.frozen (4 + i * 10 + 5)
  have z6 := h2.st.frozen (4 + i * 10 + 6)
  have z7 := h2.st.frozen (4 + i * 10 + 7)
  have z8 := h2.st.frozen (4 + i * 10 + 8)
  have z9 := h2.st.frozen (4 + i * 10 + 9)
  have e9' : W2.cell? ⟨g, 4 + i * 10 + 9, none⟩ = some (.int .i64 (p 9)) := e9
  have hne : w1.heap.size ≠ g := by omega
  have b0 := bq.cell 0
  have b1 := bq.cell 1
  simp only [zA, zB, zC] at b0 b1
  have h3 : Stg (((((((((((W2).setCell ⟨g, 4 + i * 10, none⟩ (.int .i32 (-2621440))).setCell ⟨g, 4 + i * 10 + 1, none⟩ (.int .i32 (-2621440))).setCell ⟨g, 4 + i * 10 + 2, none⟩ (.int .i32 0)).setCell ⟨g, 4 + i * 10 + 3, none⟩ (.int .i32 0)).setCell ⟨g, 4 + i * 10 + 4, none⟩ (.int .i64 0)).setCell ⟨g, 4 + i * 10 + 5, none⟩ (.int .i64 3)).setCell ⟨g, 4 + i * 10 + 6, none⟩ (.int .i64 0)).setCell ⟨g, 4 + i * 10 + 7, none⟩ (.int .i64 0)).setCell ⟨g, 4 + i * 10 + 8, none⟩ (.int .i64 0)).setCell ⟨g, 4 + i * 10 + 9, none⟩ (.int .i64 (p 9))) g gp base (putP (upd S 1 d2) i (pBack p 0)) F L := by rw [← pBack_of p 0 (-2621440) (-2621440) HX.out HY.out]; exact ((((((((((h2).setP hi 0 (by decide) (k := .i32) rfl (-2621440)).setP hi 1 (by decide) (k := .i32) rfl (-2621440)).setP hi 2 (by decide) (k := .i32) rfl 0).setP hi 3 (by decide) (k := .i32) rfl 0).setP hi 4 (by decide) (k := .i64) rfl 0).setP hi 5 (by decide) (k := .i64) rfl 3).setP hi 6 (by decide) (k := .i64) rfl 0).setP hi 7 (by decide) (k := .i64) rfl 0).setP hi 8 (by decide) (k := .i64) rfl 0).setP hi 9 (by decide) (k := .i64) rfl (p 9)
  have hb3 : Below base w (((((((((((W2).setCell ⟨g, 4 + i * 10, none⟩ (.int .i32 (-2621440))).setCell ⟨g, 4 + i * 10 + 1, none⟩ (.int .i32 (-2621440))).setCell ⟨g, 4 + i * 10 + 2, none⟩ (.int .i32 0)).setCell ⟨g, 4 + i * 10 + 3, none⟩ (.int .i32 0)).setCell ⟨g, 4 + i * 10 + 4, none⟩ (.int .i64 0)).setCell ⟨g, 4 + i * 10 + 5, none⟩ (.int .i64 3)).setCell ⟨g, 4 + i * 10 + 6, none⟩ (.int .i64 0)).setCell ⟨g, 4 + i * 10 + 7, none⟩ (.int .i64 0)).setCell ⟨g, 4 + i * 10 + 8, none⟩ (.int .i64 0)).setCell ⟨g, 4 + i * 10 + 9, none⟩ (.int .i64 (p 9))) := ((((((((((hb2).setCell (p := ⟨g, 4 + i * 10 + 0, none⟩) hbg _).setCell (p := ⟨g, 4 + i * 10 + 1, none⟩) hbg _).setCell (p := ⟨g, 4 + i * 10 + 2, none⟩) hbg _).setCell (p := ⟨g, 4 + i * 10 + 3, none⟩) hbg _).setCell (p := ⟨g, 4 + i * 10 + 4, none⟩) hbg _).setCell (p := ⟨g, 4 + i * 10 + 5, none⟩) hbg _).setCell (p := ⟨g, 4 + i * 10 + 6, none⟩) hbg _).setCell (p := ⟨g, 4 + i * 10 + 7, none⟩) hbg _).setCell (p := ⟨g, 4 + i * 10 + 8, none⟩) hbg _).setCell (p := ⟨g, 4 + i * 10 + 9, none⟩) hbg _
  have bq3 : Blk (((((((((((W2).setCell ⟨g, 4 + i * 10, none⟩ (.int .i32 (-2621440))).setCell ⟨g, 4 + i * 10 + 1, none⟩ (.int .i32 (-2621440))).setCell ⟨g, 4 + i * 10 + 2, none⟩ (.int .i32 0)).setCell ⟨g, 4 + i * 10 + 3, none⟩ (.int .i32 0)).setCell ⟨g, 4 + i * 10 + 4, none⟩ (.int .i64 0)).setCell ⟨g, 4 + i * 10 + 5, none⟩ (.int .i64 3)).setCell ⟨g, 4 + i * 10 + 6, none⟩ (.int .i64 0)).setCell ⟨g, 4 + i * 10 + 7, none⟩ (.int .i64 0)).setCell ⟨g, 4 + i * 10 + 8, none⟩ (.int .i64 0)).setCell ⟨g, 4 + i * 10 + 9, none⟩ (.int .i64 (p 9))) w1.heap.size 33 #[.int .i32 (-2621440), .int .i32 (-2621440)] := ((((((((((bq).farG hne _ _).farG hne _ _).farG hne _ _).farG hne _ _).farG hne _ _).farG hne _ _).farG hne _ _).farG hne _ _).farG hne _ _).farG hne _ _
  have HH3 := zz h3
  have HB3 := zz hb3
  have HQ3 := zz bq3
  clear h3 hb3 bq3 e0 e9
  go_big_region
  obtain ⟨W3, hW3⟩ : ∃ W3, ((((((((((W2).setCell ⟨g, 4 + i * 10, none⟩ (.int .i32 (-2621440))).setCell ⟨g, 4 + i * 10 + 1, none⟩ (.int .i32 (-2621440))).setCell ⟨g, 4 + i * 10 + 2, none⟩ (.int .i32 0)).setCell ⟨g, 4 + i * 10 + 3, none⟩ (.int .i32 0)).setCell ⟨g, 4 + i * 10 + 4, none⟩ (.int .i64 0)).setCell ⟨g, 4 + i * 10 + 5, none⟩ (.int .i64 3)).setCell ⟨g, 4 + i * 10 + 6, none⟩ (.int .i64 0)).setCell ⟨g, 4 + i * 10 + 7, none⟩ (.int .i64 0)).setCell ⟨g, 4 + i * 10 + 8, none⟩ (.int .i64 0)).setCell ⟨g, 4 + i * 10 + 9, none⟩ (.int .i64 (p 9)) = W3 := ⟨_, rfl⟩
  rw [hW3] at HH3 HB3 HQ3
  rw [hW3]
  clear hW3
  have HH4 := zz HH3.out.drew
  have HB4 := zz HB3.out.drew
  have HQ4 := zz HQ3.out.drew
  obtain ⟨W4, hW4⟩ : ∃ W4, W3.drew = W4 := ⟨_, rfl⟩
  rw [hW4] at HH4 HB4 HQ4
  rw [hW4]
  clear hW4 HH3 HB3 HQ3 h2 hb2 bq e0' e1 e2 e3 e4 e5 e6 e7 e8 e9' z1 z2 z3 z4 z5 z6 z7 z8 z9 b0 b1 HH1 HB1 HSET HBS q1 y1
  have b0 := HQ4.out.cell 0
  have b1 := HQ4.out.cell 1
  simp only [zA, zB, zC] at b0 b1
  have zb := HQ4.out.frozen 0
  go_wp2_with fail
  have HEL := zz (show addE F L (evT ((i : Int) + 1) 6 6 16384 9 0 (cornX 0)) = addE F L (evT ((i : Int) + 1) 6 6 16384 9 0 (-2621440)) by rw [HX.out])
  refine (gtell_any ((i : Int) + 1) 6 6 16384 9 0 (-2621440) HH4.out (show F32 (-2621440) by unfold F32; omega) (evT_ok F _ _ _ _ _ _ _ hF (by omega) (by decide) (by decide) (by decide) (by decide) (by decide) 0 (by decide)) (by omega) (Nat.le_trans (cntE_le _ _ _) (by omega))).mono ?_
  rintro e w7 ⟨rfl, h7, k7⟩
  have H7 := zz h7
  have HB7 := zz (HB4.out.trans k7)
  clear h7 k7
  go_wp2
  go_end0
  rw [HEL.out]
  exact ⟨rfl, H7.out, HB7.out⟩
 ·
  have HX := zz (show cornX 1 = (2621440) from rfl)
  have HY := zz (show cornY 1 = (-2621440) from rfl)
  go_wp2
  obtain ⟨W2, hW2⟩ : ∃ W2, W2 = (w1.setCell ⟨g, 1, none⟩ (.int .u32 d2)).alloc (.cells #[.int .i32 (2621440), .int .i32 (-2621440)] 33) := ⟨_, rfl⟩
  rw [← hW2]
  have h2 : Stg W2 g gp base (putP (upd S 1 d2) i (upd p 8 0)) F L := by rw [hW2]; exact HSET.out.alloc _
  have hb2 : Below base w W2 := by rw [hW2]; exact HBS.out.alloc HSET.out.bw _
  have bq : Blk W2 w1.heap.size 33 #[.int .i32 (2621440), .int .i32 (-2621440)] := by rw [hW2]; exact blk_new_at (by simp)
  clear hW2
  have e0 := h2.cellP hi 0 (by decide) (k := .i32) rfl
  have e0' : W2.cell? ⟨g, 4 + i * 10, none⟩ = some (.int .i32 (upd p 8 0 0)) := e0
  have z0 := h2.st.frozen (4 + i * 10)
  have e1 := h2.cellP hi 1 (by decide) (k := .i32) rfl
  have e2 := h2.cellP hi 2 (by decide) (k := .i32) rfl
  have e3 := h2.cellP hi 3 (by decide) (k := .i32) rfl
  have e4 := h2.cellP hi 4 (by decide) (k := .i64) rfl
  have e5 := h2.cellP hi 5 (by decide) (k := .i64) rfl
  have e6 := h2.cellP hi 6 (by decide) (k := .i64) rfl
  have e7 := h2.cellP hi 7 (by decide) (k := .i64) rfl
  have e8 := h2.cellP hi 8 (by decide) (k := .i64) rfl
  have e9 := h2.cellP hi 9 (by decide) (k := .i64) rfl
  have z1 := h2.st.frozen (4 + i * 10 + 1)
  have z2 := h2.st.frozen (4 + i * 10 + 2)
  have z3 := h2.st.frozen (4 + i * 10 + 3)
  have z4 := h2.st.frozen (4 + i * 10 + 4)
  have z5 := h2.st.frozen (4 + i * 10 + 5)
  have z6 := h2.st.frozen (4 + i * 10 + 6)
  have z7 := h2.st.frozen (4 + i * 10 + 7)
  have z8 := h2.st.frozen (4 + i * 10 + 8)
  have z9 := h2.st.frozen (4 + i * 10 + 9)
  have e9' : W2.cell? ⟨g, 4 + i * 10 + 9, none⟩ = some (.int .i64 (p 9)) := e9
  have hne : w1.heap.size ≠ g := by omega
  have b0 := bq.cell 0
  have b1 := bq.cell 1
  simp only [zA, zB, zC] at b0 b1
  have h3 : Stg (((((((((((W2).setCell ⟨g, 4 + i * 10, none⟩ (.int .i32 (2621440))).setCell ⟨g, 4 + i * 10 + 1, none⟩ (.int .i32 (-2621440))).setCell ⟨g, 4 + i * 10 + 2, none⟩ (.int .i32 0)).setCell ⟨g, 4 + i * 10 + 3, none⟩ (.int .i32 0)).setCell ⟨g, 4 + i * 10 + 4, none⟩ (.int .i64 0)).setCell ⟨g, 4 + i * 10 + 5, none⟩ (.int .i64 3)).setCell ⟨g, 4 + i * 10 + 6, none⟩ (.int .i64 0)).setCell ⟨g, 4 + i * 10 + 7, none⟩ (.int .i64 0)).setCell ⟨g, 4 + i * 10 + 8, none⟩ (.int .i64 0)).setCell ⟨g, 4 + i * 10 + 9, none⟩ (.int .i64 (p 9))) g gp base (putP (upd S 1 d2) i (pBack p 1)) F L := by rw [← pBack_of p 1 (2621440) (-2621440) HX.out HY.out]; exact ((((((((((h2).setP hi 0 (by decide) (k := .i32) rfl (2621440)).setP hi 1 (by decide) (k := .i32) rfl (-2621440)).setP hi 2 (by decide) (k := .i32) rfl 0).setP hi 3 (by decide) (k := .i32) rfl 0).setP hi 4 (by decide) (k := .i64) rfl 0).setP hi 5 (by decide) (k := .i64) rfl 3).setP hi 6 (by decide) (k := .i64) rfl 0).setP hi 7 (by decide) (k := .i64) rfl 0).setP hi 8 (by decide) (k := .i64) rfl 0).setP hi 9 (by decide) (k := .i64) rfl (p 9)
  have hb3 : Below base w (((((((((((W2).setCell ⟨g, 4 + i * 10, none⟩ (.int .i32 (2621440))).setCell ⟨g, 4 + i * 10 + 1, none⟩ (.int .i32 (-2621440))).setCell ⟨g, 4 + i * 10 + 2, none⟩ (.int .i32 0)).setCell ⟨g, 4 + i * 10 + 3, none⟩ (.int .i32 0)).setCell ⟨g, 4 + i * 10 + 4, none⟩ (.int .i64 0)).setCell ⟨g, 4 + i * 10 + 5, none⟩ (.int .i64 3)).setCell ⟨g, 4 + i * 10 + 6, none⟩ (.int .i64 0)).setCell ⟨g, 4 + i * 10 + 7, none⟩ (.int .i64 0)).setCell ⟨g, 4 + i * 10 + 8, none⟩ (.int .i64 0)).setCell ⟨g, 4 + i * 10 + 9, none⟩ (.int .i64 (p 9))) := ((((((((((hb2).setCell (p := ⟨g, 4 + i * 10 + 0, none⟩) hbg _).setCell (p := ⟨g, 4 + i * 10 + 1, none⟩) hbg _).setCell (p := ⟨g, 4 + i * 10 + 2, none⟩) hbg _).setCell (p := ⟨g, 4 + i * 10 + 3, none⟩) hbg _).setCell (p := ⟨g, 4 + i * 10 + 4, none⟩) hbg _).setCell (p := ⟨g, 4 + i * 10 + 5, none⟩) hbg _).setCell (p := ⟨g, 4 + i * 10 + 6, none⟩) hbg _).setCell (p := ⟨g, 4 + i * 10 + 7, none⟩) hbg _).setCell (p := ⟨g, 4 + i * 10 + 8, none⟩) hbg _).setCell (p := ⟨g, 4 + i * 10 + 9, none⟩) hbg _
  have bq3 : Blk (((((((((((W2).setCell ⟨g, 4 + i * 10, none⟩ (.int .i32 (2621440))).setCell ⟨g, 4 + i * 10 + 1, none⟩ (.int .i32 (-2621440))).setCell ⟨g, 4 + i * 10 + 2, none⟩ (.int .i32 0)).setCell ⟨g, 4 + i * 10 + 3, none⟩ (.int .i32 0)).setCell ⟨g, 4 + i * 10 + 4, none⟩ (.int .i64 0)).setCell ⟨g, 4 + i * 10 + 5, none⟩ (.int .i64 3)).setCell ⟨g, 4 + i * 10 + 6, none⟩ (.int .i64 0)).setCell ⟨g, 4 + i * 10 + 7, none⟩ (.int .i64 0)).setCell ⟨g, 4 + i * 10 + 8, none⟩ (.int .i64 0)).setCell ⟨g, 4 + i * 10 + 9, none⟩ (.int .i64 (p 9))) w1.heap.size 33 #[.int .i32 (2621440), .int .i32 (-2621440)] := ((((((((((bq).farG hne _ _).farG hne _ _).farG hne _ _).farG hne _ _).farG hne _ _).farG hne _ _).farG hne _ _).farG hne _ _).farG hne _ _).farG hne _ _
  have HH3 := zz h3
  have HB3 := zz hb3
  have HQ3 := zz bq3
  clear h3 hb3 bq3 e0 e9
  go_big_region
  obtain ⟨W3, hW3⟩ : ∃ W3, ((((((((((W2).setCell ⟨g, 4 + i * 10, none⟩ (.int .i32 (2621440))).setCell ⟨g, 4 + i * 10 + 1, none⟩ (.int .i32 (-2621440))).setCell ⟨g, 4 + i * 10 + 2, none⟩ (.int .i32 0)).setCell ⟨g, 4 + i * 10 + 3, none⟩ (.int .i32 0)).setCell ⟨g, 4 + i * 10 + 4, none⟩ (.int .i64 0)).setCell ⟨g, 4 + i * 10 + 5, none⟩ (.int .i64 3)).setCell ⟨g, 4 + i * 10 + 6, none⟩ (.int .i64 0)).setCell ⟨g, 4 + i * 10 + 7, none⟩ (.int .i64 0)).setCell ⟨g, 4 + i * 10 + 8, none⟩ (.int .i64 0)).setCell ⟨g, 4 + i * 10 + 9, none⟩ (.int .i64 (p 9)) = W3 := ⟨_, rfl⟩
  rw [hW3] at HH3 HB3 HQ3
  rw [hW3]
  clear hW3
  have HH4 := zz HH3.out.drew
  have HB4 := zz HB3.out.drew
  have HQ4 := zz HQ3.out.drew
  obtain ⟨W4, hW4⟩ : ∃ W4, W3.drew = W4 := ⟨_, rfl⟩
  rw [hW4] at HH4 HB4 HQ4
  rw [hW4]
  clear hW4 HH3 HB3 HQ3 h2 hb2 bq e0' e1 e2 e3 e4 e5 e6 e7 e8 e9' z1 z2 z3 z4 z5 z6 z7 z8 z9 b0 b1 HH1 HB1 HSET HBS q1 y1
  have b0 := HQ4.out.cell 0
  have b1 := HQ4.out.cell 1
  simp only [zA, zB, zC] at b0 b1
  have zb := HQ4.out.frozen 0
  go_wp2_with fail
  have HEL := zz (show addE F L (evT ((i : Int) + 1) 6 6 16384 9 0 (cornX 1)) = addE F L (evT ((i : Int) + 1) 6 6 16384 9 0 (2621440)) by rw [HX.out])
  refine (gtell_any ((i : Int) + 1) 6 6 16384 9 0 (2621440) HH4.out (show F32 (2621440) by unfold F32; omega) (evT_ok F _ _ _ _ _ _ _ hF (by omega) (by decide) (by decide) (by decide) (by decide) (by decide) 0 (by decide)) (by omega) (Nat.le_trans (cntE_le _ _ _) (by omega))).mono ?_
  rintro e w7 ⟨rfl, h7, k7⟩
  have H7 := zz h7
  have HB7 := zz (HB4.out.trans k7)
  clear h7 k7
  go_wp2
  go_end0
  rw [HEL.out]
  exact ⟨rfl, H7.out, HB7.out⟩
 ·
  have HX := zz (show cornX 2 = (-2621440) from rfl)
  have HY := zz (show cornY 2 = (2621440) from rfl)
  go_wp2
  obtain ⟨W2, hW2⟩ : ∃ W2, W2 = (w1.setCell ⟨g, 1, none⟩ (.int .u32 d2)).alloc (.cells #[.int .i32 (-2621440), .int .i32 (2621440)] 33) := ⟨_, rfl⟩
  rw [← hW2]
  have h2 : Stg W2 g gp base (putP (upd S 1 d2) i (upd p 8 0)) F L := by rw [hW2]; exact HSET.out.alloc _
  have hb2 : Below base w W2 := by rw [hW2]; exact HBS.out.alloc HSET.out.bw _
  have bq : Blk W2 w1.heap.size 33 #[.int .i32 (-2621440), .int .i32 (2621440)] := by rw [hW2]; exact blk_new_at (by simp)
  clear hW2
  have e0 := h2.cellP hi 0 (by decide) (k := .i32) rfl
  have e0' : W2.cell? ⟨g, 4 + i * 10, none⟩ = some (.int .i32 (upd p 8 0 0)) := e0
  have z0 := h2.st.frozen (4 + i * 10)
  have e1 := h2.cellP hi 1 (by decide) (k := .i32) rfl
  have e2 := h2.cellP hi 2 (by decide) (k := .i32) rfl
  have e3 := h2.cellP hi 3 (by decide) (k := .i32) rfl
  have e4 := h2.cellP hi 4 (by decide) (k := .i64) rfl
  have e5 := h2.cellP hi 5 (by decide) (k := .i64) rfl
  have e6 := h2.cellP hi 6 (by decide) (k := .i64) rfl
  have e7 := h2.cellP hi 7 (by decide) (k := .i64) rfl
  have e8 := h2.cellP hi 8 (by decide) (k := .i64) rfl
  have e9 := h2.cellP hi 9 (by decide) (k := .i64) rfl
  have z1 := h2.st.frozen (4 + i * 10 + 1)
  have z2 := h2.st.frozen (4 + i * 10 + 2)
  have z3 := h2.st.frozen (4 + i * 10 + 3)
  have z4 := h2.st.frozen (4 + i * 10 + 4)
  have z5 := h2.st.frozen (4 + i * 10 + 5)
  have z6 := h2.st.frozen (4 + i * 10 + 6)
  have z7 := h2.st.frozen (4 + i * 10 + 7)
  have z8 := h2.st.frozen (4 + i * 10 + 8)
  have z9 := h2.st.frozen (4 + i * 10 + 9)
  have e9' : W2.cell? ⟨g, 4 + i * 10 + 9, none⟩ = some (.int .i64 (p 9)) := e9
  have hne : w1.heap.size ≠ g := by omega
  have b0 := bq.cell 0
  have b1 := bq.cell 1
  simp only [zA, zB, zC] at b0 b1
  have h3 : Stg (((((((((((W2).setCell ⟨g, 4 + i * 10, none⟩ (.int .i32 (-2621440))).setCell ⟨g, 4 + i * 10 + 1, none⟩ (.int .i32 (2621440))).setCell ⟨g, 4 + i * 10 + 2, none⟩ (.int .i32 0)).setCell ⟨g, 4 + i * 10 + 3, none⟩ (.int .i32 0)).setCell ⟨g, 4 + i * 10 + 4, none⟩ (.int .i64 0)).setCell ⟨g, 4 + i * 10 + 5, none⟩ (.int .i64 3)).setCell ⟨g, 4 + i * 10 + 6, none⟩ (.int .i64 0)).setCell ⟨g, 4 + i * 10 + 7, none⟩ (.int .i64 0)).setCell ⟨g, 4 + i * 10 + 8, none⟩ (.int .i64 0)).setCell ⟨g, 4 + i * 10 + 9, none⟩ (.int .i64 (p 9))) g gp base (putP (upd S 1 d2) i (pBack p 2)) F L := by rw [← pBack_of p 2 (-2621440) (2621440) HX.out HY.out]; exact ((((((((((h2).setP hi 0 (by decide) (k := .i32) rfl (-2621440)).setP hi 1 (by decide) (k := .i32) rfl (2621440)).setP hi 2 (by decide) (k := .i32) rfl 0).setP hi 3 (by decide) (k := .i32) rfl 0).setP hi 4 (by decide) (k := .i64) rfl 0).setP hi 5 (by decide) (k := .i64) rfl 3).setP hi 6 (by decide) (k := .i64) rfl 0).setP hi 7 (by decide) (k := .i64) rfl 0).setP hi 8 (by decide) (k := .i64) rfl 0).setP hi 9 (by decide) (k := .i64) rfl (p 9)
  have hb3 : Below base w (((((((((((W2).setCell ⟨g, 4 + i * 10, none⟩ (.int .i32 (-2621440))).setCell ⟨g, 4 + i * 10 + 1, none⟩ (.int .i32 (2621440))).setCell ⟨g, 4 + i * 10 + 2, none⟩ (.int .i32 0)).setCell ⟨g, 4 + i * 10 + 3, none⟩ (.int .i32 0)).setCell ⟨g, 4 + i * 10 + 4, none⟩ (.int .i64 0)).setCell ⟨g, 4 + i * 10 + 5, none⟩ (.int .i64 3)).setCell ⟨g, 4 + i * 10 + 6, none⟩ (.int .i64 0)).setCell ⟨g, 4 + i * 10 + 7, none⟩ (.int .i64 0)).setCell ⟨g, 4 + i * 10 + 8, none⟩ (.int .i64 0)).setCell ⟨g, 4 + i * 10 + 9, none⟩ (.int .i64 (p 9))) := ((((((((((hb2).setCell (p := ⟨g, 4 + i * 10 + 0, none⟩) hbg _).setCell (p := ⟨g, 4 + i * 10 + 1, none⟩) hbg _).setCell (p := ⟨g, 4 + i * 10 + 2, none⟩) hbg _).setCell (p := ⟨g, 4 + i * 10 + 3, none⟩) hbg _).setCell (p := ⟨g, 4 + i * 10 + 4, none⟩) hbg _).setCell (p := ⟨g, 4 + i * 10 + 5, none⟩) hbg _).setCell (p := ⟨g, 4 + i * 10 + 6, none⟩) hbg _).setCell (p := ⟨g, 4 + i * 10 + 7, none⟩) hbg _).setCell (p := ⟨g, 4 + i * 10 + 8, none⟩) hbg _).setCell (p := ⟨g, 4 + i * 10 + 9, none⟩) hbg _
  have bq3 : Blk (((((((((((W2).setCell ⟨g, 4 + i * 10, none⟩ (.int .i32 (-2621440))).setCell ⟨g, 4 + i * 10 + 1, none⟩ (.int .i32 (2621440))).setCell ⟨g, 4 + i * 10 + 2, none⟩ (.int .i32 0)).setCell ⟨g, 4 + i * 10 + 3, none⟩ (.int .i32 0)).setCell ⟨g, 4 + i * 10 + 4, none⟩ (.int .i64 0)).setCell ⟨g, 4 + i * 10 + 5, none⟩ (.int .i64 3)).setCell ⟨g, 4 + i * 10 + 6, none⟩ (.int .i64 0)).setCell ⟨g, 4 + i * 10 + 7, none⟩ (.int .i64 0)).setCell ⟨g, 4 + i * 10 + 8, none⟩ (.int .i64 0)).setCell ⟨g, 4 + i * 10 + 9, none⟩ (.int .i64 (p 9))) w1.heap.size 33 #[.int .i32 (-2621440), .int .i32 (2621440)] := ((((((((((bq).farG hne _ _).farG hne _ _).farG hne _ _).farG hne _ _).farG hne _ _).farG hne _ _).farG hne _ _).farG hne _ _).farG hne _ _).farG hne _ _
  have HH3 := zz h3
  have HB3 := zz hb3
  have HQ3 := zz bq3
  clear h3 hb3 bq3 e0 e9
  go_big_region
  obtain ⟨W3, hW3⟩ : ∃ W3, ((((((((((W2).setCell ⟨g, 4 + i * 10, none⟩ (.int .i32 (-2621440))).setCell ⟨g, 4 + i * 10 + 1, none⟩ (.int .i32 (2621440))).setCell ⟨g, 4 + i * 10 + 2, none⟩ (.int .i32 0)).setCell ⟨g, 4 + i * 10 + 3, none⟩ (.int .i32 0)).setCell ⟨g, 4 + i * 10 + 4, none⟩ (.int .i64 0)).setCell ⟨g, 4 + i * 10 + 5, none⟩ (.int .i64 3)).setCell ⟨g, 4 + i * 10 + 6, none⟩ (.int .i64 0)).setCell ⟨g, 4 + i * 10 + 7, none⟩ (.int .i64 0)).setCell ⟨g, 4 + i * 10 + 8, none⟩ (.int .i64 0)).setCell ⟨g, 4 + i * 10 + 9, none⟩ (.int .i64 (p 9)) = W3 := ⟨_, rfl⟩
  rw [hW3] at HH3 HB3 HQ3
  rw [hW3]
  clear hW3
  have HH4 := zz HH3.out.drew
  have HB4 := zz HB3.out.drew
  have HQ4 := zz HQ3.out.drew
  obtain ⟨W4, hW4⟩ : ∃ W4, W3.drew = W4 := ⟨_, rfl⟩
  rw [hW4] at HH4 HB4 HQ4
  rw [hW4]
  clear hW4 HH3 HB3 HQ3 h2 hb2 bq e0' e1 e2 e3 e4 e5 e6 e7 e8 e9' z1 z2 z3 z4 z5 z6 z7 z8 z9 b0 b1 HH1 HB1 HSET HBS q1 y1
  have b0 := HQ4.out.cell 0
  have b1 := HQ4.out.cell 1
  simp only [zA, zB, zC] at b0 b1
  have zb := HQ4.out.frozen 0
  go_wp2_with fail
  have HEL := zz (show addE F L (evT ((i : Int) + 1) 6 6 16384 9 0 (cornX 2)) = addE F L (evT ((i : Int) + 1) 6 6 16384 9 0 (-2621440)) by rw [HX.out])
  refine (gtell_any ((i : Int) + 1) 6 6 16384 9 0 (-2621440) HH4.out (show F32 (-2621440) by unfold F32; omega) (evT_ok F _ _ _ _ _ _ _ hF (by omega) (by decide) (by decide) (by decide) (by decide) (by decide) 0 (by decide)) (by omega) (Nat.le_trans (cntE_le _ _ _) (by omega))).mono ?_
  rintro e w7 ⟨rfl, h7, k7⟩
  have H7 := zz h7
  have HB7 := zz (HB4.out.trans k7)
  clear h7 k7
  go_wp2
  go_end0
  rw [HEL.out]
  exact ⟨rfl, H7.out, HB7.out⟩
 ·
  have HX := zz (show cornX 3 = (2621440) from rfl)
  have HY := zz (show cornY 3 = (2621440) from rfl)
  go_wp2
  obtain ⟨W2, hW2⟩ : ∃ W2, W2 = (w1.setCell ⟨g, 1, none⟩ (.int .u32 d2)).alloc (.cells #[.int .i32 (2621440), .int .i32 (2621440)] 33) := ⟨_, rfl⟩
  rw [← hW2]
  have h2 : Stg W2 g gp base (putP (upd S 1 d2) i (upd p 8 0)) F L := by rw [hW2]; exact HSET.out.alloc _
  have hb2 : Below base w W2 := by rw [hW2]; exact HBS.out.alloc HSET.out.bw _
  have bq : Blk W2 w1.heap.size 33 #[.int .i32 (2621440), .int .i32 (2621440)] := by rw [hW2]; exact blk_new_at (by simp)
  clear hW2
  have e0 := h2.cellP hi 0 (by decide) (k := .i32) rfl
  have e0' : W2.cell? ⟨g, 4 + i * 10, none⟩ = some (.int .i32 (upd p 8 0 0)) := e0
  have z0 := h2.st.frozen (4 + i * 10)
  have e1 := h2.cellP hi 1 (by decide) (k := .i32) rfl
  have e2 := h2.cellP hi 2 (by decide) (k := .i32) rfl
  have e3 := h2.cellP hi 3 (by decide) (k := .i32) rfl
  have e4 := h2.cellP hi 4 (by decide) (k := .i64) rfl
  have e5 := h2.cellP hi 5 (by decide) (k := .i64) rfl
  have e6 := h2.cellP hi 6 (by decide) (k := .i64) rfl
  have e7 := h2.cellP hi 7 (by decide) (k := .i64) rfl
  have e8 := h2.cellP hi 8 (by decide) (k := .i64) rfl
  have e9 := h2.cellP hi 9 (by decide) (k := .i64) rfl
  have z1 := h2.st.frozen (4 + i * 10 + 1)
  have z2 := h2.st.frozen (4 + i * 10 + 2)
  have z3 := h2.st.frozen (4 + i * 10 + 3)
  have z4 := h2.st.frozen (4 + i * 10 + 4)
  have z5 := h2.st.frozen (4 + i * 10 + 5)
  have z6 := h2.st.frozen (4 + i * 10 + 6)
  have z7 := h2.st.frozen (4 + i * 10 + 7)
  have z8 := h2.st.frozen (4 + i * 10 + 8)
  have z9 := h2.st.frozen (4 + i * 10 + 9)
  have e9' : W2.cell? ⟨g, 4 + i * 10 + 9, none⟩ = some (.int .i64 (p 9)) := e9
  have hne : w1.heap.size ≠ g := by omega
  have b0 := bq.cell 0
  have b1 := bq.cell 1
  simp only [zA, zB, zC] at b0 b1
  have h3 : Stg (((((((((((W2).setCell ⟨g, 4 + i * 10, none⟩ (.int .i32 (2621440))).setCell ⟨g, 4 + i * 10 + 1, none⟩ (.int .i32 (2621440))).setCell ⟨g, 4 + i * 10 + 2, none⟩ (.int .i32 0)).setCell ⟨g, 4 + i * 10 + 3, none⟩ (.int .i32 0)).setCell ⟨g, 4 + i * 10 + 4, none⟩ (.int .i64 0)).setCell ⟨g, 4 + i * 10 + 5, none⟩ (.int .i64 3)).setCell ⟨g, 4 + i * 10 + 6, none⟩ (.int .i64 0)).setCell ⟨g, 4 + i * 10 + 7, none⟩ (.int .i64 0)).setCell ⟨g, 4 + i * 10 + 8, none⟩ (.int .i64 0)).setCell ⟨g, 4 + i * 10 + 9, none⟩ (.int .i64 (p 9))) g gp base (putP (upd S 1 d2) i (pBack p 3)) F L := by rw [← pBack_of p 3 (2621440) (2621440) HX.out HY.out]; exact ((((((((((h2).setP hi 0 (by decide) (k := .i32) rfl (2621440)).setP hi 1 (by decide) (k := .i32) rfl (2621440)).setP hi 2 (by decide) (k := .i32) rfl 0).setP hi 3 (by decide) (k := .i32) rfl 0).setP hi 4 (by decide) (k := .i64) rfl 0).setP hi 5 (by decide) (k := .i64) rfl 3).setP hi 6 (by decide) (k := .i64) rfl 0).setP hi 7 (by decide) (k := .i64) rfl 0).setP hi 8 (by decide) (k := .i64) rfl 0).setP hi 9 (by decide) (k := .i64) rfl (p 9)
  have hb3 : Below base w (((((((((((W2).setCell ⟨g, 4 + i * 10, none⟩ (.int .i32 (2621440))).setCell ⟨g, 4 + i * 10 + 1, none⟩ (.int .i32 (2621440))).setCell ⟨g, 4 + i * 10 + 2, none⟩ (.int .i32 0)).setCell ⟨g, 4 + i * 10 + 3, none⟩ (.int .i32 0)).setCell ⟨g, 4 + i * 10 + 4, none⟩ (.int .i64 0)).setCell ⟨g, 4 + i * 10 + 5, none⟩ (.int .i64 3)).setCell ⟨g, 4 + i * 10 + 6, none⟩ (.int .i64 0)).setCell ⟨g, 4 + i * 10 + 7, none⟩ (.int .i64 0)).setCell ⟨g, 4 + i * 10 + 8, none⟩ (.int .i64 0)).setCell ⟨g, 4 + i * 10 + 9, none⟩ (.int .i64 (p 9))) := ((((((((((hb2).setCell (p := ⟨g, 4 + i * 10 + 0, none⟩) hbg _).setCell (p := ⟨g, 4 + i * 10 + 1, none⟩) hbg _).setCell (p := ⟨g, 4 + i * 10 + 2, none⟩) hbg _).setCell (p := ⟨g, 4 + i * 10 + 3, none⟩) hbg _).setCell (p := ⟨g, 4 + i * 10 + 4, none⟩) hbg _).setCell (p := ⟨g, 4 + i * 10 + 5, none⟩) hbg _).setCell (p := ⟨g, 4 + i * 10 + 6, none⟩) hbg _).setCell (p := ⟨g, 4 + i * 10 + 7, none⟩) hbg _).setCell (p := ⟨g, 4 + i * 10 + 8, none⟩) hbg _).setCell (p := ⟨g, 4 + i * 10 + 9, none⟩) hbg _
  have bq3 : Blk (((((((((((W2).setCell ⟨g, 4 + i * 10, none⟩ (.int .i32 (2621440))).setCell ⟨g, 4 + i * 10 + 1, none⟩ (.int .i32 (2621440))).setCell ⟨g, 4 + i * 10 + 2, none⟩ (.int .i32 0)).setCell ⟨g, 4 + i * 10 + 3, none⟩ (.int .i32 0)).setCell ⟨g, 4 + i * 10 + 4, none⟩ (.int .i64 0)).setCell ⟨g, 4 + i * 10 + 5, none⟩ (.int .i64 3)).setCell ⟨g, 4 + i * 10 + 6, none⟩ (.int .i64 0)).setCell ⟨g, 4 + i * 10 + 7, none⟩ (.int .i64 0)).setCell ⟨g, 4 + i * 10 + 8, none⟩ (.int .i64 0)).setCell ⟨g, 4 + i * 10 + 9, none⟩ (.int .i64 (p 9))) w1.heap.size 33 #[.int .i32 (2621440), .int .i32 (2621440)] := ((((((((((bq).farG hne _ _).farG hne _ _).farG hne _ _).farG hne _ _).farG hne _ _).farG hne _ _).farG hne _ _).farG hne _ _).farG hne _ _).farG hne _ _
  have HH3 := zz h3
  have HB3 := zz hb3
  have HQ3 := zz bq3
  clear h3 hb3 bq3 e0 e9
  go_big_region
  obtain ⟨W3, hW3⟩ : ∃ W3, ((((((((((W2).setCell ⟨g, 4 + i * 10, none⟩ (.int .i32 (2621440))).setCell ⟨g, 4 + i * 10 + 1, none⟩ (.int .i32 (2621440))).setCell ⟨g, 4 + i * 10 + 2, none⟩ (.int .i32 0)).setCell ⟨g, 4 + i * 10 + 3, none⟩ (.int .i32 0)).setCell ⟨g, 4 + i * 10 + 4, none⟩ (.int .i64 0)).setCell ⟨g, 4 + i * 10 + 5, none⟩ (.int .i64 3)).setCell ⟨g, 4 + i * 10 + 6, none⟩ (.int .i64 0)).setCell ⟨g, 4 + i * 10 + 7, none⟩ (.int .i64 0)).setCell ⟨g, 4 + i * 10 + 8, none⟩ (.int .i64 0)).setCell ⟨g, 4 + i * 10 + 9, none⟩ (.int .i64 (p 9)) = W3 := ⟨_, rfl⟩
  rw [hW3] at HH3 HB3 HQ3
  rw [hW3]
  clear hW3
  have HH4 := zz HH3.out.drew
  have HB4 := zz HB3.out.drew
  have HQ4 := zz HQ3.out.drew
  obtain ⟨W4, hW4⟩ : ∃ W4, W3.drew = W4 := ⟨_, rfl⟩
  rw [hW4] at HH4 HB4 HQ4
  rw [hW4]
  clear hW4 HH3 HB3 HQ3 h2 hb2 bq e0' e1 e2 e3 e4 e5 e6 e7 e8 e9' z1 z2 z3 z4 z5 z6 z7 z8 z9 b0 b1 HH1 HB1 HSET HBS q1 y1
  have b0 := HQ4.out.cell 0
  have b1 := HQ4.out.cell 1
  simp only [zA, zB, zC] at b0 b1
  have zb := HQ4.out.frozen 0
  go_wp2_with fail
  have HEL := zz (show addE F L (evT ((i : Int) + 1) 6 6 16384 9 0 (cornX 3)) = addE F L (evT ((i : Int) + 1) 6 6 16384 9 0 (2621440)) by rw [HX.out])
  refine (gtell_any ((i : Int) + 1) 6 6 16384 9 0 (2621440) HH4.out (show F32 (2621440) by unfold F32; omega) (evT_ok F _ _ _ _ _ _ _ hF (by omega) (by decide) (by decide) (by decide) (by decide) (by decide) 0 (by decide)) (by omega) (Nat.le_trans (cntE_le _ _ _) (by omega))).mono ?_
  rintro e w7 ⟨rfl, h7, k7⟩
  have H7 := zz h7
  have HB7 := zz (HB4.out.trans k7)
  clear h7 k7
  go_wp2
  go_end0
  rw [HEL.out]
  exact ⟨rfl, H7.out, HB7.out⟩
end
end
end Go.Proofs.YtibeihcpehikoaaGreat
