/-
  The walks beneath: Shape2, Shape3.
-/
import Derived.Test.YtibeihcpehikoaaGreatNk11
namespace Go.Proofs.YtibeihcpehikoaaGreat
open Go.RowKit
set_option maxRecDepth 100000
set_option maxHeartbeats 1000000
section
theorem quiet_sw {P : Program} {f : FuncId} {args : Array Value} {w : World} {n : Nat} {v : Value}
  (h : Calls P f args (w.drewN n) fun e w' => e = .returned v ∧ w.drewN n = w') : Calls P f args (w.drewN n) fun e w'' => e = .returned v ∧ ∃ m, w'' = w.drewN m :=
 h.mono fun _ _ ⟨he, hm⟩ => ⟨he, n, hm.symm⟩
def back_ (v : Int) : Int := fmul (sat (-v)) 32768
theorem back_bd (v : Int) : F32 (back_ v) := fmul_bd _ _
theorem half_f32 : F32 32768 := by unfold F32; omega
theorem r10back_any {v : Int} (hv : F32 v) (w : World) : Calls Tryz.prog 260 #[.int .i32 v] w fun e w' => e = .returned (.int .i32 (back_ v)) ∧ w = w' := by
 have e : fmul (sat (-v)) 32768 = back_ v := rfl
 have HE := zz e
 obtain ⟨v1, v2⟩ := hv
 clear e
 go_enter Tryz.func260, Tryz.ntmps260
 go_wp2_with fail
 refine (r01Sat_any _ _).mono ?_
 rintro e w1 ⟨rfl, rfl⟩
 go_wp2_with fail
 refine (r01Mul_any (sat_bd _) half_f32 _).mono ?_
 rintro e w1 ⟨rfl, rfl⟩
 rw [HE.out]
 go_wp2
 go_ret
 exact ⟨rfl, rfl⟩
def wallP (p v lo hi : Int) : Int := if padd p v < lo then lo else if hi < padd p v then hi else padd p v
def wallV (p v lo hi : Int) : Int := if padd p v < lo then back_ v else if hi < padd p v then back_ v else v
def wallW (p v lo hi bl ab : Int) : Int := if padd p v < lo then bl else if hi < padd p v then ab else 0
theorem wallP_bd {p v lo hi : Int} (hl : F32 lo) (hh : F32 hi) : F32 (wallP p v lo hi) := by
 unfold wallP
 split
 ·exact hl
 ·split
  ·exact hh
  ·exact sat_bd _
theorem wallV_bd {p v lo hi : Int} (hv : F32 v) : F32 (wallV p v lo hi) := by
 unfold wallV
 split
 ·exact back_bd _
 ·split
  ·exact back_bd _
  ·exact hv
theorem swall_any {p v : Int} (hp : F32 p) (hv : F32 v) (lo hi bl ab : Int) (w : World) :
  Calls Tryz.prog 287 #[.int .i32 p, .int .i32 v, .int .i32 lo, .int .i32 hi, .int .i64 bl, .int .i64 ab] w fun e w' => e = .returned (.tuple #[.int .i32 (wallP p v lo hi), .int .i32 (wallV p v lo hi), .int .i64 (wallW p v lo hi bl ab)]) ∧ w = w' := by
 have HP := zz hp
 have HV := zz hv
 have e : fmul (sat (-v)) 32768 = back_ v := rfl
 unfold wallP wallV wallW
 obtain ⟨q, hq⟩ : ∃ q, padd p v = q := ⟨_, rfl⟩
 obtain ⟨b, hb⟩ : ∃ b, back_ v = b := ⟨_, rfl⟩
 rw [hq, hb]
 rw [hb] at e
 have HQ := zz hq
 have HE := zz e
 clear hp hv hq hb e
 by_cases h1 : q < lo
 ·rw [if_pos h1, if_pos h1, if_pos h1]
  go_enter Tryz.func287, Tryz.ntmps287
  go_wp2_with fail
  refine (fAdd_p HP.out HV.out _).mono ?_
  rw [HQ.out]
  rintro e w1 ⟨rfl, rfl⟩
  go_wp2_with fail
  refine (fNeg_any HV.out _).mono ?_
  rintro e w1 ⟨rfl, rfl⟩
  go_wp2_with fail
  refine (fMul_p (sat_bd _) half_f32 _).mono ?_
  rw [HE.out]
  rintro e w1 ⟨rfl, rfl⟩
  go_wp2
  go_ret3
  exact ⟨rfl, rfl⟩
 ·rw [if_neg h1, if_neg h1, if_neg h1]
  have g1 : lo ≤ q := by omega
  clear h1
  by_cases h2 : hi < q
  ·rw [if_pos h2, if_pos h2, if_pos h2]
   go_enter Tryz.func287, Tryz.ntmps287
   go_wp2_with fail
   refine (fAdd_p HP.out HV.out _).mono ?_
   rw [HQ.out]
   rintro e w1 ⟨rfl, rfl⟩
   go_wp2_with fail
   refine (fNeg_any HV.out _).mono ?_
   rintro e w1 ⟨rfl, rfl⟩
   go_wp2_with fail
   refine (fMul_p (sat_bd _) half_f32 _).mono ?_
   rw [HE.out]
   rintro e w1 ⟨rfl, rfl⟩
   go_wp2
   go_ret3
   exact ⟨rfl, rfl⟩
  ·rw [if_neg h2, if_neg h2, if_neg h2]
   have g2 : q ≤ hi := by omega
   clear h2
   go_enter Tryz.func287, Tryz.ntmps287
   go_wp2_with fail
   refine (fAdd_p HP.out HV.out _).mono ?_
   rw [HQ.out]
   rintro e w1 ⟨rfl, rfl⟩
   go_wp2_with fail
   refine (fNeg_any HV.out _).mono ?_
   rintro e w1 ⟨rfl, rfl⟩
   go_wp2_with fail
   refine (fMul_p (sat_bd _) half_f32 _).mono ?_
   rw [HE.out]
   rintro e w1 ⟨rfl, rfl⟩
   go_wp2
   go_ret3
   exact ⟨rfl, rfl⟩
def touchB (px py r qx qy s : Int) : Bool := nearB (psub qx px) (psub qy py) (padd r s)
section
variable {px py r qx qy s : Int} (h1 : F32 px) (h2 : F32 py) (h3 : F32 r) (h4 : F32 qx) (h5 : F32 qy) (h6 : F32 s) (w : World)
include h1 h2 h3 h4 h5 h6
theorem sTouch_any : Calls Tryz.prog 192 #[.agg #[.int .i32 px, .int .i32 py], .int .i32 r, .agg #[.int .i32 qx, .int .i32 qy], .int .i32 s] w fun e w' => e = .returned (.bool (touchB px py r qx qy s)) ∧ Below w.heap.size w w' := by
 have H1 := zz h1
 have H2 := zz h2
 have H3 := zz h3
 have H4 := zz h4
 have H5 := zz h5
 have H6 := zz h6
 clear h1 h2 h3 h4 h5 h6
 go_enter Tryz.func192, Tryz.ntmps192
 go_wp2_with fail
 refine (sSub_any H4.out H5.out H1.out H2.out _).mono ?_
 rintro e w1 ⟨rfl, k1⟩
 obtain ⟨k1c, k1f⟩ := bcell k1
 have k1z := k1.size
 simp at k1z
 go_wp2
 go_quiet (first | (go_at_call 245; exact quiet_sw (fAdd_p H3.out H6.out _)) | (go_at_call 244; exact quiet_sw (tNear_any (sat_bd _) (sat_bd _) (sat_bd _) _)))
 go_wp2
 go_ret
 exact ⟨rfl, (by repeat (first | exact Below.refl _ _ | (with_reducible assumption) | apply bAlloc | apply below_drewN | apply Below.drew | (refine bSetG ?_ (by first | omega | (simp; omega)) _ _) | (refine bTrans ?_ (by with_reducible assumption))))⟩
theorem r10Touch_any : Calls Tryz.prog 149 #[.agg #[.int .i32 px, .int .i32 py], .int .i32 r, .agg #[.int .i32 qx, .int .i32 qy], .int .i32 s] w fun e w' => e = .returned (.bool (touchB px py r qx qy s)) ∧ Below w.heap.size w w' := by
 have H1 := zz h1
 have H2 := zz h2
 have H3 := zz h3
 have H4 := zz h4
 have H5 := zz h5
 have H6 := zz h6
 have hd : touchB px py r qx qy s = (decide (0 ≤ padd r s) && decide (sq (psub qx px) + sq (psub qy py) ≤ sq (padd r s))) := rfl
 have hx := sq_bd (sat_bd (qx - px))
 have hy := sq_bd (sat_bd (qy - py))
 have hr := sq_bd (sat_bd (r + s))
 have e1 : psub qx px = sat (qx - px) := rfl
 have e2 : psub qy py = sat (qy - py) := rfl
 have e3 : padd r s = sat (r + s) := rfl
 have FX := zz (sat_bd (qx - px))
 have FY := zz (sat_bd (qy - py))
 have FR := zz (sat_bd (r + s))
 rw [← e1] at hx FX
 rw [← e2] at hy FY
 rw [← e3] at hr FR
 obtain ⟨dx, hdx⟩ : ∃ x, psub qx px = x := ⟨_, rfl⟩
 obtain ⟨dy, hdy⟩ : ∃ x, psub qy py = x := ⟨_, rfl⟩
 obtain ⟨b, hb⟩ : ∃ x, padd r s = x := ⟨_, rfl⟩
 rw [hdx, hdy, hb] at hd
 rw [hdx] at hx FX
 rw [hdy] at hy FY
 rw [hb] at hr FR
 have HDX := zz hdx
 have HDY := zz hdy
 have HB := zz hb
 obtain ⟨p, hp⟩ : ∃ p, sq dx + sq dy = p := ⟨_, rfl⟩
 obtain ⟨q, hq⟩ : ∃ q, sq b = q := ⟨_, rfl⟩
 have hq2 : sq b + sq 0 = q := by rw [hq]; rfl
 rw [hp, hq] at hd
 rw [hd]
 have HP := zz hp
 have HQ := zz hq2
 have F0 : Hid (F32 0) := zz (by unfold F32; omega)
 clear h1 h2 h3 h4 h5 h6 e1 e2 e3 hdx hdy hb hp hq hq2 hd hx hy hr
 by_cases h0 : 0 ≤ b
 ·rw [decide_eq_true h0, Bool.true_and]
  obtain ⟨c, hc⟩ : ∃ c, decide (p ≤ q) = c := ⟨_, rfl⟩
  rw [hc]
  go_enter Tryz.func149, Tryz.ntmps149
  go_wp2_with fail
  refine (r10Less_any H4.out H5.out H1.out H2.out _).mono ?_
  rw [HDX.out, HDY.out]
  rintro e w1 ⟨rfl, k1⟩
  obtain ⟨k1c, k1f⟩ := bcell k1
  have k1z := k1.size
  simp at k1z
  go_wp2_with fail
  refine (r10Add_p H3.out H6.out _).mono ?_
  rw [HB.out]
  rintro e w2 ⟨rfl, rfl⟩
  go_wp2_with fail
  refine (r02Squares_any FX.out FY.out _).mono ?_
  rw [HP.out]
  rintro e w2 ⟨rfl, rfl⟩
  go_wp2_with fail
  refine (r02Squares_any FR.out F0.out _).mono ?_
  rw [HQ.out]
  rintro e w2 ⟨rfl, rfl⟩
  go_wp2
  all_goals
   go_ret
   exact ⟨rfl, (by repeat (first | exact Below.refl _ _ | (with_reducible assumption) | apply bAlloc | apply below_drewN | apply Below.drew | (refine bSetG ?_ (by first | omega | (simp; omega)) _ _) | (refine bTrans ?_ (by with_reducible assumption))))⟩
 ·rw [decide_eq_false h0, Bool.false_and]
  have h1 : b < 0 := by omega
  clear h0
  go_enter Tryz.func149, Tryz.ntmps149
  go_wp2_with fail
  refine (r10Less_any H4.out H5.out H1.out H2.out _).mono ?_
  rw [HDX.out, HDY.out]
  rintro e w1 ⟨rfl, k1⟩
  obtain ⟨k1c, k1f⟩ := bcell k1
  have k1z := k1.size
  simp at k1z
  go_wp2_with fail
  refine (r10Add_p H3.out H6.out _).mono ?_
  rw [HB.out]
  rintro e w2 ⟨rfl, rfl⟩
  go_wp2
  go_ret
  exact ⟨rfl, (by repeat (first | exact Below.refl _ _ | (with_reducible assumption) | apply bAlloc | apply below_drewN | apply Below.drew | (refine bSetG ?_ (by first | omega | (simp; omega)) _ _) | (refine bTrans ?_ (by with_reducible assumption))))⟩
end
end
section
theorem blk_new_at {w : World} {g : Nat} {E : TypeId} {cs : Array Value} (hg : g = w.heap.size) : Blk (w.alloc (.cells cs E)) g E cs := by subst hg; exact Blk.new w E cs
theorem stepX_bd (x y s : Int) : F32 (stepX x y s) := by
 unfold stepX; split
 ·unfold F32; omega
 ·exact fdiv_bd _ _
theorem stepY_bd (x y s : Int) : F32 (stepY x y s) := by
 unfold stepY; split
 ·unfold F32; omega
 ·exact fdiv_bd _ _
def slowX (x y k m : Int) : Int := if norm (fmul x k) (fmul y k) ≤ m then fmul x k else stepX (fmul x k) (fmul y k) m
def slowY (x y k m : Int) : Int := if norm (fmul x k) (fmul y k) ≤ m then fmul y k else stepY (fmul x k) (fmul y k) m
theorem slowX_bd (x y k m : Int) : F32 (slowX x y k m) := by
 unfold slowX; split
 ·exact fmul_bd _ _
 ·exact stepX_bd _ _ _
theorem slowY_bd (x y k m : Int) : F32 (slowY x y k m) := by
 unfold slowY; split
 ·exact fmul_bd _ _
 ·exact stepY_bd _ _ _
section
variable {x y m : Int} (hx : F32 x) (hy : F32 y) (hm : F32 m) (w : World)
include hx hy hm
theorem stoward_any : Calls Tryz.prog 285 #[.agg #[.int .i32 x, .int .i32 y], .int .i32 m] w fun e w' => e = .returned (.agg #[.int .i32 (stepX x y m), .int .i32 (stepY x y m)]) ∧ Below w.heap.size w w' := by
 have HX := zz hx
 have HY := zz hy
 have HM := zz hm
 clear hx hy hm
 go_enter Tryz.func285, Tryz.ntmps285
 go_wp2_with fail
 refine (tToward_any HX.out HY.out HM.out _).mono ?_
 rintro e w1 ⟨rfl, rfl⟩
 go_wp2
 refine bodyPost_ret (v := .agg #[.int .i32 (stepX x y m), .int .i32 (stepY x y m)]) (by simp [results, Tryz.results285, go_sem]) rfl ⟨rfl, (by repeat (first | exact Below.refl _ _ | (with_reducible assumption) | apply bAlloc | apply below_drewN | apply Below.drew))⟩
variable {k : Int} (hk : F32 k)
include hk
theorem sSlow_any : Calls Tryz.prog 241 #[.agg #[.int .i32 x, .int .i32 y], .int .i32 k, .int .i32 m] w fun e w' => e = .returned (.agg #[.int .i32 (slowX x y k m), .int .i32 (slowY x y k m)]) ∧ Below w.heap.size w w' := by
 have e1 : slowX x y k m = if norm (fmul x k) (fmul y k) ≤ m then fmul x k else stepX (fmul x k) (fmul y k) m := rfl
 have e2 : slowY x y k m = if norm (fmul x k) (fmul y k) ≤ m then fmul y k else stepY (fmul x k) (fmul y k) m := rfl
 have fx := fmul_bd x k
 have fy := fmul_bd y k
 obtain ⟨X, hX⟩ : ∃ X, fmul x k = X := ⟨_, rfl⟩
 obtain ⟨Y, hY⟩ : ∃ Y, fmul y k = Y := ⟨_, rfl⟩
 rw [hX, hY] at e1 e2
 rw [hX] at fx
 rw [hY] at fy
 obtain ⟨n, hn⟩ : ∃ n, norm X Y = n := ⟨_, rfl⟩
 rw [hn] at e1 e2
 rw [e1, e2]
 have H1 := zz hX
 have H2 := zz hY
 have HN := zz hn
 have HX := zz hx
 have HY := zz hy
 have HM := zz hm
 have HK := zz hk
 have FX := zz fx
 have FY := zz fy
 clear hx hy hm hk hX hY hn e1 e2 fx fy
 by_cases h : n ≤ m
 ·rw [if_pos h, if_pos h]
  go_enter Tryz.func241, Tryz.ntmps241
  go_wp2_with fail
  refine (sScale_any HX.out HY.out HK.out _).mono ?_
  rw [H1.out, H2.out]
  rintro e w1 ⟨rfl, k1⟩
  have q := (Blk.on (g := w.heap.size) (E := 33) (cs := #[.int .i32 x, .int .i32 y]) (by repeat (first | ((with_reducible refine blk_new_at ?_); first | rfl | (simp; done)) | (with_reducible refine Blk.alloc ?_ _) | (with_reducible refine Blk.drew ?_))) k1)
  have qa := q.cell 0
  have qb := q.cell 1
  have qc := q.frozen 0
  have qd := q.frozen 1
  have ql := q.lt
  simp only [zA, zB, zC] at qa qb
  clear q
  have r := (Blk.on (g := (w.heap.size + 1)) (E := 33) (cs := #[.int .i32 0, .int .i32 0]) (by repeat (first | ((with_reducible refine blk_new_at ?_); first | rfl | (simp; done)) | (with_reducible refine Blk.alloc ?_ _) | (with_reducible refine Blk.drew ?_))) k1)
  have ra := r.cell 0
  have rb := r.cell 1
  have rc := r.frozen 0
  have rd := r.frozen 1
  have rl := r.lt
  simp only [zA, zB, zC] at ra rb
  clear r
  go_wp2_with fail
  refine (tLength_any FX.out FY.out _).mono ?_
  rw [HN.out]
  rintro e w2 ⟨rfl, rfl⟩
  go_wp2
  refine bodyPost_ret (v := .agg #[.int .i32 X, .int .i32 Y]) (by simp [results, Tryz.results241, go_sem, ra, rb]) rfl ⟨rfl, (by repeat (first | exact Below.refl _ _ | (with_reducible assumption) | apply bAlloc | apply below_drewN | apply Below.drew | (refine bSetG ?_ (by first | omega | (simp; omega)) _ _) | (refine bTrans ?_ (by with_reducible assumption))))⟩
 ·rw [if_neg h, if_neg h]
  have h' : m < n := by omega
  clear h
  go_enter Tryz.func241, Tryz.ntmps241
  go_wp2_with fail
  refine (sScale_any HX.out HY.out HK.out _).mono ?_
  rw [H1.out, H2.out]
  rintro e w1 ⟨rfl, k1⟩
  have q := (Blk.on (g := w.heap.size) (E := 33) (cs := #[.int .i32 x, .int .i32 y]) (by repeat (first | ((with_reducible refine blk_new_at ?_); first | rfl | (simp; done)) | (with_reducible refine Blk.alloc ?_ _) | (with_reducible refine Blk.drew ?_))) k1)
  have qa := q.cell 0
  have qb := q.cell 1
  have qc := q.frozen 0
  have qd := q.frozen 1
  have ql := q.lt
  simp only [zA, zB, zC] at qa qb
  clear q
  have r := (Blk.on (g := (w.heap.size + 1)) (E := 33) (cs := #[.int .i32 0, .int .i32 0]) (by repeat (first | ((with_reducible refine blk_new_at ?_); first | rfl | (simp; done)) | (with_reducible refine Blk.alloc ?_ _) | (with_reducible refine Blk.drew ?_))) k1)
  have ra := r.cell 0
  have rb := r.cell 1
  have rc := r.frozen 0
  have rd := r.frozen 1
  have rl := r.lt
  simp only [zA, zB, zC] at ra rb
  clear r
  go_wp2_with fail
  refine (tLength_any FX.out FY.out _).mono ?_
  rw [HN.out]
  rintro e w2 ⟨rfl, rfl⟩
  go_wp2_with fail
  refine (stoward_any FX.out FY.out HM.out _).mono ?_
  rintro e w2 ⟨rfl, k2⟩
  obtain ⟨k2c, k2f⟩ := bcell k2
  have k2z := k2.size
  simp at k2z
  have k2y0 : w.heap.size < w2.heap.size := by omega
  try have k2y1 : w.heap.size + 1 < w2.heap.size := by omega
  try have k2y2 : w.heap.size + 1 + 1 < w2.heap.size := by omega
  try have k2y3 : w.heap.size + 1 + 1 + 1 < w2.heap.size := by omega
  try have k2y4 : w.heap.size + 1 + 1 + 1 + 1 < w2.heap.size := by omega
  go_wp2
  refine bodyPost_ret (v := .agg #[.int .i32 (stepX X Y m), .int .i32 (stepY X Y m)]) (by simp [results, Tryz.results241, go_sem, ra, rb, rl, k2c]) rfl ⟨rfl, (by repeat (first | exact Below.refl _ _ | (with_reducible assumption) | apply bAlloc | apply below_drewN | apply Below.drew | (refine bSetG ?_ (by first | omega | (simp; omega)) _ _) | (refine bTrans ?_ (by with_reducible assumption))))⟩
theorem r10Slow_any : Calls Tryz.prog 214 #[.agg #[.int .i32 x, .int .i32 y], .int .i32 k, .int .i32 m] w fun e w' => e = .returned (.agg #[.int .i32 (slowX x y k m), .int .i32 (slowY x y k m)]) ∧ Below w.heap.size w w' := by
 have e1 : slowX x y k m = if norm (fmul x k) (fmul y k) ≤ m then fmul x k else stepX (fmul x k) (fmul y k) m := rfl
 have e2 : slowY x y k m = if norm (fmul x k) (fmul y k) ≤ m then fmul y k else stepY (fmul x k) (fmul y k) m := rfl
 have fx := fmul_bd x k
 have fy := fmul_bd y k
 obtain ⟨X, hX⟩ : ∃ X, fmul x k = X := ⟨_, rfl⟩
 obtain ⟨Y, hY⟩ : ∃ Y, fmul y k = Y := ⟨_, rfl⟩
 rw [hX, hY] at e1 e2
 rw [hX] at fx
 rw [hY] at fy
 obtain ⟨n, hn⟩ : ∃ n, norm X Y = n := ⟨_, rfl⟩
 rw [hn] at e1 e2
 rw [e1, e2]
 have H1 := zz hX
 have H2 := zz hY
 have HN := zz hn
 have HX := zz hx
 have HY := zz hy
 have HM := zz hm
 have HK := zz hk
 have FX := zz fx
 have FY := zz fy
 clear hx hy hm hk hX hY hn e1 e2 fx fy
 by_cases h : n ≤ m
 ·rw [if_pos h, if_pos h]
  go_enter Tryz.func214, Tryz.ntmps214
  go_wp2_with fail
  refine (r10Scale_any HX.out HY.out HK.out _).mono ?_
  rw [H1.out, H2.out]
  rintro e w1 ⟨rfl, k1⟩
  obtain ⟨k1c, k1f⟩ := bcell k1
  have k1z := k1.size
  simp at k1z
  have k1y0 : w.heap.size < w1.heap.size := by omega
  try have k1y1 : w.heap.size + 1 < w1.heap.size := by omega
  try have k1y2 : w.heap.size + 1 + 1 < w1.heap.size := by omega
  try have k1y3 : w.heap.size + 1 + 1 + 1 < w1.heap.size := by omega
  try have k1y4 : w.heap.size + 1 + 1 + 1 + 1 < w1.heap.size := by omega
  go_wp2_with fail
  refine (r02Length_any FX.out FY.out _).mono ?_
  rw [HN.out]
  rintro e w2 ⟨rfl, rfl⟩
  go_wp2
  refine bodyPost_ret (v := .agg #[.int .i32 X, .int .i32 Y]) (by simp [results, Tryz.results214, go_sem, k1c, k1y1]) rfl ⟨rfl, (by repeat (first | exact Below.refl _ _ | (with_reducible assumption) | apply bAlloc | apply below_drewN | apply Below.drew | (refine bSetG ?_ (by first | omega | (simp; omega)) _ _) | (refine bTrans ?_ (by with_reducible assumption))))⟩
 ·rw [if_neg h, if_neg h]
  have h' : m < n := by omega
  clear h
  go_enter Tryz.func214, Tryz.ntmps214
  go_wp2_with fail
  refine (r10Scale_any HX.out HY.out HK.out _).mono ?_
  rw [H1.out, H2.out]
  rintro e w1 ⟨rfl, k1⟩
  obtain ⟨k1c, k1f⟩ := bcell k1
  have k1z := k1.size
  simp at k1z
  have k1y0 : w.heap.size < w1.heap.size := by omega
  try have k1y1 : w.heap.size + 1 < w1.heap.size := by omega
  try have k1y2 : w.heap.size + 1 + 1 < w1.heap.size := by omega
  try have k1y3 : w.heap.size + 1 + 1 + 1 < w1.heap.size := by omega
  try have k1y4 : w.heap.size + 1 + 1 + 1 + 1 < w1.heap.size := by omega
  go_wp2_with fail
  refine (r02Length_any FX.out FY.out _).mono ?_
  rw [HN.out]
  rintro e w2 ⟨rfl, rfl⟩
  go_wp2_with fail
  refine (r02Toward_any FX.out FY.out HM.out _).mono ?_
  rintro e w2 ⟨rfl, rfl⟩
  go_wp2
  refine bodyPost_ret (v := .agg #[.int .i32 (stepX X Y m), .int .i32 (stepY X Y m)]) (by simp [results, Tryz.results214, go_sem, k1c, k1y1]) rfl ⟨rfl, (by repeat (first | exact Below.refl _ _ | (with_reducible assumption) | apply bAlloc | apply below_drewN | apply Below.drew | (refine bSetG ?_ (by first | omega | (simp; omega)) _ _) | (refine bTrans ?_ (by with_reducible assumption))))⟩
end
section
variable {px py vx vy lx ly hx hy : Int} (h1 : F32 px) (h2 : F32 py) (h3 : F32 vx) (h4 : F32 vy) (hr : rightB lx ly hx hy = true) (w : World)
include h1 h2 h3 h4 hr
theorem sMove_any : Calls Tryz.prog 242 #[.agg #[.int .i32 px, .int .i32 py], .agg #[.int .i32 vx, .int .i32 vy], .agg #[.int .i32 lx, .int .i32 ly, .int .i32 hx, .int .i32 hy]] w fun e w' => e = .returned (.tuple #[.agg #[.int .i32 (wallP px vx lx hx), .int .i32 (wallP py vy ly hy)], .agg #[.int .i32 (wallV px vx lx hx), .int .i32 (wallV py vy ly hy)], .int .i64 (wallW px vx lx hx 1 2 + wallW py vy ly hy 4 8), .int .i64 0]) ∧ Below w.heap.size w w' := by
 have H1 := zz h1
 have H2 := zz h2
 have H3 := zz h3
 have H4 := zz h4
 have HR := zz hr
 have hor : bits .or .i64 (wallW px vx lx hx 1 2) (wallW py vy ly hy 4 8) = wallW px vx lx hx 1 2 + wallW py vy ly hy 4 8 := by
  unfold wallW
  repeat' split
  all_goals rfl
 obtain ⟨a, ha⟩ : ∃ a, wallW px vx lx hx 1 2 = a := ⟨_, rfl⟩
 obtain ⟨b, hb⟩ : ∃ b, wallW py vy ly hy 4 8 = b := ⟨_, rfl⟩
 obtain ⟨x, hx'⟩ : ∃ a, wallP px vx lx hx = a := ⟨_, rfl⟩
 obtain ⟨y, hy'⟩ : ∃ a, wallP py vy ly hy = a := ⟨_, rfl⟩
 obtain ⟨u, hu⟩ : ∃ a, wallV px vx lx hx = a := ⟨_, rfl⟩
 obtain ⟨v, hv⟩ : ∃ a, wallV py vy ly hy = a := ⟨_, rfl⟩
 rw [ha, hb] at hor
 rw [ha, hb, hx', hy', hu, hv]
 have HA := zz ha
 have HB := zz hb
 have HX := zz hx'
 have HY := zz hy'
 have HU := zz hu
 have HV := zz hv
 clear h1 h2 h3 h4 hr ha hb hx' hy' hu hv
 go_enter Tryz.func242, Tryz.ntmps242
 go_wp2_with fail
 refine (sRight_any _ _ _ _ _).mono ?_
 rw [HR.out]
 rintro e w1 ⟨rfl, k1⟩
 have bp := (Blk.on (g := w.heap.size) (E := 33) (cs := #[.int .i32 px, .int .i32 py]) (by repeat (first | ((with_reducible refine blk_new_at ?_); first | rfl | (simp; done)) | (with_reducible refine Blk.alloc ?_ _) | (with_reducible refine Blk.drew ?_))) k1)
 have bv := (Blk.on (g := (w.heap.size + 1)) (E := 33) (cs := #[.int .i32 vx, .int .i32 vy]) (by repeat (first | ((with_reducible refine blk_new_at ?_); first | rfl | (simp; done)) | (with_reducible refine Blk.alloc ?_ _) | (with_reducible refine Blk.drew ?_))) k1)
 have br1 := (Blk.on (g := (w.heap.size + 1 + 1 + 1)) (E := 33) (cs := #[.int .i32 0, .int .i32 0]) (by repeat (first | ((with_reducible refine blk_new_at ?_); first | rfl | (simp; done)) | (with_reducible refine Blk.alloc ?_ _) | (with_reducible refine Blk.drew ?_))) k1)
 have br2 := (Blk.on (g := (w.heap.size + 1 + 1 + 1 + 1)) (E := 33) (cs := #[.int .i32 0, .int .i32 0]) (by repeat (first | ((with_reducible refine blk_new_at ?_); first | rfl | (simp; done)) | (with_reducible refine Blk.alloc ?_ _) | (with_reducible refine Blk.drew ?_))) k1)
 obtain ⟨k1c, k1f⟩ := bcell k1
 have k1z := k1.size
 simp at k1z
 have k1y0 : w.heap.size < w1.heap.size := by omega
 try have k1y1 : w.heap.size + 1 < w1.heap.size := by omega
 try have k1y2 : w.heap.size + 1 + 1 < w1.heap.size := by omega
 try have k1y3 : w.heap.size + 1 + 1 + 1 < w1.heap.size := by omega
 try have k1y4 : w.heap.size + 1 + 1 + 1 + 1 < w1.heap.size := by omega
 have hb1 : Below w.heap.size w w1 := (by repeat (first | exact Below.refl _ _ | (with_reducible assumption) | apply bAlloc | apply below_drewN | apply Below.drew | (refine bSetG ?_ (by first | omega | (simp; omega)) _ _) | (refine bTrans ?_ (by with_reducible assumption))))
 have HBP := zz bp
 have HBV := zz bv
 have HB1 := zz br1
 have HB2 := zz br2
 clear bp bv br1 br2
 go_wp2_with fail
 refine (swall_any H1.out H3.out _ _ _ _ _).mono ?_
 rw [HA.out, HX.out, HU.out]
 rintro e w2 ⟨rfl, rfl⟩
 go_wp2_with fail
 refine (swall_any H2.out H4.out _ _ _ _ _).mono ?_
 rw [HB.out, HY.out, HV.out]
 rintro e w2 ⟨rfl, rfl⟩
 go_wp2
 obtain ⟨W5, hW5⟩ : ∃ W5, W5 = (((w1.setCell ⟨w.heap.size, 0, none⟩ (.int .i32 x)).setCell ⟨w.heap.size + 1, 0, none⟩ (.int .i32 u)).setCell ⟨w.heap.size, 1, none⟩ (.int .i32 y)).setCell ⟨w.heap.size + 1, 1, none⟩ (.int .i32 v) := ⟨_, rfl⟩
 rw [← hW5]
 have bp : Blk W5 w.heap.size 33 #[.int .i32 x, .int .i32 y] := by rw [hW5]; exact (((HBP.out.set 0 _).farG (by omega) _ _).set 1 _).farG (by omega) _ _
 have bv : Blk W5 (w.heap.size + 1) 33 #[.int .i32 u, .int .i32 v] := by rw [hW5]; exact (((HBV.out.farG (by omega) _ _).set 0 _).farG (by omega) _ _).set 1 _
 have br1 : Blk W5 (w.heap.size + 1 + 1 + 1) 33 #[.int .i32 0, .int .i32 0] := by rw [hW5]; exact (((HB1.out.farG (by omega) _ _).farG (by omega) _ _).farG (by omega) _ _).farG (by omega) _ _
 have br2 : Blk W5 (w.heap.size + 1 + 1 + 1 + 1) 33 #[.int .i32 0, .int .i32 0] := by rw [hW5]; exact (((HB2.out.farG (by omega) _ _).farG (by omega) _ _).farG (by omega) _ _).farG (by omega) _ _
 have hb5 : Below w.heap.size w W5 := by rw [hW5]; exact bSetG (bSetG (bSetG (bSetG hb1 (by omega) _ _) (by omega) _ _) (by omega) _ _) (by omega) _ _
 clear hW5 HBP HBV HB1 HB2 hb1 k1 k1c k1f k1z k1y0 k1y1 k1y2 k1y3 k1y4
 have p := bp
 have pa := p.cell 0
 have pb := p.cell 1
 have pc := p.frozen 0
 have pd := p.frozen 1
 have pl := p.lt
 simp only [zA, zB, zC] at pa pb
 clear p
 have q := bv
 have qa := q.cell 0
 have qb := q.cell 1
 have qc := q.frozen 0
 have qd := q.frozen 1
 have ql := q.lt
 simp only [zA, zB, zC] at qa qb
 clear q
 have r := br1
 have ra := r.cell 0
 have rb := r.cell 1
 have rc := r.frozen 0
 have rd := r.frozen 1
 have rl := r.lt
 simp only [zA, zB, zC] at ra rb
 clear r
 have s := br2
 have sa := s.cell 0
 have sb := s.cell 1
 have sc := s.frozen 0
 have sd := s.frozen 1
 have sl := s.lt
 simp only [zA, zB, zC] at sa sb
 clear s
 go_big_region
 all_goals
  go_wp2
  refine bodyPost_ret (v := .tuple #[.agg #[.int .i32 x, .int .i32 y], .agg #[.int .i32 u, .int .i32 v], .int .i64 (a + b), .int .i64 0]) (by simp [results, Tryz.results242, go_sem, ra, rb, sa, sb]) rfl ⟨rfl, (by repeat (first | exact Below.refl _ _ | (with_reducible assumption) | apply bAlloc | apply below_drewN | apply Below.drew | (refine bSetG ?_ (by first | omega | (simp; omega)) _ _) | (refine bTrans ?_ (by with_reducible assumption))))⟩
end
end
end Go.Proofs.YtibeihcpehikoaaGreat
