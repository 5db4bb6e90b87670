/-
  The walks of what slows, shrinks and moves: the program's and the document's.
-/
import Derived.BigRegion
import Derived.Test.YtibeihcpehikoaaGreatNr12
namespace Go.Proofs.YtibeihcpehikoaaGreat
section
open Go.RowKit
set_option maxRecDepth 100000
theorem blk_new_at {w : World} {g : Nat} {E : TypeId} {cs : Array Value} (hg : g = w.heap.size) : Blk (w.alloc (.cells cs E)) g E cs := by subst hg; exact Blk.new w E cs
theorem stepX_bd (x y s : Int) : F32 (stepX x y s) := by
  unfold stepX; split
  · unfold F32; omega
  · exact fdiv_bd _ _
theorem stepY_bd (x y s : Int) : F32 (stepY x y s) := by
  unfold stepY; split
  · unfold F32; omega
  · exact fdiv_bd _ _
def slowX (x y k m : Int) : Int := if norm (fmul x k) (fmul y k) ≤ m then fmul x k else stepX (fmul x k) (fmul y k) m
def slowY (x y k m : Int) : Int := if norm (fmul x k) (fmul y k) ≤ m then fmul y k else stepY (fmul x k) (fmul y k) m
theorem slowX_bd (x y k m : Int) : F32 (slowX x y k m) := by
  unfold slowX; split
  · exact fmul_bd _ _
  · exact stepX_bd _ _ _
theorem slowY_bd (x y k m : Int) : F32 (slowY x y k m) := by
  unfold slowY; split
  · exact fmul_bd _ _
  · exact stepY_bd _ _ _
section
variable {x y m : Int} (hx : F32 x) (hy : F32 y) (hm : F32 m) (w : World)
include hx hy hm
set_option maxHeartbeats 1000000 in
theorem stoward_any : Calls Tryz.prog 285 #[.agg #[.int .i32 x, .int .i32 y], .int .i32 m] w fun e w' => e = .returned (.agg #[.int .i32 (stepX x y m), .int .i32 (stepY x y m)]) ∧ Below w.heap.size w w' := by
  have HX := Lib.hid hx
  have HY := Lib.hid hy
  have HM := Lib.hid hm
  clear hx hy hm
  go_enter Tryz.func285, Tryz.ntmps285
  go_wp2_with fail
  refine (tToward_any HX.out HY.out HM.out _).mono ?_
  rintro e w1 ⟨rfl, rfl⟩
  go_wp2
  refine bodyPost_ret (v := .agg #[.int .i32 (stepX x y m), .int .i32 (stepY x y m)]) (by simp [results, Tryz.results285, go_sem]) rfl ⟨rfl, (by repeat (first | exact Below.refl _ _ | (with_reducible assumption) | apply bAlloc | apply below_drewN | apply Below.drew))⟩
variable {k : Int} (hk : F32 k)
include hk
set_option maxHeartbeats 1000000 in
theorem sSlow_any : Calls Tryz.prog 241 #[.agg #[.int .i32 x, .int .i32 y], .int .i32 k, .int .i32 m] w fun e w' => e = .returned (.agg #[.int .i32 (slowX x y k m), .int .i32 (slowY x y k m)]) ∧ Below w.heap.size w w' := by
  have e1 : slowX x y k m = if norm (fmul x k) (fmul y k) ≤ m then fmul x k else stepX (fmul x k) (fmul y k) m := rfl
  have e2 : slowY x y k m = if norm (fmul x k) (fmul y k) ≤ m then fmul y k else stepY (fmul x k) (fmul y k) m := rfl
  have fx := fmul_bd x k
  have fy := fmul_bd y k
  obtain ⟨X, hX⟩ : ∃ X, fmul x k = X := ⟨_, rfl⟩
  obtain ⟨Y, hY⟩ : ∃ Y, fmul y k = Y := ⟨_, rfl⟩
  rw [hX, hY] at e1 e2
  rw [hX] at fx
  rw [hY] at fy
  obtain ⟨n, hn⟩ : ∃ n, norm X Y = n := ⟨_, rfl⟩
  rw [hn] at e1 e2
  rw [e1, e2]
  have H1 := Lib.hid hX
  have H2 := Lib.hid hY
  have HN := Lib.hid hn
  have HX := Lib.hid hx
  have HY := Lib.hid hy
  have HM := Lib.hid hm
  have HK := Lib.hid hk
  have FX := Lib.hid fx
  have FY := Lib.hid fy
  clear hx hy hm hk hX hY hn e1 e2 fx fy
  by_cases h : n ≤ m
  · rw [if_pos h, if_pos h]
    go_enter Tryz.func241, Tryz.ntmps241
    go_wp2_with fail
    refine (sScale_any HX.out HY.out HK.out _).mono ?_
    rw [H1.out, H2.out]
    rintro e w1 ⟨rfl, k1⟩
    have q := (Blk.on (g := w.heap.size) (E := 33) (cs := #[.int .i32 x, .int .i32 y]) (by repeat (first | ((with_reducible refine blk_new_at ?_); first | rfl | (simp; done)) | (with_reducible refine Blk.alloc ?_ _) | (with_reducible refine Blk.drew ?_))) k1)
    have qa := q.cell 0
    have qb := q.cell 1
    have qc := q.frozen 0
    have qd := q.frozen 1
    have ql := q.lt
    simp only [List.getElem?_toArray, List.getElem?_cons_zero, List.getElem?_cons_succ] at qa qb
    clear q
    have r := (Blk.on (g := (w.heap.size + 1)) (E := 33) (cs := #[.int .i32 0, .int .i32 0]) (by repeat (first | ((with_reducible refine blk_new_at ?_); first | rfl | (simp; done)) | (with_reducible refine Blk.alloc ?_ _) | (with_reducible refine Blk.drew ?_))) k1)
    have ra := r.cell 0
    have rb := r.cell 1
    have rc := r.frozen 0
    have rd := r.frozen 1
    have rl := r.lt
    simp only [List.getElem?_toArray, List.getElem?_cons_zero, List.getElem?_cons_succ] at ra rb
    clear r
    go_wp2_with fail
    refine (tLength_any FX.out FY.out _).mono ?_
    rw [HN.out]
    rintro e w2 ⟨rfl, rfl⟩
    go_wp2
    refine bodyPost_ret (v := .agg #[.int .i32 X, .int .i32 Y]) (by simp [results, Tryz.results241, go_sem, ra, rb]) rfl ⟨rfl, (by repeat (first | exact Below.refl _ _ | (with_reducible assumption) | apply bAlloc | apply below_drewN | apply Below.drew | (refine bSetG ?_ (by first | omega | (simp; omega)) _ _) | (refine bTrans ?_ (by with_reducible assumption))))⟩
  · rw [if_neg h, if_neg h]
    have h' : m < n := by omega
    clear h
    go_enter Tryz.func241, Tryz.ntmps241
    go_wp2_with fail
    refine (sScale_any HX.out HY.out HK.out _).mono ?_
    rw [H1.out, H2.out]
    rintro e w1 ⟨rfl, k1⟩
    have q := (Blk.on (g := w.heap.size) (E := 33) (cs := #[.int .i32 x, .int .i32 y]) (by repeat (first | ((with_reducible refine blk_new_at ?_); first | rfl | (simp; done)) | (with_reducible refine Blk.alloc ?_ _) | (with_reducible refine Blk.drew ?_))) k1)
    have qa := q.cell 0
    have qb := q.cell 1
    have qc := q.frozen 0
    have qd := q.frozen 1
    have ql := q.lt
    simp only [List.getElem?_toArray, List.getElem?_cons_zero, List.getElem?_cons_succ] at qa qb
    clear q
    have r := (Blk.on (g := (w.heap.size + 1)) (E := 33) (cs := #[.int .i32 0, .int .i32 0]) (by repeat (first | ((with_reducible refine blk_new_at ?_); first | rfl | (simp; done)) | (with_reducible refine Blk.alloc ?_ _) | (with_reducible refine Blk.drew ?_))) k1)
    have ra := r.cell 0
    have rb := r.cell 1
    have rc := r.frozen 0
    have rd := r.frozen 1
    have rl := r.lt
    simp only [List.getElem?_toArray, List.getElem?_cons_zero, List.getElem?_cons_succ] at ra rb
    clear r
    go_wp2_with fail
    refine (tLength_any FX.out FY.out _).mono ?_
    rw [HN.out]
    rintro e w2 ⟨rfl, rfl⟩
    go_wp2_with fail
    refine (stoward_any FX.out FY.out HM.out _).mono ?_
    rintro e w2 ⟨rfl, k2⟩
    obtain ⟨k2c, k2f⟩ := bcell k2
    have k2z := k2.size
    simp at k2z
    have k2y0 : w.heap.size < w2.heap.size := by omega
    try have k2y1 : w.heap.size + 1 < w2.heap.size := by omega
    try have k2y2 : w.heap.size + 1 + 1 < w2.heap.size := by omega
    try have k2y3 : w.heap.size + 1 + 1 + 1 < w2.heap.size := by omega
    try have k2y4 : w.heap.size + 1 + 1 + 1 + 1 < w2.heap.size := by omega
    go_wp2
    refine bodyPost_ret (v := .agg #[.int .i32 (stepX X Y m), .int .i32 (stepY X Y m)]) (by simp [results, Tryz.results241, go_sem, ra, rb, rl, k2c]) rfl ⟨rfl, (by repeat (first | exact Below.refl _ _ | (with_reducible assumption) | apply bAlloc | apply below_drewN | apply Below.drew | (refine bSetG ?_ (by first | omega | (simp; omega)) _ _) | (refine bTrans ?_ (by with_reducible assumption))))⟩
end
section
variable {px py vx vy lx ly hx hy : Int} (h1 : F32 px) (h2 : F32 py) (h3 : F32 vx) (h4 : F32 vy) (hr : rightB lx ly hx hy = true) (w : World)
include h1 h2 h3 h4 hr
set_option maxHeartbeats 1000000 in
theorem sMove_any : Calls Tryz.prog 242 #[.agg #[.int .i32 px, .int .i32 py], .agg #[.int .i32 vx, .int .i32 vy], .agg #[.int .i32 lx, .int .i32 ly, .int .i32 hx, .int .i32 hy]] w fun e w' => e = .returned (.tuple #[.agg #[.int .i32 (wallP px vx lx hx), .int .i32 (wallP py vy ly hy)], .agg #[.int .i32 (wallV px vx lx hx), .int .i32 (wallV py vy ly hy)], .int .i64 (wallW px vx lx hx 1 2 + wallW py vy ly hy 4 8), .int .i64 0]) ∧ Below w.heap.size w w' := by
  have H1 := Lib.hid h1
  have H2 := Lib.hid h2
  have H3 := Lib.hid h3
  have H4 := Lib.hid h4
  have HR := Lib.hid hr
  have hor : bits .or .i64 (wallW px vx lx hx 1 2) (wallW py vy ly hy 4 8) = wallW px vx lx hx 1 2 + wallW py vy ly hy 4 8 := by
    unfold wallW
    repeat' split
    all_goals rfl
  obtain ⟨a, ha⟩ : ∃ a, wallW px vx lx hx 1 2 = a := ⟨_, rfl⟩
  obtain ⟨b, hb⟩ : ∃ b, wallW py vy ly hy 4 8 = b := ⟨_, rfl⟩
  obtain ⟨x, hx'⟩ : ∃ a, wallP px vx lx hx = a := ⟨_, rfl⟩
  obtain ⟨y, hy'⟩ : ∃ a, wallP py vy ly hy = a := ⟨_, rfl⟩
  obtain ⟨u, hu⟩ : ∃ a, wallV px vx lx hx = a := ⟨_, rfl⟩
  obtain ⟨v, hv⟩ : ∃ a, wallV py vy ly hy = a := ⟨_, rfl⟩
  rw [ha, hb] at hor
  rw [ha, hb, hx', hy', hu, hv]
  have HA := Lib.hid ha
  have HB := Lib.hid hb
  have HX := Lib.hid hx'
  have HY := Lib.hid hy'
  have HU := Lib.hid hu
  have HV := Lib.hid hv
  clear h1 h2 h3 h4 hr ha hb hx' hy' hu hv
  go_enter Tryz.func242, Tryz.ntmps242
  go_wp2_with fail
  refine (sRight_any _ _ _ _ _).mono ?_
  rw [HR.out]
  rintro e w1 ⟨rfl, k1⟩
  have bp := (Blk.on (g := w.heap.size) (E := 33) (cs := #[.int .i32 px, .int .i32 py]) (by repeat (first | ((with_reducible refine blk_new_at ?_); first | rfl | (simp; done)) | (with_reducible refine Blk.alloc ?_ _) | (with_reducible refine Blk.drew ?_))) k1)
  have bv := (Blk.on (g := (w.heap.size + 1)) (E := 33) (cs := #[.int .i32 vx, .int .i32 vy]) (by repeat (first | ((with_reducible refine blk_new_at ?_); first | rfl | (simp; done)) | (with_reducible refine Blk.alloc ?_ _) | (with_reducible refine Blk.drew ?_))) k1)
  have br1 := (Blk.on (g := (w.heap.size + 1 + 1 + 1)) (E := 33) (cs := #[.int .i32 0, .int .i32 0]) (by repeat (first | ((with_reducible refine blk_new_at ?_); first | rfl | (simp; done)) | (with_reducible refine Blk.alloc ?_ _) | (with_reducible refine Blk.drew ?_))) k1)
  have br2 := (Blk.on (g := (w.heap.size + 1 + 1 + 1 + 1)) (E := 33) (cs := #[.int .i32 0, .int .i32 0]) (by repeat (first | ((with_reducible refine blk_new_at ?_); first | rfl | (simp; done)) | (with_reducible refine Blk.alloc ?_ _) | (with_reducible refine Blk.drew ?_))) k1)
  obtain ⟨k1c, k1f⟩ := bcell k1
  have k1z := k1.size
  simp at k1z
  have k1y0 : w.heap.size < w1.heap.size := by omega
  try have k1y1 : w.heap.size + 1 < w1.heap.size := by omega
  try have k1y2 : w.heap.size + 1 + 1 < w1.heap.size := by omega
  try have k1y3 : w.heap.size + 1 + 1 + 1 < w1.heap.size := by omega
  try have k1y4 : w.heap.size + 1 + 1 + 1 + 1 < w1.heap.size := by omega
  have hb1 : Below w.heap.size w w1 := (by repeat (first | exact Below.refl _ _ | (with_reducible assumption) | apply bAlloc | apply below_drewN | apply Below.drew | (refine bSetG ?_ (by first | omega | (simp; omega)) _ _) | (refine bTrans ?_ (by with_reducible assumption))))
  have HBP := Lib.hid bp
  have HBV := Lib.hid bv
  have HB1 := Lib.hid br1
  have HB2 := Lib.hid br2
  clear bp bv br1 br2
  go_wp2_with fail
  refine (swall_any H1.out H3.out _ _ _ _ _).mono ?_
  rw [HA.out, HX.out, HU.out]
  rintro e w2 ⟨rfl, rfl⟩
  go_wp2_with fail
  refine (swall_any H2.out H4.out _ _ _ _ _).mono ?_
  rw [HB.out, HY.out, HV.out]
  rintro e w2 ⟨rfl, rfl⟩
  go_wp2
  obtain ⟨W5, hW5⟩ : ∃ W5, W5 = (((w1.setCell ⟨w.heap.size, 0, none⟩ (.int .i32 x)).setCell ⟨w.heap.size + 1, 0, none⟩ (.int .i32 u)).setCell ⟨w.heap.size, 1, none⟩ (.int .i32 y)).setCell ⟨w.heap.size + 1, 1, none⟩ (.int .i32 v) := ⟨_, rfl⟩
  rw [← hW5]
  have bp : Blk W5 w.heap.size 33 #[.int .i32 x, .int .i32 y] := by rw [hW5]; exact (((HBP.out.set 0 _).farG (by omega) _ _).set 1 _).farG (by omega) _ _
  have bv : Blk W5 (w.heap.size + 1) 33 #[.int .i32 u, .int .i32 v] := by rw [hW5]; exact (((HBV.out.farG (by omega) _ _).set 0 _).farG (by omega) _ _).set 1 _
  have br1 : Blk W5 (w.heap.size + 1 + 1 + 1) 33 #[.int .i32 0, .int .i32 0] := by rw [hW5]; exact (((HB1.out.farG (by omega) _ _).farG (by omega) _ _).farG (by omega) _ _).farG (by omega) _ _
  have br2 : Blk W5 (w.heap.size + 1 + 1 + 1 + 1) 33 #[.int .i32 0, .int .i32 0] := by rw [hW5]; exact (((HB2.out.farG (by omega) _ _).farG (by omega) _ _).farG (by omega) _ _).farG (by omega) _ _
  have hb5 : Below w.heap.size w W5 := by rw [hW5]; exact bSetG (bSetG (bSetG (bSetG hb1 (by omega) _ _) (by omega) _ _) (by omega) _ _) (by omega) _ _
  clear hW5 HBP HBV HB1 HB2 hb1 k1 k1c k1f k1z k1y0 k1y1 k1y2 k1y3 k1y4
  have p := bp
  have pa := p.cell 0
  have pb := p.cell 1
  have pc := p.frozen 0
  have pd := p.frozen 1
  have pl := p.lt
  simp only [List.getElem?_toArray, List.getElem?_cons_zero, List.getElem?_cons_succ] at pa pb
  clear p
  have q := bv
  have qa := q.cell 0
  have qb := q.cell 1
  have qc := q.frozen 0
  have qd := q.frozen 1
  have ql := q.lt
  simp only [List.getElem?_toArray, List.getElem?_cons_zero, List.getElem?_cons_succ] at qa qb
  clear q
  have r := br1
  have ra := r.cell 0
  have rb := r.cell 1
  have rc := r.frozen 0
  have rd := r.frozen 1
  have rl := r.lt
  simp only [List.getElem?_toArray, List.getElem?_cons_zero, List.getElem?_cons_succ] at ra rb
  clear r
  have s := br2
  have sa := s.cell 0
  have sb := s.cell 1
  have sc := s.frozen 0
  have sd := s.frozen 1
  have sl := s.lt
  simp only [List.getElem?_toArray, List.getElem?_cons_zero, List.getElem?_cons_succ] at sa sb
  clear s
  go_big_region
  all_goals
    go_wp2
    refine bodyPost_ret (v := .tuple #[.agg #[.int .i32 x, .int .i32 y], .agg #[.int .i32 u, .int .i32 v], .int .i64 (a + b), .int .i64 0]) (by simp [results, Tryz.results242, go_sem, ra, rb, sa, sb]) rfl ⟨rfl, (by repeat (first | exact Below.refl _ _ | (with_reducible assumption) | apply bAlloc | apply below_drewN | apply Below.drew | (refine bSetG ?_ (by first | omega | (simp; omega)) _ _) | (refine bTrans ?_ (by with_reducible assumption))))⟩
end
end
end Go.Proofs.YtibeihcpehikoaaGreat
