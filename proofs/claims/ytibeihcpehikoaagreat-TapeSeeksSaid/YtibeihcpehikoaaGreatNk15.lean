/-
  The walk of the document's move.
-/
import Derived.Test.YtibeihcpehikoaaGreatNk14
namespace Go.Proofs.YtibeihcpehikoaaGreat
open Go.RowKit
set_option maxRecDepth 100000
set_option maxHeartbeats 4000000
section
theorem r10Move_ll {px py vx vy lx ly hx hy X Y B1 B2 : Int} (w : World) (H1 : Hid (F32 px)) (H2 : Hid (F32 py)) (H3 : Hid (F32 vx)) (H4 : Hid (F32 vy)) (HX : Hid (padd px vx = X)) (HY : Hid (padd py vy = Y))  (HB1 : Hid (back_ vx = B1)) (HB2 : Hid (back_ vy = B2)) (c1 : X < lx) (d1 : Y < ly) :
  Calls Tryz.prog 215 #[.agg #[.int .i32 px, .int .i32 py], .agg #[.int .i32 vx, .int .i32 vy], .agg #[.int .i32 lx, .int .i32 ly, .int .i32 hx, .int .i32 hy]] w fun e w' => e = .returned (.tuple #[.agg #[.int .i32 lx, .int .i32 ly], .agg #[.int .i32 B1, .int .i32 B2], .int .i64 5]) ∧ Below w.heap.size w w' := by
 go_enter Tryz.func215, Tryz.ntmps215
 go_wp2_with fail
 refine (r10Plus_any H1.out H2.out H3.out H4.out _).mono ?_
 rw [HX.out, HY.out]
 rintro e w1 ⟨rfl, k1⟩
 have HV := zz (Blk.on (g := (w.heap.size + 1)) (E := 33) (cs := #[.int .i32 vx, .int .i32 vy]) (by repeat (first | ((with_reducible refine blk_new_at ?_); first | rfl | (simp; done)) | (with_reducible refine Blk.alloc ?_ _) | (with_reducible refine Blk.drew ?_))) k1)
 have HR1 := zz (Blk.on (g := (w.heap.size + 1 + 1 + 1)) (E := 33) (cs := #[.int .i32 0, .int .i32 0]) (by repeat (first | ((with_reducible refine blk_new_at ?_); first | rfl | (simp; done)) | (with_reducible refine Blk.alloc ?_ _) | (with_reducible refine Blk.drew ?_))) k1)
 have HR2 := zz (Blk.on (g := (w.heap.size + 1 + 1 + 1 + 1)) (E := 33) (cs := #[.int .i32 0, .int .i32 0]) (by repeat (first | ((with_reducible refine blk_new_at ?_); first | rfl | (simp; done)) | (with_reducible refine Blk.alloc ?_ _) | (with_reducible refine Blk.drew ?_))) k1)
 obtain ⟨k1c, k1f⟩ := bcell k1
 have k1z := k1.size
 simp at k1z
 have k1y0 : w.heap.size < w1.heap.size := by omega
 try have k1y1 : w.heap.size + 1 < w1.heap.size := by omega
 try have k1y2 : w.heap.size + 1 + 1 < w1.heap.size := by omega
 try have k1y3 : w.heap.size + 1 + 1 + 1 < w1.heap.size := by omega
 try have k1y4 : w.heap.size + 1 + 1 + 1 + 1 < w1.heap.size := by omega
 have hb1 : Below w.heap.size w w1 := (by repeat (first | exact Below.refl _ _ | (with_reducible assumption) | apply bAlloc | apply below_drewN | apply Below.drew | (refine bSetG ?_ (by first | omega | (simp; omega)) _ _) | (refine bTrans ?_ (by with_reducible assumption))))
 go_wp2_with (go_at_call 260; refine (r10back_any (by first | exact H3.out | exact H4.out) _).mono ?_; (first | rw [HB1.out] | rw [HB2.out]); rintro e w2 ⟨rfl, rfl⟩)
 obtain ⟨W5, hW5⟩ : ∃ W5, W5 = ((w1.setCell ⟨w.heap.size + 1, 0, none⟩ (.int .i32 B1)).setCell ⟨w.heap.size + 1, 1, none⟩ (.int .i32 B2)).alloc (.cells #[.int .i32 lx, .int .i32 ly] 33) := ⟨_, rfl⟩
 rw [← hW5]
 have bq : Blk W5 w1.heap.size 33 #[.int .i32 lx, .int .i32 ly] := by rw [hW5]; exact blk_new_at (by simp)
 have bv : Blk W5 (w.heap.size + 1) 33 #[.int .i32 B1, .int .i32 B2] := by rw [hW5]; exact Blk.alloc (((HV.out).set 0 _).set 1 _) _
 have r1 : Blk W5 (w.heap.size + 1 + 1 + 1) 33 #[.int .i32 0, .int .i32 0] := by rw [hW5]; exact Blk.alloc (by repeat (first | exact HR1.out | refine Blk.farG ?_ (by omega) _ _)) _
 have r2 : Blk W5 (w.heap.size + 1 + 1 + 1 + 1) 33 #[.int .i32 0, .int .i32 0] := by rw [hW5]; exact Blk.alloc (by repeat (first | exact HR2.out | refine Blk.farG ?_ (by omega) _ _)) _
 have hb5 : Below w.heap.size w W5 := by rw [hW5]; exact bAlloc (by repeat (first | exact hb1 | refine bSetG ?_ (by omega) _ _)) _
 clear hW5 HV HR1 HR2 hb1 k1 k1c k1f k1z k1y0 k1y1 k1y2 k1y3 k1y4
 have p := bq
 have pa := p.cell 0
 have pb := p.cell 1
 have pc := p.frozen 0
 have pd := p.frozen 1
 have pl := p.lt
 simp only [zA, zB, zC] at pa pb
 clear p
 have q := bv
 have qa := q.cell 0
 have qb := q.cell 1
 have qc := q.frozen 0
 have qd := q.frozen 1
 have ql := q.lt
 simp only [zA, zB, zC] at qa qb
 clear q
 have r := r1
 have ra := r.cell 0
 have rb := r.cell 1
 have rc := r.frozen 0
 have rd := r.frozen 1
 have rl := r.lt
 simp only [zA, zB, zC] at ra rb
 clear r
 have s := r2
 have sa := s.cell 0
 have sb := s.cell 1
 have sc := s.frozen 0
 have sd := s.frozen 1
 have sl := s.lt
 simp only [zA, zB, zC] at sa sb
 clear s
 go_big_region
 all_goals
  go_wp2
  refine bodyPost_ret (v := .tuple #[.agg #[.int .i32 lx, .int .i32 ly], .agg #[.int .i32 B1, .int .i32 B2], .int .i64 5]) (by simp [results, Tryz.results215, go_sem, ra, rb, sa, sb]) rfl ⟨rfl, (by repeat (first | exact Below.refl _ _ | (with_reducible assumption) | apply bAlloc | apply below_drewN | apply Below.drew | (refine bSetG ?_ (by first | omega | (simp; omega)) _ _) | (refine bTrans ?_ (by with_reducible assumption))))⟩
theorem r10Move_lh {px py vx vy lx ly hx hy X Y B1 B2 : Int} (w : World) (H1 : Hid (F32 px)) (H2 : Hid (F32 py)) (H3 : Hid (F32 vx)) (H4 : Hid (F32 vy)) (HX : Hid (padd px vx = X)) (HY : Hid (padd py vy = Y))  (HB1 : Hid (back_ vx = B1)) (HB2 : Hid (back_ vy = B2)) (c1 : X < lx) (d1 : ly ≤ Y) (d2 : hy < Y) :
  Calls Tryz.prog 215 #[.agg #[.int .i32 px, .int .i32 py], .agg #[.int .i32 vx, .int .i32 vy], .agg #[.int .i32 lx, .int .i32 ly, .int .i32 hx, .int .i32 hy]] w fun e w' => e = .returned (.tuple #[.agg #[.int .i32 lx, .int .i32 hy], .agg #[.int .i32 B1, .int .i32 B2], .int .i64 9]) ∧ Below w.heap.size w w' := by
 go_enter Tryz.func215, Tryz.ntmps215
 go_wp2_with fail
 refine (r10Plus_any H1.out H2.out H3.out H4.out _).mono ?_
 rw [HX.out, HY.out]
 rintro e w1 ⟨rfl, k1⟩
 have HV := zz (Blk.on (g := (w.heap.size + 1)) (E := 33) (cs := #[.int .i32 vx, .int .i32 vy]) (by repeat (first | ((with_reducible refine blk_new_at ?_); first | rfl | (simp; done)) | (with_reducible refine Blk.alloc ?_ _) | (with_reducible refine Blk.drew ?_))) k1)
 have HR1 := zz (Blk.on (g := (w.heap.size + 1 + 1 + 1)) (E := 33) (cs := #[.int .i32 0, .int .i32 0]) (by repeat (first | ((with_reducible refine blk_new_at ?_); first | rfl | (simp; done)) | (with_reducible refine Blk.alloc ?_ _) | (with_reducible refine Blk.drew ?_))) k1)
 have HR2 := zz (Blk.on (g := (w.heap.size + 1 + 1 + 1 + 1)) (E := 33) (cs := #[.int .i32 0, .int .i32 0]) (by repeat (first | ((with_reducible refine blk_new_at ?_); first | rfl | (simp; done)) | (with_reducible refine Blk.alloc ?_ _) | (with_reducible refine Blk.drew ?_))) k1)
 obtain ⟨k1c, k1f⟩ := bcell k1
 have k1z := k1.size
 simp at k1z
 have k1y0 : w.heap.size < w1.heap.size := by omega
 try have k1y1 : w.heap.size + 1 < w1.heap.size := by omega
 try have k1y2 : w.heap.size + 1 + 1 < w1.heap.size := by omega
 try have k1y3 : w.heap.size + 1 + 1 + 1 < w1.heap.size := by omega
 try have k1y4 : w.heap.size + 1 + 1 + 1 + 1 < w1.heap.size := by omega
 have hb1 : Below w.heap.size w w1 := (by repeat (first | exact Below.refl _ _ | (with_reducible assumption) | apply bAlloc | apply below_drewN | apply Below.drew | (refine bSetG ?_ (by first | omega | (simp; omega)) _ _) | (refine bTrans ?_ (by with_reducible assumption))))
 go_wp2_with (go_at_call 260; refine (r10back_any (by first | exact H3.out | exact H4.out) _).mono ?_; (first | rw [HB1.out] | rw [HB2.out]); rintro e w2 ⟨rfl, rfl⟩)
 obtain ⟨W5, hW5⟩ : ∃ W5, W5 = ((w1.setCell ⟨w.heap.size + 1, 0, none⟩ (.int .i32 B1)).setCell ⟨w.heap.size + 1, 1, none⟩ (.int .i32 B2)).alloc (.cells #[.int .i32 lx, .int .i32 hy] 33) := ⟨_, rfl⟩
 rw [← hW5]
 have bq : Blk W5 w1.heap.size 33 #[.int .i32 lx, .int .i32 hy] := by rw [hW5]; exact blk_new_at (by simp)
 have bv : Blk W5 (w.heap.size + 1) 33 #[.int .i32 B1, .int .i32 B2] := by rw [hW5]; exact Blk.alloc (((HV.out).set 0 _).set 1 _) _
 have r1 : Blk W5 (w.heap.size + 1 + 1 + 1) 33 #[.int .i32 0, .int .i32 0] := by rw [hW5]; exact Blk.alloc (by repeat (first | exact HR1.out | refine Blk.farG ?_ (by omega) _ _)) _
 have r2 : Blk W5 (w.heap.size + 1 + 1 + 1 + 1) 33 #[.int .i32 0, .int .i32 0] := by rw [hW5]; exact Blk.alloc (by repeat (first | exact HR2.out | refine Blk.farG ?_ (by omega) _ _)) _
 have hb5 : Below w.heap.size w W5 := by rw [hW5]; exact bAlloc (by repeat (first | exact hb1 | refine bSetG ?_ (by omega) _ _)) _
 clear hW5 HV HR1 HR2 hb1 k1 k1c k1f k1z k1y0 k1y1 k1y2 k1y3 k1y4
 have p := bq
 have pa := p.cell 0
 have pb := p.cell 1
 have pc := p.frozen 0
 have pd := p.frozen 1
 have pl := p.lt
 simp only [zA, zB, zC] at pa pb
 clear p
 have q := bv
 have qa := q.cell 0
 have qb := q.cell 1
 have qc := q.frozen 0
 have qd := q.frozen 1
 have ql := q.lt
 simp only [zA, zB, zC] at qa qb
 clear q
 have r := r1
 have ra := r.cell 0
 have rb := r.cell 1
 have rc := r.frozen 0
 have rd := r.frozen 1
 have rl := r.lt
 simp only [zA, zB, zC] at ra rb
 clear r
 have s := r2
 have sa := s.cell 0
 have sb := s.cell 1
 have sc := s.frozen 0
 have sd := s.frozen 1
 have sl := s.lt
 simp only [zA, zB, zC] at sa sb
 clear s
 go_big_region
 all_goals
  go_wp2
  refine bodyPost_ret (v := .tuple #[.agg #[.int .i32 lx, .int .i32 hy], .agg #[.int .i32 B1, .int .i32 B2], .int .i64 9]) (by simp [results, Tryz.results215, go_sem, ra, rb, sa, sb]) rfl ⟨rfl, (by repeat (first | exact Below.refl _ _ | (with_reducible assumption) | apply bAlloc | apply below_drewN | apply Below.drew | (refine bSetG ?_ (by first | omega | (simp; omega)) _ _) | (refine bTrans ?_ (by with_reducible assumption))))⟩
theorem r10Move_lm {px py vx vy lx ly hx hy X Y B1 : Int} (w : World) (H1 : Hid (F32 px)) (H2 : Hid (F32 py)) (H3 : Hid (F32 vx)) (H4 : Hid (F32 vy)) (HX : Hid (padd px vx = X)) (HY : Hid (padd py vy = Y))  (HB1 : Hid (back_ vx = B1)) (c1 : X < lx) (d1 : ly ≤ Y) (d2 : Y ≤ hy) :
  Calls Tryz.prog 215 #[.agg #[.int .i32 px, .int .i32 py], .agg #[.int .i32 vx, .int .i32 vy], .agg #[.int .i32 lx, .int .i32 ly, .int .i32 hx, .int .i32 hy]] w fun e w' => e = .returned (.tuple #[.agg #[.int .i32 lx, .int .i32 Y], .agg #[.int .i32 B1, .int .i32 vy], .int .i64 1]) ∧ Below w.heap.size w w' := by
 go_enter Tryz.func215, Tryz.ntmps215
 go_wp2_with fail
 refine (r10Plus_any H1.out H2.out H3.out H4.out _).mono ?_
 rw [HX.out, HY.out]
 rintro e w1 ⟨rfl, k1⟩
 have HV := zz (Blk.on (g := (w.heap.size + 1)) (E := 33) (cs := #[.int .i32 vx, .int .i32 vy]) (by repeat (first | ((with_reducible refine blk_new_at ?_); first | rfl | (simp; done)) | (with_reducible refine Blk.alloc ?_ _) | (with_reducible refine Blk.drew ?_))) k1)
 have HR1 := zz (Blk.on (g := (w.heap.size + 1 + 1 + 1)) (E := 33) (cs := #[.int .i32 0, .int .i32 0]) (by repeat (first | ((with_reducible refine blk_new_at ?_); first | rfl | (simp; done)) | (with_reducible refine Blk.alloc ?_ _) | (with_reducible refine Blk.drew ?_))) k1)
 have HR2 := zz (Blk.on (g := (w.heap.size + 1 + 1 + 1 + 1)) (E := 33) (cs := #[.int .i32 0, .int .i32 0]) (by repeat (first | ((with_reducible refine blk_new_at ?_); first | rfl | (simp; done)) | (with_reducible refine Blk.alloc ?_ _) | (with_reducible refine Blk.drew ?_))) k1)
 obtain ⟨k1c, k1f⟩ := bcell k1
 have k1z := k1.size
 simp at k1z
 have k1y0 : w.heap.size < w1.heap.size := by omega
 try have k1y1 : w.heap.size + 1 < w1.heap.size := by omega
 try have k1y2 : w.heap.size + 1 + 1 < w1.heap.size := by omega
 try have k1y3 : w.heap.size + 1 + 1 + 1 < w1.heap.size := by omega
 try have k1y4 : w.heap.size + 1 + 1 + 1 + 1 < w1.heap.size := by omega
 have hb1 : Below w.heap.size w w1 := (by repeat (first | exact Below.refl _ _ | (with_reducible assumption) | apply bAlloc | apply below_drewN | apply Below.drew | (refine bSetG ?_ (by first | omega | (simp; omega)) _ _) | (refine bTrans ?_ (by with_reducible assumption))))
 go_wp2_with (go_at_call 260; refine (r10back_any (by first | exact H3.out | exact H4.out) _).mono ?_; (first | rw [HB1.out]); rintro e w2 ⟨rfl, rfl⟩)
 obtain ⟨W5, hW5⟩ : ∃ W5, W5 = (w1.setCell ⟨w.heap.size + 1, 0, none⟩ (.int .i32 B1)).alloc (.cells #[.int .i32 lx, .int .i32 Y] 33) := ⟨_, rfl⟩
 rw [← hW5]
 have bq : Blk W5 w1.heap.size 33 #[.int .i32 lx, .int .i32 Y] := by rw [hW5]; exact blk_new_at (by simp)
 have bv : Blk W5 (w.heap.size + 1) 33 #[.int .i32 B1, .int .i32 vy] := by rw [hW5]; exact Blk.alloc ((HV.out).set 0 _) _
 have r1 : Blk W5 (w.heap.size + 1 + 1 + 1) 33 #[.int .i32 0, .int .i32 0] := by rw [hW5]; exact Blk.alloc (by repeat (first | exact HR1.out | refine Blk.farG ?_ (by omega) _ _)) _
 have r2 : Blk W5 (w.heap.size + 1 + 1 + 1 + 1) 33 #[.int .i32 0, .int .i32 0] := by rw [hW5]; exact Blk.alloc (by repeat (first | exact HR2.out | refine Blk.farG ?_ (by omega) _ _)) _
 have hb5 : Below w.heap.size w W5 := by rw [hW5]; exact bAlloc (by repeat (first | exact hb1 | refine bSetG ?_ (by omega) _ _)) _
 clear hW5 HV HR1 HR2 hb1 k1 k1c k1f k1z k1y0 k1y1 k1y2 k1y3 k1y4
 have p := bq
 have pa := p.cell 0
 have pb := p.cell 1
 have pc := p.frozen 0
 have pd := p.frozen 1
 have pl := p.lt
 simp only [zA, zB, zC] at pa pb
 clear p
 have q := bv
 have qa := q.cell 0
 have qb := q.cell 1
 have qc := q.frozen 0
 have qd := q.frozen 1
 have ql := q.lt
 simp only [zA, zB, zC] at qa qb
 clear q
 have r := r1
 have ra := r.cell 0
 have rb := r.cell 1
 have rc := r.frozen 0
 have rd := r.frozen 1
 have rl := r.lt
 simp only [zA, zB, zC] at ra rb
 clear r
 have s := r2
 have sa := s.cell 0
 have sb := s.cell 1
 have sc := s.frozen 0
 have sd := s.frozen 1
 have sl := s.lt
 simp only [zA, zB, zC] at sa sb
 clear s
 go_big_region
 all_goals
  go_wp2
  refine bodyPost_ret (v := .tuple #[.agg #[.int .i32 lx, .int .i32 Y], .agg #[.int .i32 B1, .int .i32 vy], .int .i64 1]) (by simp [results, Tryz.results215, go_sem, ra, rb, sa, sb]) rfl ⟨rfl, (by repeat (first | exact Below.refl _ _ | (with_reducible assumption) | apply bAlloc | apply below_drewN | apply Below.drew | (refine bSetG ?_ (by first | omega | (simp; omega)) _ _) | (refine bTrans ?_ (by with_reducible assumption))))⟩
theorem r10Move_hl {px py vx vy lx ly hx hy X Y B1 B2 : Int} (w : World) (H1 : Hid (F32 px)) (H2 : Hid (F32 py)) (H3 : Hid (F32 vx)) (H4 : Hid (F32 vy)) (HX : Hid (padd px vx = X)) (HY : Hid (padd py vy = Y))  (HB1 : Hid (back_ vx = B1)) (HB2 : Hid (back_ vy = B2)) (c1 : lx ≤ X) (c2 : hx < X) (d1 : Y < ly) :
  Calls Tryz.prog 215 #[.agg #[.int .i32 px, .int .i32 py], .agg #[.int .i32 vx, .int .i32 vy], .agg #[.int .i32 lx, .int .i32 ly, .int .i32 hx, .int .i32 hy]] w fun e w' => e = .returned (.tuple #[.agg #[.int .i32 hx, .int .i32 ly], .agg #[.int .i32 B1, .int .i32 B2], .int .i64 6]) ∧ Below w.heap.size w w' := by
 go_enter Tryz.func215, Tryz.ntmps215
 go_wp2_with fail
 refine (r10Plus_any H1.out H2.out H3.out H4.out _).mono ?_
 rw [HX.out, HY.out]
 rintro e w1 ⟨rfl, k1⟩
 have HV := zz (Blk.on (g := (w.heap.size + 1)) (E := 33) (cs := #[.int .i32 vx, .int .i32 vy]) (by repeat (first | ((with_reducible refine blk_new_at ?_); first | rfl | (simp; done)) | (with_reducible refine Blk.alloc ?_ _) | (with_reducible refine Blk.drew ?_))) k1)
 have HR1 := zz (Blk.on (g := (w.heap.size + 1 + 1 + 1)) (E := 33) (cs := #[.int .i32 0, .int .i32 0]) (by repeat (first | ((with_reducible refine blk_new_at ?_); first | rfl | (simp; done)) | (with_reducible refine Blk.alloc ?_ _) | (with_reducible refine Blk.drew ?_))) k1)
 have HR2 := zz (Blk.on (g := (w.heap.size + 1 + 1 + 1 + 1)) (E := 33) (cs := #[.int .i32 0, .int .i32 0]) (by repeat (first | ((with_reducible refine blk_new_at ?_); first | rfl | (simp; done)) | (with_reducible refine Blk.alloc ?_ _) | (with_reducible refine Blk.drew ?_))) k1)
 obtain ⟨k1c, k1f⟩ := bcell k1
 have k1z := k1.size
 simp at k1z
 have k1y0 : w.heap.size < w1.heap.size := by omega
 try have k1y1 : w.heap.size + 1 < w1.heap.size := by omega
 try have k1y2 : w.heap.size + 1 + 1 < w1.heap.size := by omega
 try have k1y3 : w.heap.size + 1 + 1 + 1 < w1.heap.size := by omega
 try have k1y4 : w.heap.size + 1 + 1 + 1 + 1 < w1.heap.size := by omega
 have hb1 : Below w.heap.size w w1 := (by repeat (first | exact Below.refl _ _ | (with_reducible assumption) | apply bAlloc | apply below_drewN | apply Below.drew | (refine bSetG ?_ (by first | omega | (simp; omega)) _ _) | (refine bTrans ?_ (by with_reducible assumption))))
 go_wp2_with (go_at_call 260; refine (r10back_any (by first | exact H3.out | exact H4.out) _).mono ?_; (first | rw [HB1.out] | rw [HB2.out]); rintro e w2 ⟨rfl, rfl⟩)
 obtain ⟨W5, hW5⟩ : ∃ W5, W5 = ((w1.setCell ⟨w.heap.size + 1, 0, none⟩ (.int .i32 B1)).setCell ⟨w.heap.size + 1, 1, none⟩ (.int .i32 B2)).alloc (.cells #[.int .i32 hx, .int .i32 ly] 33) := ⟨_, rfl⟩
 rw [← hW5]
 have bq : Blk W5 w1.heap.size 33 #[.int .i32 hx, .int .i32 ly] := by rw [hW5]; exact blk_new_at (by simp)
 have bv : Blk W5 (w.heap.size + 1) 33 #[.int .i32 B1, .int .i32 B2] := by rw [hW5]; exact Blk.alloc (((HV.out).set 0 _).set 1 _) _
 have r1 : Blk W5 (w.heap.size + 1 + 1 + 1) 33 #[.int .i32 0, .int .i32 0] := by rw [hW5]; exact Blk.alloc (by repeat (first | exact HR1.out | refine Blk.farG ?_ (by omega) _ _)) _
 have r2 : Blk W5 (w.heap.size + 1 + 1 + 1 + 1) 33 #[.int .i32 0, .int .i32 0] := by rw [hW5]; exact Blk.alloc (by repeat (first | exact HR2.out | refine Blk.farG ?_ (by omega) _ _)) _
 have hb5 : Below w.heap.size w W5 := by rw [hW5]; exact bAlloc (by repeat (first | exact hb1 | refine bSetG ?_ (by omega) _ _)) _
 clear hW5 HV HR1 HR2 hb1 k1 k1c k1f k1z k1y0 k1y1 k1y2 k1y3 k1y4
 have p := bq
 have pa := p.cell 0
 have pb := p.cell 1
 have pc := p.frozen 0
 have pd := p.frozen 1
 have pl := p.lt
 simp only [zA, zB, zC] at pa pb
 clear p
 have q := bv
 have qa := q.cell 0
 have qb := q.cell 1
 have qc := q.frozen 0
 have qd := q.frozen 1
 have ql := q.lt
 simp only [zA, zB, zC] at qa qb
 clear q
 have r := r1
 have ra := r.cell 0
 have rb := r.cell 1
 have rc := r.frozen 0
 have rd := r.frozen 1
 have rl := r.lt
 simp only [zA, zB, zC] at ra rb
 clear r
 have s := r2
 have sa := s.cell 0
 have sb := s.cell 1
 have sc := s.frozen 0
 have sd := s.frozen 1
 have sl := s.lt
 simp only [zA, zB, zC] at sa sb
 clear s
 go_big_region
 all_goals
  go_wp2
  refine bodyPost_ret (v := .tuple #[.agg #[.int .i32 hx, .int .i32 ly], .agg #[.int .i32 B1, .int .i32 B2], .int .i64 6]) (by simp [results, Tryz.results215, go_sem, ra, rb, sa, sb]) rfl ⟨rfl, (by repeat (first | exact Below.refl _ _ | (with_reducible assumption) | apply bAlloc | apply below_drewN | apply Below.drew | (refine bSetG ?_ (by first | omega | (simp; omega)) _ _) | (refine bTrans ?_ (by with_reducible assumption))))⟩
theorem r10Move_hh {px py vx vy lx ly hx hy X Y B1 B2 : Int} (w : World) (H1 : Hid (F32 px)) (H2 : Hid (F32 py)) (H3 : Hid (F32 vx)) (H4 : Hid (F32 vy)) (HX : Hid (padd px vx = X)) (HY : Hid (padd py vy = Y))  (HB1 : Hid (back_ vx = B1)) (HB2 : Hid (back_ vy = B2)) (c1 : lx ≤ X) (c2 : hx < X) (d1 : ly ≤ Y) (d2 : hy < Y) :
  Calls Tryz.prog 215 #[.agg #[.int .i32 px, .int .i32 py], .agg #[.int .i32 vx, .int .i32 vy], .agg #[.int .i32 lx, .int .i32 ly, .int .i32 hx, .int .i32 hy]] w fun e w' => e = .returned (.tuple #[.agg #[.int .i32 hx, .int .i32 hy], .agg #[.int .i32 B1, .int .i32 B2], .int .i64 10]) ∧ Below w.heap.size w w' := by
 go_enter Tryz.func215, Tryz.ntmps215
 go_wp2_with fail
 refine (r10Plus_any H1.out H2.out H3.out H4.out _).mono ?_
 rw [HX.out, HY.out]
 rintro e w1 ⟨rfl, k1⟩
 have HV := zz (Blk.on (g := (w.heap.size + 1)) (E := 33) (cs := #[.int .i32 vx, .int .i32 vy]) (by repeat (first | ((with_reducible refine blk_new_at ?_); first | rfl | (simp; done)) | (with_reducible refine Blk.alloc ?_ _) | (with_reducible refine Blk.drew ?_))) k1)
 have HR1 := zz (Blk.on (g := (w.heap.size + 1 + 1 + 1)) (E := 33) (cs := #[.int .i32 0, .int .i32 0]) (by repeat (first | ((with_reducible refine blk_new_at ?_); first | rfl | (simp; done)) | (with_reducible refine Blk.alloc ?_ _) | (with_reducible refine Blk.drew ?_))) k1)
 have HR2 := zz (Blk.on (g := (w.heap.size + 1 + 1 + 1 + 1)) (E := 33) (cs := #[.int .i32 0, .int .i32 0]) (by repeat (first | ((with_reducible refine blk_new_at ?_); first | rfl | (simp; done)) | (with_reducible refine Blk.alloc ?_ _) | (with_reducible refine Blk.drew ?_))) k1)
 obtain ⟨k1c, k1f⟩ := bcell k1
 have k1z := k1.size
 simp at k1z
 have k1y0 : w.heap.size < w1.heap.size := by omega
 try have k1y1 : w.heap.size + 1 < w1.heap.size := by omega
 try have k1y2 : w.heap.size + 1 + 1 < w1.heap.size := by omega
 try have k1y3 : w.heap.size + 1 + 1 + 1 < w1.heap.size := by omega
 try have k1y4 : w.heap.size + 1 + 1 + 1 + 1 < w1.heap.size := by omega
 have hb1 : Below w.heap.size w w1 := (by repeat (first | exact Below.refl _ _ | (with_reducible assumption) | apply bAlloc | apply below_drewN | apply Below.drew | (refine bSetG ?_ (by first | omega | (simp; omega)) _ _) | (refine bTrans ?_ (by with_reducible assumption))))
 go_wp2_with (go_at_call 260; refine (r10back_any (by first | exact H3.out | exact H4.out) _).mono ?_; (first | rw [HB1.out] | rw [HB2.out]); rintro e w2 ⟨rfl, rfl⟩)
 obtain ⟨W5, hW5⟩ : ∃ W5, W5 = ((w1.setCell ⟨w.heap.size + 1, 0, none⟩ (.int .i32 B1)).setCell ⟨w.heap.size + 1, 1, none⟩ (.int .i32 B2)).alloc (.cells #[.int .i32 hx, .int .i32 hy] 33) := ⟨_, rfl⟩
 rw [← hW5]
 have bq : Blk W5 w1.heap.size 33 #[.int .i32 hx, .int .i32 hy] := by rw [hW5]; exact blk_new_at (by simp)
 have bv : Blk W5 (w.heap.size + 1) 33 #[.int .i32 B1, .int .i32 B2] := by rw [hW5]; exact Blk.alloc (((HV.out).set 0 _).set 1 _) _
 have r1 : Blk W5 (w.heap.size + 1 + 1 + 1) 33 #[.int .i32 0, .int .i32 0] := by rw [hW5]; exact Blk.alloc (by repeat (first | exact HR1.out | refine Blk.farG ?_ (by omega) _ _)) _
 have r2 : Blk W5 (w.heap.size + 1 + 1 + 1 + 1) 33 #[.int .i32 0, .int .i32 0] := by rw [hW5]; exact Blk.alloc (by repeat (first | exact HR2.out | refine Blk.farG ?_ (by omega) _ _)) _
 have hb5 : Below w.heap.size w W5 := by rw [hW5]; exact bAlloc (by repeat (first | exact hb1 | refine bSetG ?_ (by omega) _ _)) _
 clear hW5 HV HR1 HR2 hb1 k1 k1c k1f k1z k1y0 k1y1 k1y2 k1y3 k1y4
 have p := bq
 have pa := p.cell 0
 have pb := p.cell 1
 have pc := p.frozen 0
 have pd := p.frozen 1
 have pl := p.lt
 simp only [zA, zB, zC] at pa pb
 clear p
 have q := bv
 have qa := q.cell 0
 have qb := q.cell 1
 have qc := q.frozen 0
 have qd := q.frozen 1
 have ql := q.lt
 simp only [zA, zB, zC] at qa qb
 clear q
 have r := r1
 have ra := r.cell 0
 have rb := r.cell 1
 have rc := r.frozen 0
 have rd := r.frozen 1
 have rl := r.lt
 simp only [zA, zB, zC] at ra rb
 clear r
 have s := r2
 have sa := s.cell 0
 have sb := s.cell 1
 have sc := s.frozen 0
 have sd := s.frozen 1
 have sl := s.lt
 simp only [zA, zB, zC] at sa sb
 clear s
 go_big_region
 all_goals
  go_wp2
  refine bodyPost_ret (v := .tuple #[.agg #[.int .i32 hx, .int .i32 hy], .agg #[.int .i32 B1, .int .i32 B2], .int .i64 10]) (by simp [results, Tryz.results215, go_sem, ra, rb, sa, sb]) rfl ⟨rfl, (by repeat (first | exact Below.refl _ _ | (with_reducible assumption) | apply bAlloc | apply below_drewN | apply Below.drew | (refine bSetG ?_ (by first | omega | (simp; omega)) _ _) | (refine bTrans ?_ (by with_reducible assumption))))⟩
theorem r10Move_hm {px py vx vy lx ly hx hy X Y B1 : Int} (w : World) (H1 : Hid (F32 px)) (H2 : Hid (F32 py)) (H3 : Hid (F32 vx)) (H4 : Hid (F32 vy)) (HX : Hid (padd px vx = X)) (HY : Hid (padd py vy = Y))  (HB1 : Hid (back_ vx = B1)) (c1 : lx ≤ X) (c2 : hx < X) (d1 : ly ≤ Y) (d2 : Y ≤ hy) :
  Calls Tryz.prog 215 #[.agg #[.int .i32 px, .int .i32 py], .agg #[.int .i32 vx, .int .i32 vy], .agg #[.int .i32 lx, .int .i32 ly, .int .i32 hx, .int .i32 hy]] w fun e w' => e = .returned (.tuple #[.agg #[.int .i32 hx, .int .i32 Y], .agg #[.int .i32 B1, .int .i32 vy], .int .i64 2]) ∧ Below w.heap.size w w' := by
 go_enter Tryz.func215, Tryz.ntmps215
 go_wp2_with fail
 refine (r10Plus_any H1.out H2.out H3.out H4.out _).mono ?_
 rw [HX.out, HY.out]
 rintro e w1 ⟨rfl, k1⟩
 have HV := zz (Blk.on (g := (w.heap.size + 1)) (E := 33) (cs := #[.int .i32 vx, .int .i32 vy]) (by repeat (first | ((with_reducible refine blk_new_at ?_); first | rfl | (simp; done)) | (with_reducible refine Blk.alloc ?_ _) | (with_reducible refine Blk.drew ?_))) k1)
 have HR1 := zz (Blk.on (g := (w.heap.size + 1 + 1 + 1)) (E := 33) (cs := #[.int .i32 0, .int .i32 0]) (by repeat (first | ((with_reducible refine blk_new_at ?_); first | rfl | (simp; done)) | (with_reducible refine Blk.alloc ?_ _) | (with_reducible refine Blk.drew ?_))) k1)
 have HR2 := zz (Blk.on (g := (w.heap.size + 1 + 1 + 1 + 1)) (E := 33) (cs := #[.int .i32 0, .int .i32 0]) (by repeat (first | ((with_reducible refine blk_new_at ?_); first | rfl | (simp; done)) | (with_reducible refine Blk.alloc ?_ _) | (with_reducible refine Blk.drew ?_))) k1)
 obtain ⟨k1c, k1f⟩ := bcell k1
 have k1z := k1.size
 simp at k1z
 have k1y0 : w.heap.size < w1.heap.size := by omega
 try have k1y1 : w.heap.size + 1 < w1.heap.size := by omega
 try have k1y2 : w.heap.size + 1 + 1 < w1.heap.size := by omega
 try have k1y3 : w.heap.size + 1 + 1 + 1 < w1.heap.size := by omega
 try have k1y4 : w.heap.size + 1 + 1 + 1 + 1 < w1.heap.size := by omega
 have hb1 : Below w.heap.size w w1 := (by repeat (first | exact Below.refl _ _ | (with_reducible assumption) | apply bAlloc | apply below_drewN | apply Below.drew | (refine bSetG ?_ (by first | omega | (simp; omega)) _ _) | (refine bTrans ?_ (by with_reducible assumption))))
 go_wp2_with (go_at_call 260; refine (r10back_any (by first | exact H3.out | exact H4.out) _).mono ?_; (first | rw [HB1.out]); rintro e w2 ⟨rfl, rfl⟩)
 obtain ⟨W5, hW5⟩ : ∃ W5, W5 = (w1.setCell ⟨w.heap.size + 1, 0, none⟩ (.int .i32 B1)).alloc (.cells #[.int .i32 hx, .int .i32 Y] 33) := ⟨_, rfl⟩
 rw [← hW5]
 have bq : Blk W5 w1.heap.size 33 #[.int .i32 hx, .int .i32 Y] := by rw [hW5]; exact blk_new_at (by simp)
 have bv : Blk W5 (w.heap.size + 1) 33 #[.int .i32 B1, .int .i32 vy] := by rw [hW5]; exact Blk.alloc ((HV.out).set 0 _) _
 have r1 : Blk W5 (w.heap.size + 1 + 1 + 1) 33 #[.int .i32 0, .int .i32 0] := by rw [hW5]; exact Blk.alloc (by repeat (first | exact HR1.out | refine Blk.farG ?_ (by omega) _ _)) _
 have r2 : Blk W5 (w.heap.size + 1 + 1 + 1 + 1) 33 #[.int .i32 0, .int .i32 0] := by rw [hW5]; exact Blk.alloc (by repeat (first | exact HR2.out | refine Blk.farG ?_ (by omega) _ _)) _
 have hb5 : Below w.heap.size w W5 := by rw [hW5]; exact bAlloc (by repeat (first | exact hb1 | refine bSetG ?_ (by omega) _ _)) _
 clear hW5 HV HR1 HR2 hb1 k1 k1c k1f k1z k1y0 k1y1 k1y2 k1y3 k1y4
 have p := bq
 have pa := p.cell 0
 have pb := p.cell 1
 have pc := p.frozen 0
 have pd := p.frozen 1
 have pl := p.lt
 simp only [zA, zB, zC] at pa pb
 clear p
 have q := bv
 have qa := q.cell 0
 have qb := q.cell 1
 have qc := q.frozen 0
 have qd := q.frozen 1
 have ql := q.lt
 simp only [zA, zB, zC] at qa qb
 clear q
 have r := r1
 have ra := r.cell 0
 have rb := r.cell 1
 have rc := r.frozen 0
 have rd := r.frozen 1
 have rl := r.lt
 simp only [zA, zB, zC] at ra rb
 clear r
 have s := r2
 have sa := s.cell 0
 have sb := s.cell 1
 have sc := s.frozen 0
 have sd := s.frozen 1
 have sl := s.lt
 simp only [zA, zB, zC] at sa sb
 clear s
 go_big_region
 all_goals
  go_wp2
  refine bodyPost_ret (v := .tuple #[.agg #[.int .i32 hx, .int .i32 Y], .agg #[.int .i32 B1, .int .i32 vy], .int .i64 2]) (by simp [results, Tryz.results215, go_sem, ra, rb, sa, sb]) rfl ⟨rfl, (by repeat (first | exact Below.refl _ _ | (with_reducible assumption) | apply bAlloc | apply below_drewN | apply Below.drew | (refine bSetG ?_ (by first | omega | (simp; omega)) _ _) | (refine bTrans ?_ (by with_reducible assumption))))⟩
theorem r10Move_ml {px py vx vy lx ly hx hy X Y B2 : Int} (w : World) (H1 : Hid (F32 px)) (H2 : Hid (F32 py)) (H3 : Hid (F32 vx)) (H4 : Hid (F32 vy)) (HX : Hid (padd px vx = X)) (HY : Hid (padd py vy = Y))  (HB2 : Hid (back_ vy = B2)) (c1 : lx ≤ X) (c2 : X ≤ hx) (d1 : Y < ly) :
  Calls Tryz.prog 215 #[.agg #[.int .i32 px, .int .i32 py], .agg #[.int .i32 vx, .int .i32 vy], .agg #[.int .i32 lx, .int .i32 ly, .int .i32 hx, .int .i32 hy]] w fun e w' => e = .returned (.tuple #[.agg #[.int .i32 X, .int .i32 ly], .agg #[.int .i32 vx, .int .i32 B2], .int .i64 4]) ∧ Below w.heap.size w w' := by
 go_enter Tryz.func215, Tryz.ntmps215
 go_wp2_with fail
 refine (r10Plus_any H1.out H2.out H3.out H4.out _).mono ?_
 rw [HX.out, HY.out]
 rintro e w1 ⟨rfl, k1⟩
 have HV := zz (Blk.on (g := (w.heap.size + 1)) (E := 33) (cs := #[.int .i32 vx, .int .i32 vy]) (by repeat (first | ((with_reducible refine blk_new_at ?_); first | rfl | (simp; done)) | (with_reducible refine Blk.alloc ?_ _) | (with_reducible refine Blk.drew ?_))) k1)
 have HR1 := zz (Blk.on (g := (w.heap.size + 1 + 1 + 1)) (E := 33) (cs := #[.int .i32 0, .int .i32 0]) (by repeat (first | ((with_reducible refine blk_new_at ?_); first | rfl | (simp; done)) | (with_reducible refine Blk.alloc ?_ _) | (with_reducible refine Blk.drew ?_))) k1)
 have HR2 := zz (Blk.on (g := (w.heap.size + 1 + 1 + 1 + 1)) (E := 33) (cs := #[.int .i32 0, .int .i32 0]) (by repeat (first | ((with_reducible refine blk_new_at ?_); first | rfl | (simp; done)) | (with_reducible refine Blk.alloc ?_ _) | (with_reducible refine Blk.drew ?_))) k1)
 obtain ⟨k1c, k1f⟩ := bcell k1
 have k1z := k1.size
 simp at k1z
 have k1y0 : w.heap.size < w1.heap.size := by omega
 try have k1y1 : w.heap.size + 1 < w1.heap.size := by omega
 try have k1y2 : w.heap.size + 1 + 1 < w1.heap.size := by omega
 try have k1y3 : w.heap.size + 1 + 1 + 1 < w1.heap.size := by omega
 try have k1y4 : w.heap.size + 1 + 1 + 1 + 1 < w1.heap.size := by omega
 have hb1 : Below w.heap.size w w1 := (by repeat (first | exact Below.refl _ _ | (with_reducible assumption) | apply bAlloc | apply below_drewN | apply Below.drew | (refine bSetG ?_ (by first | omega | (simp; omega)) _ _) | (refine bTrans ?_ (by with_reducible assumption))))
 go_wp2_with (go_at_call 260; refine (r10back_any (by first | exact H3.out | exact H4.out) _).mono ?_; (first  | rw [HB2.out]); rintro e w2 ⟨rfl, rfl⟩)
 obtain ⟨W5, hW5⟩ : ∃ W5, W5 = ((w1).setCell ⟨w.heap.size + 1, 1, none⟩ (.int .i32 B2)).alloc (.cells #[.int .i32 X, .int .i32 ly] 33) := ⟨_, rfl⟩
 rw [← hW5]
 have bq : Blk W5 w1.heap.size 33 #[.int .i32 X, .int .i32 ly] := by rw [hW5]; exact blk_new_at (by simp)
 have bv : Blk W5 (w.heap.size + 1) 33 #[.int .i32 vx, .int .i32 B2] := by rw [hW5]; exact Blk.alloc ((HV.out).set 1 _) _
 have r1 : Blk W5 (w.heap.size + 1 + 1 + 1) 33 #[.int .i32 0, .int .i32 0] := by rw [hW5]; exact Blk.alloc (by repeat (first | exact HR1.out | refine Blk.farG ?_ (by omega) _ _)) _
 have r2 : Blk W5 (w.heap.size + 1 + 1 + 1 + 1) 33 #[.int .i32 0, .int .i32 0] := by rw [hW5]; exact Blk.alloc (by repeat (first | exact HR2.out | refine Blk.farG ?_ (by omega) _ _)) _
 have hb5 : Below w.heap.size w W5 := by rw [hW5]; exact bAlloc (by repeat (first | exact hb1 | refine bSetG ?_ (by omega) _ _)) _
 clear hW5 HV HR1 HR2 hb1 k1 k1c k1f k1z k1y0 k1y1 k1y2 k1y3 k1y4
 have p := bq
 have pa := p.cell 0
 have pb := p.cell 1
 have pc := p.frozen 0
 have pd := p.frozen 1
 have pl := p.lt
 simp only [zA, zB, zC] at pa pb
 clear p
 have q := bv
 have qa := q.cell 0
 have qb := q.cell 1
 have qc := q.frozen 0
 have qd := q.frozen 1
 have ql := q.lt
 simp only [zA, zB, zC] at qa qb
 clear q
 have r := r1
 have ra := r.cell 0
 have rb := r.cell 1
 have rc := r.frozen 0
 have rd := r.frozen 1
 have rl := r.lt
 simp only [zA, zB, zC] at ra rb
 clear r
 have s := r2
 have sa := s.cell 0
 have sb := s.cell 1
 have sc := s.frozen 0
 have sd := s.frozen 1
 have sl := s.lt
 simp only [zA, zB, zC] at sa sb
 clear s
 go_big_region
 all_goals
  go_wp2
  refine bodyPost_ret (v := .tuple #[.agg #[.int .i32 X, .int .i32 ly], .agg #[.int .i32 vx, .int .i32 B2], .int .i64 4]) (by simp [results, Tryz.results215, go_sem, ra, rb, sa, sb]) rfl ⟨rfl, (by repeat (first | exact Below.refl _ _ | (with_reducible assumption) | apply bAlloc | apply below_drewN | apply Below.drew | (refine bSetG ?_ (by first | omega | (simp; omega)) _ _) | (refine bTrans ?_ (by with_reducible assumption))))⟩
theorem r10Move_mh {px py vx vy lx ly hx hy X Y B2 : Int} (w : World) (H1 : Hid (F32 px)) (H2 : Hid (F32 py)) (H3 : Hid (F32 vx)) (H4 : Hid (F32 vy)) (HX : Hid (padd px vx = X)) (HY : Hid (padd py vy = Y))  (HB2 : Hid (back_ vy = B2)) (c1 : lx ≤ X) (c2 : X ≤ hx) (d1 : ly ≤ Y) (d2 : hy < Y) :
  Calls Tryz.prog 215 #[.agg #[.int .i32 px, .int .i32 py], .agg #[.int .i32 vx, .int .i32 vy], .agg #[.int .i32 lx, .int .i32 ly, .int .i32 hx, .int .i32 hy]] w fun e w' => e = .returned (.tuple #[.agg #[.int .i32 X, .int .i32 hy], .agg #[.int .i32 vx, .int .i32 B2], .int .i64 8]) ∧ Below w.heap.size w w' := by
 go_enter Tryz.func215, Tryz.ntmps215
 go_wp2_with fail
 refine (r10Plus_any H1.out H2.out H3.out H4.out _).mono ?_
 rw [HX.out, HY.out]
 rintro e w1 ⟨rfl, k1⟩
 have HV := zz (Blk.on (g := (w.heap.size + 1)) (E := 33) (cs := #[.int .i32 vx, .int .i32 vy]) (by repeat (first | ((with_reducible refine blk_new_at ?_); first | rfl | (simp; done)) | (with_reducible refine Blk.alloc ?_ _) | (with_reducible refine Blk.drew ?_))) k1)
 have HR1 := zz (Blk.on (g := (w.heap.size + 1 + 1 + 1)) (E := 33) (cs := #[.int .i32 0, .int .i32 0]) (by repeat (first | ((with_reducible refine blk_new_at ?_); first | rfl | (simp; done)) | (with_reducible refine Blk.alloc ?_ _) | (with_reducible refine Blk.drew ?_))) k1)
 have HR2 := zz (Blk.on (g := (w.heap.size + 1 + 1 + 1 + 1)) (E := 33) (cs := #[.int .i32 0, .int .i32 0]) (by repeat (first | ((with_reducible refine blk_new_at ?_); first | rfl | (simp; done)) | (with_reducible refine Blk.alloc ?_ _) | (with_reducible refine Blk.drew ?_))) k1)
 obtain ⟨k1c, k1f⟩ := bcell k1
 have k1z := k1.size
 simp at k1z
 have k1y0 : w.heap.size < w1.heap.size := by omega
 try have k1y1 : w.heap.size + 1 < w1.heap.size := by omega
 try have k1y2 : w.heap.size + 1 + 1 < w1.heap.size := by omega
 try have k1y3 : w.heap.size + 1 + 1 + 1 < w1.heap.size := by omega
 try have k1y4 : w.heap.size + 1 + 1 + 1 + 1 < w1.heap.size := by omega
 have hb1 : Below w.heap.size w w1 := (by repeat (first | exact Below.refl _ _ | (with_reducible assumption) | apply bAlloc | apply below_drewN | apply Below.drew | (refine bSetG ?_ (by first | omega | (simp; omega)) _ _) | (refine bTrans ?_ (by with_reducible assumption))))
 go_wp2_with (go_at_call 260; refine (r10back_any (by first | exact H3.out | exact H4.out) _).mono ?_; (first  | rw [HB2.out]); rintro e w2 ⟨rfl, rfl⟩)
 obtain ⟨W5, hW5⟩ : ∃ W5, W5 = ((w1).setCell ⟨w.heap.size + 1, 1, none⟩ (.int .i32 B2)).alloc (.cells #[.int .i32 X, .int .i32 hy] 33) := ⟨_, rfl⟩
 rw [← hW5]
 have bq : Blk W5 w1.heap.size 33 #[.int .i32 X, .int .i32 hy] := by rw [hW5]; exact blk_new_at (by simp)
 have bv : Blk W5 (w.heap.size + 1) 33 #[.int .i32 vx, .int .i32 B2] := by rw [hW5]; exact Blk.alloc ((HV.out).set 1 _) _
 have r1 : Blk W5 (w.heap.size + 1 + 1 + 1) 33 #[.int .i32 0, .int .i32 0] := by rw [hW5]; exact Blk.alloc (by repeat (first | exact HR1.out | refine Blk.farG ?_ (by omega) _ _)) _
 have r2 : Blk W5 (w.heap.size + 1 + 1 + 1 + 1) 33 #[.int .i32 0, .int .i32 0] := by rw [hW5]; exact Blk.alloc (by repeat (first | exact HR2.out | refine Blk.farG ?_ (by omega) _ _)) _
 have hb5 : Below w.heap.size w W5 := by rw [hW5]; exact bAlloc (by repeat (first | exact hb1 | refine bSetG ?_ (by omega) _ _)) _
 clear hW5 HV HR1 HR2 hb1 k1 k1c k1f k1z k1y0 k1y1 k1y2 k1y3 k1y4
 have p := bq
 have pa := p.cell 0
 have pb := p.cell 1
 have pc := p.frozen 0
 have pd := p.frozen 1
 have pl := p.lt
 simp only [zA, zB, zC] at pa pb
 clear p
 have q := bv
 have qa := q.cell 0
 have qb := q.cell 1
 have qc := q.frozen 0
 have qd := q.frozen 1
 have ql := q.lt
 simp only [zA, zB, zC] at qa qb
 clear q
 have r := r1
 have ra := r.cell 0
 have rb := r.cell 1
 have rc := r.frozen 0
 have rd := r.frozen 1
 have rl := r.lt
 simp only [zA, zB, zC] at ra rb
 clear r
 have s := r2
 have sa := s.cell 0
 have sb := s.cell 1
 have sc := s.frozen 0
 have sd := s.frozen 1
 have sl := s.lt
 simp only [zA, zB, zC] at sa sb
 clear s
 go_big_region
 all_goals
  go_wp2
  refine bodyPost_ret (v := .tuple #[.agg #[.int .i32 X, .int .i32 hy], .agg #[.int .i32 vx, .int .i32 B2], .int .i64 8]) (by simp [results, Tryz.results215, go_sem, ra, rb, sa, sb]) rfl ⟨rfl, (by repeat (first | exact Below.refl _ _ | (with_reducible assumption) | apply bAlloc | apply below_drewN | apply Below.drew | (refine bSetG ?_ (by first | omega | (simp; omega)) _ _) | (refine bTrans ?_ (by with_reducible assumption))))⟩
theorem r10Move_mm {px py vx vy lx ly hx hy X Y : Int} (w : World) (H1 : Hid (F32 px)) (H2 : Hid (F32 py)) (H3 : Hid (F32 vx)) (H4 : Hid (F32 vy)) (HX : Hid (padd px vx = X)) (HY : Hid (padd py vy = Y))  (c1 : lx ≤ X) (c2 : X ≤ hx) (d1 : ly ≤ Y) (d2 : Y ≤ hy) :
  Calls Tryz.prog 215 #[.agg #[.int .i32 px, .int .i32 py], .agg #[.int .i32 vx, .int .i32 vy], .agg #[.int .i32 lx, .int .i32 ly, .int .i32 hx, .int .i32 hy]] w fun e w' => e = .returned (.tuple #[.agg #[.int .i32 X, .int .i32 Y], .agg #[.int .i32 vx, .int .i32 vy], .int .i64 0]) ∧ Below w.heap.size w w' := by
 go_enter Tryz.func215, Tryz.ntmps215
 go_wp2_with fail
 refine (r10Plus_any H1.out H2.out H3.out H4.out _).mono ?_
 rw [HX.out, HY.out]
 rintro e w1 ⟨rfl, k1⟩
 have HV := zz (Blk.on (g := (w.heap.size + 1)) (E := 33) (cs := #[.int .i32 vx, .int .i32 vy]) (by repeat (first | ((with_reducible refine blk_new_at ?_); first | rfl | (simp; done)) | (with_reducible refine Blk.alloc ?_ _) | (with_reducible refine Blk.drew ?_))) k1)
 have HR1 := zz (Blk.on (g := (w.heap.size + 1 + 1 + 1)) (E := 33) (cs := #[.int .i32 0, .int .i32 0]) (by repeat (first | ((with_reducible refine blk_new_at ?_); first | rfl | (simp; done)) | (with_reducible refine Blk.alloc ?_ _) | (with_reducible refine Blk.drew ?_))) k1)
 have HR2 := zz (Blk.on (g := (w.heap.size + 1 + 1 + 1 + 1)) (E := 33) (cs := #[.int .i32 0, .int .i32 0]) (by repeat (first | ((with_reducible refine blk_new_at ?_); first | rfl | (simp; done)) | (with_reducible refine Blk.alloc ?_ _) | (with_reducible refine Blk.drew ?_))) k1)
 obtain ⟨k1c, k1f⟩ := bcell k1
 have k1z := k1.size
 simp at k1z
 have k1y0 : w.heap.size < w1.heap.size := by omega
 try have k1y1 : w.heap.size + 1 < w1.heap.size := by omega
 try have k1y2 : w.heap.size + 1 + 1 < w1.heap.size := by omega
 try have k1y3 : w.heap.size + 1 + 1 + 1 < w1.heap.size := by omega
 try have k1y4 : w.heap.size + 1 + 1 + 1 + 1 < w1.heap.size := by omega
 have hb1 : Below w.heap.size w w1 := (by repeat (first | exact Below.refl _ _ | (with_reducible assumption) | apply bAlloc | apply below_drewN | apply Below.drew | (refine bSetG ?_ (by first | omega | (simp; omega)) _ _) | (refine bTrans ?_ (by with_reducible assumption))))
 go_wp2_with (go_at_call 260; refine (r10back_any (by first | exact H3.out | exact H4.out) _).mono ?_; (first | fail); rintro e w2 ⟨rfl, rfl⟩)
 obtain ⟨W5, hW5⟩ : ∃ W5, W5 = (w1).alloc (.cells #[.int .i32 X, .int .i32 Y] 33) := ⟨_, rfl⟩
 rw [← hW5]
 have bq : Blk W5 w1.heap.size 33 #[.int .i32 X, .int .i32 Y] := by rw [hW5]; exact blk_new_at (by simp)
 have bv : Blk W5 (w.heap.size + 1) 33 #[.int .i32 vx, .int .i32 vy] := by rw [hW5]; exact Blk.alloc (HV.out) _
 have r1 : Blk W5 (w.heap.size + 1 + 1 + 1) 33 #[.int .i32 0, .int .i32 0] := by rw [hW5]; exact Blk.alloc (by repeat (first | exact HR1.out | refine Blk.farG ?_ (by omega) _ _)) _
 have r2 : Blk W5 (w.heap.size + 1 + 1 + 1 + 1) 33 #[.int .i32 0, .int .i32 0] := by rw [hW5]; exact Blk.alloc (by repeat (first | exact HR2.out | refine Blk.farG ?_ (by omega) _ _)) _
 have hb5 : Below w.heap.size w W5 := by rw [hW5]; exact bAlloc (by repeat (first | exact hb1 | refine bSetG ?_ (by omega) _ _)) _
 clear hW5 HV HR1 HR2 hb1 k1 k1c k1f k1z k1y0 k1y1 k1y2 k1y3 k1y4
 have p := bq
 have pa := p.cell 0
 have pb := p.cell 1
 have pc := p.frozen 0
 have pd := p.frozen 1
 have pl := p.lt
 simp only [zA, zB, zC] at pa pb
 clear p
 have q := bv
 have qa := q.cell 0
 have qb := q.cell 1
 have qc := q.frozen 0
 have qd := q.frozen 1
 have ql := q.lt
 simp only [zA, zB, zC] at qa qb
 clear q
 have r := r1
 have ra := r.cell 0
 have rb := r.cell 1
 have rc := r.frozen 0
 have rd := r.frozen 1
 have rl := r.lt
 simp only [zA, zB, zC] at ra rb
 clear r
 have s := r2
 have sa := s.cell 0
 have sb := s.cell 1
 have sc := s.frozen 0
 have sd := s.frozen 1
 have sl := s.lt
 simp only [zA, zB, zC] at sa sb
 clear s
 go_big_region
 all_goals
  go_wp2
  refine bodyPost_ret (v := .tuple #[.agg #[.int .i32 X, .int .i32 Y], .agg #[.int .i32 vx, .int .i32 vy], .int .i64 0]) (by simp [results, Tryz.results215, go_sem, ra, rb, sa, sb]) rfl ⟨rfl, (by repeat (first | exact Below.refl _ _ | (with_reducible assumption) | apply bAlloc | apply below_drewN | apply Below.drew | (refine bSetG ?_ (by first | omega | (simp; omega)) _ _) | (refine bTrans ?_ (by with_reducible assumption))))⟩
section
variable {px py vx vy lx ly hx hy : Int} (h1 : F32 px) (h2 : F32 py) (h3 : F32 vx) (h4 : F32 vy) (w : World)
include h1 h2 h3 h4
theorem r10Move_any : Calls Tryz.prog 215 #[.agg #[.int .i32 px, .int .i32 py], .agg #[.int .i32 vx, .int .i32 vy], .agg #[.int .i32 lx, .int .i32 ly, .int .i32 hx, .int .i32 hy]] w fun e w' => e = .returned (.tuple #[.agg #[.int .i32 (wallP px vx lx hx), .int .i32 (wallP py vy ly hy)], .agg #[.int .i32 (wallV px vx lx hx), .int .i32 (wallV py vy ly hy)], .int .i64 (wallW px vx lx hx 1 2 + wallW py vy ly hy 4 8)]) ∧ Below w.heap.size w w' := by
 have L := fun {p v lo hi a b : Int} (h : padd p v < lo) => (show wallP p v lo hi = lo ∧ wallV p v lo hi = back_ v ∧ wallW p v lo hi a b = a from ⟨if_pos h, if_pos h, if_pos h⟩)
 have U := fun {p v lo hi a b : Int} (h : ¬ padd p v < lo) (h' : hi < padd p v) => (show wallP p v lo hi = hi ∧ wallV p v lo hi = back_ v ∧ wallW p v lo hi a b = b from ⟨(if_neg h).trans (if_pos h'), (if_neg h).trans (if_pos h'), (if_neg h).trans (if_pos h')⟩)
 have M := fun {p v lo hi a b : Int} (h : ¬ padd p v < lo) (h' : ¬ hi < padd p v) => (show wallP p v lo hi = padd p v ∧ wallV p v lo hi = v ∧ wallW p v lo hi a b = 0 from ⟨(if_neg h).trans (if_neg h'), (if_neg h).trans (if_neg h'), (if_neg h).trans (if_neg h')⟩)
 have H1 := zz h1
 have H2 := zz h2
 have H3 := zz h3
 have H4 := zz h4
 have HX := zz (Eq.refl (padd px vx))
 have HY := zz (Eq.refl (padd py vy))
 have HB1 := zz (Eq.refl (back_ vx))
 have HB2 := zz (Eq.refl (back_ vy))
 by_cases a1 : padd px vx < lx
 ·obtain ⟨e1, e2, e3⟩ := L (hi := hx) (a := 1) (b := 2) a1
  rw [e1, e2, e3]
  by_cases b1 : padd py vy < ly
  ·obtain ⟨e1, e2, e3⟩ := L (hi := hy) (a := 4) (b := 8) b1
   rw [e1, e2, e3]
   exact r10Move_ll w H1 H2 H3 H4 HX HY HB1 HB2 a1 b1
  ·by_cases b2 : hy < padd py vy
   ·obtain ⟨e1, e2, e3⟩ := U (a := 4) (b := 8) b1 b2
    rw [e1, e2, e3]
    exact r10Move_lh w H1 H2 H3 H4 HX HY HB1 HB2 a1 (by omega) b2
   ·obtain ⟨e1, e2, e3⟩ := M (a := 4) (b := 8) b1 b2
    rw [e1, e2, e3]
    exact r10Move_lm w H1 H2 H3 H4 HX HY HB1 a1 (by omega) (by omega)
 ·by_cases a2 : hx < padd px vx
  ·obtain ⟨e1, e2, e3⟩ := U (a := 1) (b := 2) a1 a2
   rw [e1, e2, e3]
   by_cases b1 : padd py vy < ly
   ·obtain ⟨e1, e2, e3⟩ := L (hi := hy) (a := 4) (b := 8) b1
    rw [e1, e2, e3]
    exact r10Move_hl w H1 H2 H3 H4 HX HY HB1 HB2 (by omega) a2 b1
   ·by_cases b2 : hy < padd py vy
    ·obtain ⟨e1, e2, e3⟩ := U (a := 4) (b := 8) b1 b2
     rw [e1, e2, e3]
     exact r10Move_hh w H1 H2 H3 H4 HX HY HB1 HB2 (by omega) a2 (by omega) b2
    ·obtain ⟨e1, e2, e3⟩ := M (a := 4) (b := 8) b1 b2
     rw [e1, e2, e3]
     exact r10Move_hm w H1 H2 H3 H4 HX HY HB1 (by omega) a2 (by omega) (by omega)
  ·obtain ⟨e1, e2, e3⟩ := M (a := 1) (b := 2) a1 a2
   rw [e1, e2, e3]
   by_cases b1 : padd py vy < ly
   ·obtain ⟨e1, e2, e3⟩ := L (hi := hy) (a := 4) (b := 8) b1
    rw [e1, e2, e3]
    exact r10Move_ml w H1 H2 H3 H4 HX HY HB2 (by omega) (by omega) b1
   ·by_cases b2 : hy < padd py vy
    ·obtain ⟨e1, e2, e3⟩ := U (a := 4) (b := 8) b1 b2
     rw [e1, e2, e3]
     exact r10Move_mh w H1 H2 H3 H4 HX HY HB2 (by omega) (by omega) (by omega) b2
    ·obtain ⟨e1, e2, e3⟩ := M (a := 4) (b := 8) b1 b2
     rw [e1, e2, e3]
     exact r10Move_mm w H1 H2 H3 H4 HX HY (by omega) (by omega) (by omega) (by omega)
end
end
end Go.Proofs.YtibeihcpehikoaaGreat
