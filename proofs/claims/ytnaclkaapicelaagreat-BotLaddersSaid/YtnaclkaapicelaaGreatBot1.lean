/-
  What a bot sees: the program's walk.
-/
import Derived.Test.YtnaclkaapicelaaGreatGameR
import Derived.Deep.RegionHeld3
namespace Go.Proofs.YtnaclkaapicelaaGreat
open Go.RowKit
set_option maxRecDepth 100000
def dxZ (S : Nat → Int) (i : Nat) : Int := psub (S (4 + (1 - i) * 10)) (S (4 + i * 10))
def dyZ (S : Nat → Int) (i : Nat) : Int := psub (S (4 + (1 - i) * 10 + 1)) (S (4 + i * 10 + 1))
def faceZ (S : Nat → Int) (i : Nat) : Int := S (4 + i * 10 + 4)
def dotZ (S : Nat → Int) (i : Nat) : Int := padd (fmul (sinZ (faceZ S i + 16384)) (dxZ S i)) (fmul (sinZ (faceZ S i)) (dyZ S i))
def crossZ (S : Nat → Int) (i : Nat) : Int := psub (fmul (sinZ (faceZ S i + 16384)) (dyZ S i)) (fmul (sinZ (faceZ S i)) (dxZ S i))
theorem st_at {w : World} {g : Nat} {S : Nat → Int} (h : Blk w g 33 (stCells S).toArray) : w.cell? ⟨g, 4, none⟩ = some (.int .i32 (S 4)) ∧ w.cell? ⟨g, 5, none⟩ = some (.int .i32 (S 5)) ∧ w.cell? ⟨g, 14, none⟩ = some (.int .i32 (S 14)) ∧ w.cell? ⟨g, 15, none⟩ = some (.int .i32 (S 15)) ∧ w.cell? ⟨g, 8, none⟩ = some (.int .i64 (S 8)) ∧ w.cell? ⟨g, 18, none⟩ = some (.int .i64 (S 18)) :=
  ⟨st_cell h 4 (by decide), st_cell h 5 (by decide), st_cell h 14 (by decide), st_cell h 15 (by decide), st_cell h 8 (by decide), st_cell h 18 (by decide)⟩
set_option maxHeartbeats 1000000 in
theorem way_0 (S : Nat → Int) (hf : FitS S) (w : World) : Calls Tryz.prog 87 #[.agg (stCells S).toArray, .int .i64 0] w fun e w' => e = .returned (.agg #[.int .i32 (dxZ S 0), .int .i32 (dyZ S 0)]) ∧ Below w.heap.size w w' := by
  have f4 := Lib.hid (hf.f32 4 (by decide) rfl)
  have f5 := Lib.hid (hf.f32 5 (by decide) rfl)
  have f14 := Lib.hid (hf.f32 14 (by decide) rfl)
  have f15 := Lib.hid (hf.f32 15 (by decide) rfl)
  clear hf
  go_enter Tryz.func87, Tryz.ntmps87
  go_wp2_with fail
  have hk : Blk (w.alloc (.cells (stCells S).toArray 33)) w.heap.size 33 (stCells S).toArray := Blk.new _ _ _
  obtain ⟨c4, c5, c14, c15, -, -⟩ := st_at (hk.alloc (.cells #[.int .i32 0, .int .i32 0] 25))
  obtain ⟨W, hW⟩ : ∃ W, W = (w.alloc (.cells (stCells S).toArray 33)).alloc (.cells #[.int .i32 0, .int .i32 0] 25) := ⟨_, rfl⟩
  have hr : Blk W (w.heap.size + 1) 25 #[.int .i32 0, .int .i32 0] := by rw [hW]; exact blk_new_at (by simp)
  have hb : Below w.heap.size w W := by rw [hW]; exact bAlloc (bAlloc (Below.refl _ _) _) _
  have hl := hr.lt
  rw [← hW] at c4 c5 c14 c15 ⊢
  have HR := Lib.hid hr
  clear hW hk hr
  have hw1 : IntKind.i64.wrap 1 = 1 := by decide
  have hw0 : IntKind.i64.wrap 0 = 0 := by decide
  go_region_held3 (fun w' => w'.cell? ⟨w.heap.size, 4, none⟩ = some (.int .i32 (S 4)) ∧ w'.cell? ⟨w.heap.size, 5, none⟩ = some (.int .i32 (S 5)) ∧ w'.cell? ⟨w.heap.size, 14, none⟩ = some (.int .i32 (S 14)) ∧ w'.cell? ⟨w.heap.size, 15, none⟩ = some (.int .i32 (S 15))) (first | go_keep | (go_split_ands; refine ⟨?_, ?_, ?_, ?_⟩ <;> (rw [k1.cell (by simp; omega)]; assumption)))
    (first | (go_at_call 107; refine (sSub_any f14.out f15.out f4.out f5.out _).mono ?_; rintro e w1 ⟨rfl, k1⟩; have hr1 := (HR.out.drew.on k1); have r0 := hr1.cell 0; have r1 := hr1.cell 1; have z0 := hr1.frozen 0; have z1 := hr1.frozen 1; have hl1 := hr1.lt; simp only [List.getElem?_toArray, List.getElem?_cons_zero, List.getElem?_cons_succ] at r0 r1))
  all_goals
    go_wp2
    refine bodyPost_ret (v := .agg #[.int .i32 (psub (S 14) (S 4)), .int .i32 (psub (S 15) (S 5))]) (by simp [results, Tryz.results87, go_sem, r0, r1]) rfl ⟨rfl, (by repeat (first | exact Below.refl _ _ | (with_reducible assumption) | apply bAlloc | apply below_drewN | apply Below.drew | (refine bSetG ?_ (by first | omega | (simp; omega)) _ _) | (refine bTrans ?_ (by with_reducible assumption))))⟩
set_option maxHeartbeats 1000000 in
theorem way_1 (S : Nat → Int) (hf : FitS S) (w : World) : Calls Tryz.prog 87 #[.agg (stCells S).toArray, .int .i64 1] w fun e w' => e = .returned (.agg #[.int .i32 (dxZ S 1), .int .i32 (dyZ S 1)]) ∧ Below w.heap.size w w' := by
  have f4 := Lib.hid (hf.f32 4 (by decide) rfl)
  have f5 := Lib.hid (hf.f32 5 (by decide) rfl)
  have f14 := Lib.hid (hf.f32 14 (by decide) rfl)
  have f15 := Lib.hid (hf.f32 15 (by decide) rfl)
  clear hf
  go_enter Tryz.func87, Tryz.ntmps87
  go_wp2_with fail
  have hk : Blk (w.alloc (.cells (stCells S).toArray 33)) w.heap.size 33 (stCells S).toArray := Blk.new _ _ _
  obtain ⟨c4, c5, c14, c15, -, -⟩ := st_at (hk.alloc (.cells #[.int .i32 0, .int .i32 0] 25))
  obtain ⟨W, hW⟩ : ∃ W, W = (w.alloc (.cells (stCells S).toArray 33)).alloc (.cells #[.int .i32 0, .int .i32 0] 25) := ⟨_, rfl⟩
  have hr : Blk W (w.heap.size + 1) 25 #[.int .i32 0, .int .i32 0] := by rw [hW]; exact blk_new_at (by simp)
  have hb : Below w.heap.size w W := by rw [hW]; exact bAlloc (bAlloc (Below.refl _ _) _) _
  have hl := hr.lt
  rw [← hW] at c4 c5 c14 c15 ⊢
  have HR := Lib.hid hr
  clear hW hk hr
  have hw1 : IntKind.i64.wrap 1 = 1 := by decide
  have hw0 : IntKind.i64.wrap 0 = 0 := by decide
  go_region_held3 (fun w' => w'.cell? ⟨w.heap.size, 4, none⟩ = some (.int .i32 (S 4)) ∧ w'.cell? ⟨w.heap.size, 5, none⟩ = some (.int .i32 (S 5)) ∧ w'.cell? ⟨w.heap.size, 14, none⟩ = some (.int .i32 (S 14)) ∧ w'.cell? ⟨w.heap.size, 15, none⟩ = some (.int .i32 (S 15))) (first | go_keep | (go_split_ands; refine ⟨?_, ?_, ?_, ?_⟩ <;> (rw [k1.cell (by simp; omega)]; assumption)))
    (first | (go_at_call 107; refine (sSub_any f4.out f5.out f14.out f15.out _).mono ?_; rintro e w1 ⟨rfl, k1⟩; have hr1 := (HR.out.drew.on k1); have r0 := hr1.cell 0; have r1 := hr1.cell 1; have z0 := hr1.frozen 0; have z1 := hr1.frozen 1; have hl1 := hr1.lt; simp only [List.getElem?_toArray, List.getElem?_cons_zero, List.getElem?_cons_succ] at r0 r1))
  all_goals
    go_wp2
    refine bodyPost_ret (v := .agg #[.int .i32 (psub (S 4) (S 14)), .int .i32 (psub (S 5) (S 15))]) (by simp [results, Tryz.results87, go_sem, r0, r1]) rfl ⟨rfl, (by repeat (first | exact Below.refl _ _ | (with_reducible assumption) | apply bAlloc | apply below_drewN | apply Below.drew | (refine bSetG ?_ (by first | omega | (simp; omega)) _ _) | (refine bTrans ?_ (by with_reducible assumption))))⟩
theorem bwithin_any (n lo hi : Int) (w : World) : Calls Tryz.prog 47 #[.int .i64 n, .int .i64 lo, .int .i64 hi] w fun e w' => e = .returned (.bool (inB n lo hi)) ∧ w = w' := by
  have hz : inB n lo hi = decide (lo ≤ n ∧ n ≤ hi) := rfl
  by_cases h0 : lo ≤ n <;> by_cases h1 : n ≤ hi
  all_goals
    simp only [h0, h1, and_self, and_true, and_false, decide_true, decide_false] at hz
    have HZ := Lib.hid hz
    clear hz
    go_enter Tryz.func47, Tryz.ntmps47
    go_wp2
    go_ret
    exact ⟨ret_bool HZ.out.symm, rfl⟩
set_option maxHeartbeats 2000000 in
theorem sight_0 (S : Nat → Int) (hf : FitS S) (w : World) : Calls Tryz.prog 45 #[.agg (stCells S).toArray, .int .i64 0] w fun e w' => e = .returned (.tuple #[.int .i32 (dotZ S 0), .int .i32 (crossZ S 0)]) ∧ Below w.heap.size w w' := by
  have HW := Lib.hid (fun W => way_0 S hf W)
  have fx := Lib.hid (show F32 (dxZ S 0) from sat_bd _)
  have fy := Lib.hid (show F32 (dyZ S 0) from sat_bd _)
  have HDOT := Lib.hid (show padd (fmul (sinZ (S 8 + 16384)) (dxZ S 0)) (fmul (sinZ (S 8)) (dyZ S 0)) = dotZ S 0 from rfl)
  have HCR := Lib.hid (show psub (fmul (sinZ (S 8 + 16384)) (dyZ S 0)) (fmul (sinZ (S 8)) (dxZ S 0)) = crossZ S 0 from rfl)
  have HIN := Lib.hid (show inB 0 0 1 = true by decide)
  clear hf
  go_enter Tryz.func45, Tryz.ntmps45
  go_wp2_with fail
  obtain ⟨W, hW⟩ : ∃ W, W = w.alloc (.cells (stCells S).toArray 33) := ⟨_, rfl⟩
  have hk : Blk W w.heap.size 33 (stCells S).toArray := by rw [hW]; exact Blk.new _ _ _
  have hb : Below w.heap.size w W := by rw [hW]; exact bAlloc (Below.refl _ _) _
  have hs : W.heap.size = w.heap.size + 1 := by rw [hW]; simp
  rw [← hW]
  have HKA := Lib.hid hk
  clear hW
  refine (bwithin_any _ _ _ _).mono ?_
  rw [HIN.out]
  rintro e w1 ⟨rfl, rfl⟩
  go_wp2_with (first | (refine wpList_load_row rfl 33 (.tmp 2) rfl w.heap.size rfl 33 (stCells S).toArray (0, 0) _ HKA.out Tryz.underlying33 rfl (by kernel_rfl) ?_))
  refine (HW.out _).mono ?_
  rintro e w2 ⟨rfl, k2⟩
  have hb2 : Below w.heap.size w w2 := bTrans hb k2
  have HK2 := Lib.hid (HKA.out.on k2)
  have hl2 := HK2.out.lt
  obtain ⟨-, -, -, -, c8, c18⟩ := st_at HK2.out
  clear k2 hb hk
  go_wp2_with fail
  refine (tCos_any _ _).mono ?_
  rintro e w1 ⟨rfl, rfl⟩
  go_wp2_with fail
  refine (tSin_any _ _).mono ?_
  rintro e w1 ⟨rfl, rfl⟩
  go_wp2_with fail
  have B1 : Blk ((w2.alloc (.cells #[.int .i32 (dxZ S 0), .int .i32 (dyZ S 0)] 25)).alloc (.cells #[.int .i32 (sinZ (S 8 + 16384)), .int .i32 (sinZ (S 8))] 25)) w2.heap.size 25 #[.int .i32 (dxZ S 0), .int .i32 (dyZ S 0)] := (Blk.new _ _ _).alloc _
  have B2 : Blk ((w2.alloc (.cells #[.int .i32 (dxZ S 0), .int .i32 (dyZ S 0)] 25)).alloc (.cells #[.int .i32 (sinZ (S 8 + 16384)), .int .i32 (sinZ (S 8))] 25)) (w2.heap.size + 1) 25 #[.int .i32 (sinZ (S 8 + 16384)), .int .i32 (sinZ (S 8))] := blk_new_at (by simp)
  have hb3 : Below w.heap.size w ((w2.alloc (.cells #[.int .i32 (dxZ S 0), .int .i32 (dyZ S 0)] 25)).alloc (.cells #[.int .i32 (sinZ (S 8 + 16384)), .int .i32 (sinZ (S 8))] 25)) := bAlloc (bAlloc hb2 _) _
  obtain ⟨W3, hW3⟩ : ∃ W3, W3 = ((w2.alloc (.cells #[.int .i32 (dxZ S 0), .int .i32 (dyZ S 0)] 25)).alloc (.cells #[.int .i32 (sinZ (S 8 + 16384)), .int .i32 (sinZ (S 8))] 25)) := ⟨_, rfl⟩
  rw [← hW3] at B1 B2 hb3 ⊢
  clear hW3
  have r := B1
  have ra := r.cell 0
  have rb := r.cell 1
  have rc := r.frozen 0
  have rd := r.frozen 1
  have rl := r.lt
  simp only [List.getElem?_toArray, List.getElem?_cons_zero, List.getElem?_cons_succ] at ra rb
  clear r
  have s := B2
  have sa := s.cell 0
  have sb := s.cell 1
  have sc := s.frozen 0
  have sd := s.frozen 1
  have sl := s.lt
  simp only [List.getElem?_toArray, List.getElem?_cons_zero, List.getElem?_cons_succ] at sa sb
  clear s
  refine wp_region_mild (by kernel_rfl) (by kernel_rfl) ?_
  repeat (go_big_quiet_step ((first | (go_at_call 91; exact mild_same (fMul_p (by exact sinZ_f32 _) (by first | exact fx.out | exact fy.out) _)) | (go_at_call 90; exact mild_same (fAdd_p (fmul_bd _ _) (fmul_bd _ _) _)))))
  refine wpQuiet_nil ?_
  intro w4 hw'
  obtain ⟨⟨wq, k4⟩, hw''⟩ := hw'
  subst hw''
  rw [HDOT.out]
  have B1' := B1.on k4
  have B2' := B2.on k4
  have hb4 := bTrans hb3 k4
  clear ra rb rc rd rl sa sb sc sd sl B1 B2 hb3 k4
  have r := B1'
  have ra := r.cell 0
  have rb := r.cell 1
  have rc := r.frozen 0
  have rd := r.frozen 1
  have rl := r.lt
  simp only [List.getElem?_toArray, List.getElem?_cons_zero, List.getElem?_cons_succ] at ra rb
  clear r
  have s := B2'
  have sa := s.cell 0
  have sb := s.cell 1
  have sc := s.frozen 0
  have sd := s.frozen 1
  have sl := s.lt
  simp only [List.getElem?_toArray, List.getElem?_cons_zero, List.getElem?_cons_succ] at sa sb
  clear s
  go_wp2_with fail
  refine wp_region_mild (by kernel_rfl) (by kernel_rfl) ?_
  repeat (go_big_quiet_step ((first | (go_at_call 91; exact mild_same (fMul_p (by exact sinZ_f32 _) (by first | exact fx.out | exact fy.out) _)) | (go_at_call 92; exact mild_same (fSub_p (fmul_bd _ _) (fmul_bd _ _) _)))))
  refine wpQuiet_nil ?_
  intro w5 hw'
  obtain ⟨⟨wq, k5⟩, hw''⟩ := hw'
  subst hw''
  rw [HCR.out]
  go_wp2
  go_ret2
  exact ⟨rfl, bTrans hb4 k5⟩
set_option maxHeartbeats 2000000 in
theorem sight_1 (S : Nat → Int) (hf : FitS S) (w : World) : Calls Tryz.prog 45 #[.agg (stCells S).toArray, .int .i64 1] w fun e w' => e = .returned (.tuple #[.int .i32 (dotZ S 1), .int .i32 (crossZ S 1)]) ∧ Below w.heap.size w w' := by
  have HW := Lib.hid (fun W => way_1 S hf W)
  have fx := Lib.hid (show F32 (dxZ S 1) from sat_bd _)
  have fy := Lib.hid (show F32 (dyZ S 1) from sat_bd _)
  have HDOT := Lib.hid (show padd (fmul (sinZ (S 18 + 16384)) (dxZ S 1)) (fmul (sinZ (S 18)) (dyZ S 1)) = dotZ S 1 from rfl)
  have HCR := Lib.hid (show psub (fmul (sinZ (S 18 + 16384)) (dyZ S 1)) (fmul (sinZ (S 18)) (dxZ S 1)) = crossZ S 1 from rfl)
  have HIN := Lib.hid (show inB 1 0 1 = true by decide)
  clear hf
  go_enter Tryz.func45, Tryz.ntmps45
  go_wp2_with fail
  obtain ⟨W, hW⟩ : ∃ W, W = w.alloc (.cells (stCells S).toArray 33) := ⟨_, rfl⟩
  have hk : Blk W w.heap.size 33 (stCells S).toArray := by rw [hW]; exact Blk.new _ _ _
  have hb : Below w.heap.size w W := by rw [hW]; exact bAlloc (Below.refl _ _) _
  have hs : W.heap.size = w.heap.size + 1 := by rw [hW]; simp
  rw [← hW]
  have HKA := Lib.hid hk
  clear hW
  refine (bwithin_any _ _ _ _).mono ?_
  rw [HIN.out]
  rintro e w1 ⟨rfl, rfl⟩
  go_wp2_with (first | (refine wpList_load_row rfl 33 (.tmp 2) rfl w.heap.size rfl 33 (stCells S).toArray (0, 0) _ HKA.out Tryz.underlying33 rfl (by kernel_rfl) ?_))
  refine (HW.out _).mono ?_
  rintro e w2 ⟨rfl, k2⟩
  have hb2 : Below w.heap.size w w2 := bTrans hb k2
  have HK2 := Lib.hid (HKA.out.on k2)
  have hl2 := HK2.out.lt
  obtain ⟨-, -, -, -, c8, c18⟩ := st_at HK2.out
  clear k2 hb hk
  go_wp2_with fail
  refine (tCos_any _ _).mono ?_
  rintro e w1 ⟨rfl, rfl⟩
  go_wp2_with fail
  refine (tSin_any _ _).mono ?_
  rintro e w1 ⟨rfl, rfl⟩
  go_wp2_with fail
  have B1 : Blk ((w2.alloc (.cells #[.int .i32 (dxZ S 1), .int .i32 (dyZ S 1)] 25)).alloc (.cells #[.int .i32 (sinZ (S 18 + 16384)), .int .i32 (sinZ (S 18))] 25)) w2.heap.size 25 #[.int .i32 (dxZ S 1), .int .i32 (dyZ S 1)] := (Blk.new _ _ _).alloc _
  have B2 : Blk ((w2.alloc (.cells #[.int .i32 (dxZ S 1), .int .i32 (dyZ S 1)] 25)).alloc (.cells #[.int .i32 (sinZ (S 18 + 16384)), .int .i32 (sinZ (S 18))] 25)) (w2.heap.size + 1) 25 #[.int .i32 (sinZ (S 18 + 16384)), .int .i32 (sinZ (S 18))] := blk_new_at (by simp)
  have hb3 : Below w.heap.size w ((w2.alloc (.cells #[.int .i32 (dxZ S 1), .int .i32 (dyZ S 1)] 25)).alloc (.cells #[.int .i32 (sinZ (S 18 + 16384)), .int .i32 (sinZ (S 18))] 25)) := bAlloc (bAlloc hb2 _) _
  obtain ⟨W3, hW3⟩ : ∃ W3, W3 = ((w2.alloc (.cells #[.int .i32 (dxZ S 1), .int .i32 (dyZ S 1)] 25)).alloc (.cells #[.int .i32 (sinZ (S 18 + 16384)), .int .i32 (sinZ (S 18))] 25)) := ⟨_, rfl⟩
  rw [← hW3] at B1 B2 hb3 ⊢
  clear hW3
  have r := B1
  have ra := r.cell 0
  have rb := r.cell 1
  have rc := r.frozen 0
  have rd := r.frozen 1
  have rl := r.lt
  simp only [List.getElem?_toArray, List.getElem?_cons_zero, List.getElem?_cons_succ] at ra rb
  clear r
  have s := B2
  have sa := s.cell 0
  have sb := s.cell 1
  have sc := s.frozen 0
  have sd := s.frozen 1
  have sl := s.lt
  simp only [List.getElem?_toArray, List.getElem?_cons_zero, List.getElem?_cons_succ] at sa sb
  clear s
  refine wp_region_mild (by kernel_rfl) (by kernel_rfl) ?_
  repeat (go_big_quiet_step ((first | (go_at_call 91; exact mild_same (fMul_p (by exact sinZ_f32 _) (by first | exact fx.out | exact fy.out) _)) | (go_at_call 90; exact mild_same (fAdd_p (fmul_bd _ _) (fmul_bd _ _) _)))))
  refine wpQuiet_nil ?_
  intro w4 hw'
  obtain ⟨⟨wq, k4⟩, hw''⟩ := hw'
  subst hw''
  rw [HDOT.out]
  have B1' := B1.on k4
  have B2' := B2.on k4
  have hb4 := bTrans hb3 k4
  clear ra rb rc rd rl sa sb sc sd sl B1 B2 hb3 k4
  have r := B1'
  have ra := r.cell 0
  have rb := r.cell 1
  have rc := r.frozen 0
  have rd := r.frozen 1
  have rl := r.lt
  simp only [List.getElem?_toArray, List.getElem?_cons_zero, List.getElem?_cons_succ] at ra rb
  clear r
  have s := B2'
  have sa := s.cell 0
  have sb := s.cell 1
  have sc := s.frozen 0
  have sd := s.frozen 1
  have sl := s.lt
  simp only [List.getElem?_toArray, List.getElem?_cons_zero, List.getElem?_cons_succ] at sa sb
  clear s
  go_wp2_with fail
  refine wp_region_mild (by kernel_rfl) (by kernel_rfl) ?_
  repeat (go_big_quiet_step ((first | (go_at_call 91; exact mild_same (fMul_p (by exact sinZ_f32 _) (by first | exact fx.out | exact fy.out) _)) | (go_at_call 92; exact mild_same (fSub_p (fmul_bd _ _) (fmul_bd _ _) _)))))
  refine wpQuiet_nil ?_
  intro w5 hw'
  obtain ⟨⟨wq, k5⟩, hw''⟩ := hw'
  subst hw''
  rw [HCR.out]
  go_wp2
  go_ret2
  exact ⟨rfl, bTrans hb4 k5⟩
end Go.Proofs.YtnaclkaapicelaaGreat
