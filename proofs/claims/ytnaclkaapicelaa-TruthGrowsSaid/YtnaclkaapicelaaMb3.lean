/-
  The walks beneath: Bot1, Bot2, Bot3, PlayP, RgSt, Held.
-/
import Derived.Deep.RegionHeld3
import Derived.Outline
import Derived.RangeFuncNested
import Derived.RangeFuncBound
import Derived.RangeFuncCalls
import Derived.RangeFuncLeaves
import Derived.OwnWalkIn
import Derived.Laws.Tables
import Derived.Test.YtnaclkaapicelaaGameR
import Derived.Test.YtnaclkaapicelaaMb1
import Derived.Test.YtnaclkaapicelaaGameU
import Derived.Test.YtnaclkaapicelaaMb2
import Derived.Test.YtnaclkaapicelaaOwn
namespace Go.Proofs.Ytnaclkaapicelaa
open Go.RowKit
set_option maxRecDepth 100000
def dxZ (S : Nat → Int) (i : Nat) : Int := psub (S (4 + (1 - i) * 10)) (S (4 + i * 10))
def dyZ (S : Nat → Int) (i : Nat) : Int := psub (S (4 + (1 - i) * 10 + 1)) (S (4 + i * 10 + 1))
def faceZ (S : Nat → Int) (i : Nat) : Int := S (4 + i * 10 + 4)
def dotZ (S : Nat → Int) (i : Nat) : Int := padd (fmul (sinZ (faceZ S i + 16384)) (dxZ S i)) (fmul (sinZ (faceZ S i)) (dyZ S i))
def crossZ (S : Nat → Int) (i : Nat) : Int := psub (fmul (sinZ (faceZ S i + 16384)) (dyZ S i)) (fmul (sinZ (faceZ S i)) (dxZ S i))
theorem st_at {w : World} {g : Nat} {S : Nat → Int} (h : Blk w g 33 (stCells S).toArray) : w.cell? ⟨g, 4, none⟩ = some (.int .i32 (S 4)) ∧ w.cell? ⟨g, 5, none⟩ = some (.int .i32 (S 5)) ∧ w.cell? ⟨g, 14, none⟩ = some (.int .i32 (S 14)) ∧ w.cell? ⟨g, 15, none⟩ = some (.int .i32 (S 15)) ∧ w.cell? ⟨g, 8, none⟩ = some (.int .i64 (S 8)) ∧ w.cell? ⟨g, 18, none⟩ = some (.int .i64 (S 18)) :=
  ⟨st_cell h 4 (by decide), st_cell h 5 (by decide), st_cell h 14 (by decide), st_cell h 15 (by decide), st_cell h 8 (by decide), st_cell h 18 (by decide)⟩
set_option maxHeartbeats 1000000 in
theorem way_0 (S : Nat → Int) (hf : FitS S) (w : World) : Calls Try.prog 39 #[.agg (stCells S).toArray, .int .i64 0] w fun e w' => e = .returned (.agg #[.int .i32 (dxZ S 0), .int .i32 (dyZ S 0)]) ∧ Below w.heap.size w w' := by
  have f4 := Lib.hid (hf.f32 4 (by decide) rfl)
  have f5 := Lib.hid (hf.f32 5 (by decide) rfl)
  have f14 := Lib.hid (hf.f32 14 (by decide) rfl)
  have f15 := Lib.hid (hf.f32 15 (by decide) rfl)
  clear hf
  go_enter Try.func39, Try.ntmps39
  go_wp2_with fail
  have hk : Blk (w.alloc (.cells (stCells S).toArray 33)) w.heap.size 33 (stCells S).toArray := Blk.new _ _ _
  obtain ⟨c4, c5, c14, c15, -, -⟩ := st_at (hk.alloc (.cells #[.int .i32 0, .int .i32 0] 25))
  obtain ⟨W, hW⟩ : ∃ W, W = (w.alloc (.cells (stCells S).toArray 33)).alloc (.cells #[.int .i32 0, .int .i32 0] 25) := ⟨_, rfl⟩
  have hr : Blk W (w.heap.size + 1) 25 #[.int .i32 0, .int .i32 0] := by rw [hW]; exact blk_new_at (by simp)
  have hb : Below w.heap.size w W := by rw [hW]; exact bAlloc (bAlloc (Below.refl _ _) _) _
  have hl := hr.lt
  rw [← hW] at c4 c5 c14 c15 ⊢
  have HR := Lib.hid hr
  clear hW hk hr
  have hw1 : IntKind.i64.wrap 1 = 1 := by decide
  have hw0 : IntKind.i64.wrap 0 = 0 := by decide
  go_region_held3 (fun w' => w'.cell? ⟨w.heap.size, 4, none⟩ = some (.int .i32 (S 4)) ∧ w'.cell? ⟨w.heap.size, 5, none⟩ = some (.int .i32 (S 5)) ∧ w'.cell? ⟨w.heap.size, 14, none⟩ = some (.int .i32 (S 14)) ∧ w'.cell? ⟨w.heap.size, 15, none⟩ = some (.int .i32 (S 15))) (first | go_keep | (go_split_ands; refine ⟨?_, ?_, ?_, ?_⟩ <;> (rw [k1.cell (by simp; omega)]; assumption)))
    (first | (go_at_call 84; refine (sSub_any f14.out f15.out f4.out f5.out _).mono ?_; rintro e w1 ⟨rfl, k1⟩; have hr1 := (HR.out.drew.on k1); have r0 := hr1.cell 0; have r1 := hr1.cell 1; have z0 := hr1.frozen 0; have z1 := hr1.frozen 1; have hl1 := hr1.lt; simp only [List.getElem?_toArray, List.getElem?_cons_zero, List.getElem?_cons_succ] at r0 r1))
  all_goals
    go_wp2
    refine bodyPost_ret (v := .agg #[.int .i32 (psub (S 14) (S 4)), .int .i32 (psub (S 15) (S 5))]) (by simp [results, Try.results39, go_sem, r0, r1]) rfl ⟨rfl, (by repeat (first | exact Below.refl _ _ | (with_reducible assumption) | apply bAlloc | apply below_drewN | apply Below.drew | (refine bSetG ?_ (by first | omega | (simp; omega)) _ _) | (refine bTrans ?_ (by with_reducible assumption))))⟩
set_option maxHeartbeats 1000000 in
theorem way_1 (S : Nat → Int) (hf : FitS S) (w : World) : Calls Try.prog 39 #[.agg (stCells S).toArray, .int .i64 1] w fun e w' => e = .returned (.agg #[.int .i32 (dxZ S 1), .int .i32 (dyZ S 1)]) ∧ Below w.heap.size w w' := by
  have f4 := Lib.hid (hf.f32 4 (by decide) rfl)
  have f5 := Lib.hid (hf.f32 5 (by decide) rfl)
  have f14 := Lib.hid (hf.f32 14 (by decide) rfl)
  have f15 := Lib.hid (hf.f32 15 (by decide) rfl)
  clear hf
  go_enter Try.func39, Try.ntmps39
  go_wp2_with fail
  have hk : Blk (w.alloc (.cells (stCells S).toArray 33)) w.heap.size 33 (stCells S).toArray := Blk.new _ _ _
  obtain ⟨c4, c5, c14, c15, -, -⟩ := st_at (hk.alloc (.cells #[.int .i32 0, .int .i32 0] 25))
  obtain ⟨W, hW⟩ : ∃ W, W = (w.alloc (.cells (stCells S).toArray 33)).alloc (.cells #[.int .i32 0, .int .i32 0] 25) := ⟨_, rfl⟩
  have hr : Blk W (w.heap.size + 1) 25 #[.int .i32 0, .int .i32 0] := by rw [hW]; exact blk_new_at (by simp)
  have hb : Below w.heap.size w W := by rw [hW]; exact bAlloc (bAlloc (Below.refl _ _) _) _
  have hl := hr.lt
  rw [← hW] at c4 c5 c14 c15 ⊢
  have HR := Lib.hid hr
  clear hW hk hr
  have hw1 : IntKind.i64.wrap 1 = 1 := by decide
  have hw0 : IntKind.i64.wrap 0 = 0 := by decide
  go_region_held3 (fun w' => w'.cell? ⟨w.heap.size, 4, none⟩ = some (.int .i32 (S 4)) ∧ w'.cell? ⟨w.heap.size, 5, none⟩ = some (.int .i32 (S 5)) ∧ w'.cell? ⟨w.heap.size, 14, none⟩ = some (.int .i32 (S 14)) ∧ w'.cell? ⟨w.heap.size, 15, none⟩ = some (.int .i32 (S 15))) (first | go_keep | (go_split_ands; refine ⟨?_, ?_, ?_, ?_⟩ <;> (rw [k1.cell (by simp; omega)]; assumption)))
    (first | (go_at_call 84; refine (sSub_any f4.out f5.out f14.out f15.out _).mono ?_; rintro e w1 ⟨rfl, k1⟩; have hr1 := (HR.out.drew.on k1); have r0 := hr1.cell 0; have r1 := hr1.cell 1; have z0 := hr1.frozen 0; have z1 := hr1.frozen 1; have hl1 := hr1.lt; simp only [List.getElem?_toArray, List.getElem?_cons_zero, List.getElem?_cons_succ] at r0 r1))
  all_goals
    go_wp2
    refine bodyPost_ret (v := .agg #[.int .i32 (psub (S 4) (S 14)), .int .i32 (psub (S 5) (S 15))]) (by simp [results, Try.results39, go_sem, r0, r1]) rfl ⟨rfl, (by repeat (first | exact Below.refl _ _ | (with_reducible assumption) | apply bAlloc | apply below_drewN | apply Below.drew | (refine bSetG ?_ (by first | omega | (simp; omega)) _ _) | (refine bTrans ?_ (by with_reducible assumption))))⟩
theorem bwithin_any (n lo hi : Int) (w : World) : Calls Try.prog 38 #[.int .i64 n, .int .i64 lo, .int .i64 hi] w fun e w' => e = .returned (.bool (inB n lo hi)) ∧ w = w' := by
  have hz : inB n lo hi = decide (lo ≤ n ∧ n ≤ hi) := rfl
  by_cases h0 : lo ≤ n <;> by_cases h1 : n ≤ hi
  all_goals
    simp only [h0, h1, and_self, and_true, and_false, decide_true, decide_false] at hz
    have HZ := Lib.hid hz
    clear hz
    go_enter Try.func38, Try.ntmps38
    go_wp2
    go_ret
    exact ⟨ret_bool HZ.out.symm, rfl⟩
set_option maxHeartbeats 2000000 in
theorem sight_0 (S : Nat → Int) (hf : FitS S) (w : World) : Calls Try.prog 16 #[.agg (stCells S).toArray, .int .i64 0] w fun e w' => e = .returned (.tuple #[.int .i32 (dotZ S 0), .int .i32 (crossZ S 0)]) ∧ Below w.heap.size w w' := by
  have HW := Lib.hid (fun W => way_0 S hf W)
  have fx := Lib.hid (show F32 (dxZ S 0) from sat_bd _)
  have fy := Lib.hid (show F32 (dyZ S 0) from sat_bd _)
  have HDOT := Lib.hid (show padd (fmul (sinZ (S 8 + 16384)) (dxZ S 0)) (fmul (sinZ (S 8)) (dyZ S 0)) = dotZ S 0 from rfl)
  have HCR := Lib.hid (show psub (fmul (sinZ (S 8 + 16384)) (dyZ S 0)) (fmul (sinZ (S 8)) (dxZ S 0)) = crossZ S 0 from rfl)
  have HIN := Lib.hid (show inB 0 0 1 = true by decide)
  clear hf
  go_enter Try.func16, Try.ntmps16
  go_wp2_with fail
  obtain ⟨W, hW⟩ : ∃ W, W = w.alloc (.cells (stCells S).toArray 33) := ⟨_, rfl⟩
  have hk : Blk W w.heap.size 33 (stCells S).toArray := by rw [hW]; exact Blk.new _ _ _
  have hb : Below w.heap.size w W := by rw [hW]; exact bAlloc (Below.refl _ _) _
  have hs : W.heap.size = w.heap.size + 1 := by rw [hW]; simp
  rw [← hW]
  have HKA := Lib.hid hk
  clear hW
  refine (bwithin_any _ _ _ _).mono ?_
  rw [HIN.out]
  rintro e w1 ⟨rfl, rfl⟩
  go_wp2_with (first | (refine wpList_load_row rfl 33 (.tmp 2) rfl w.heap.size rfl 33 (stCells S).toArray (0, 0) _ HKA.out Try.underlying33 rfl (by kernel_rfl) ?_))
  refine (HW.out _).mono ?_
  rintro e w2 ⟨rfl, k2⟩
  have hb2 : Below w.heap.size w w2 := bTrans hb k2
  have HK2 := Lib.hid (HKA.out.on k2)
  have hl2 := HK2.out.lt
  obtain ⟨-, -, -, -, c8, c18⟩ := st_at HK2.out
  clear k2 hb hk
  go_wp2_with fail
  refine (tCos_any _ _).mono ?_
  rintro e w1 ⟨rfl, rfl⟩
  go_wp2_with fail
  refine (tSin_any _ _).mono ?_
  rintro e w1 ⟨rfl, rfl⟩
  go_wp2_with fail
  have B1 : Blk ((w2.alloc (.cells #[.int .i32 (dxZ S 0), .int .i32 (dyZ S 0)] 25)).alloc (.cells #[.int .i32 (sinZ (S 8 + 16384)), .int .i32 (sinZ (S 8))] 25)) w2.heap.size 25 #[.int .i32 (dxZ S 0), .int .i32 (dyZ S 0)] := (Blk.new _ _ _).alloc _
  have B2 : Blk ((w2.alloc (.cells #[.int .i32 (dxZ S 0), .int .i32 (dyZ S 0)] 25)).alloc (.cells #[.int .i32 (sinZ (S 8 + 16384)), .int .i32 (sinZ (S 8))] 25)) (w2.heap.size + 1) 25 #[.int .i32 (sinZ (S 8 + 16384)), .int .i32 (sinZ (S 8))] := blk_new_at (by simp)
  have hb3 : Below w.heap.size w ((w2.alloc (.cells #[.int .i32 (dxZ S 0), .int .i32 (dyZ S 0)] 25)).alloc (.cells #[.int .i32 (sinZ (S 8 + 16384)), .int .i32 (sinZ (S 8))] 25)) := bAlloc (bAlloc hb2 _) _
  obtain ⟨W3, hW3⟩ : ∃ W3, W3 = ((w2.alloc (.cells #[.int .i32 (dxZ S 0), .int .i32 (dyZ S 0)] 25)).alloc (.cells #[.int .i32 (sinZ (S 8 + 16384)), .int .i32 (sinZ (S 8))] 25)) := ⟨_, rfl⟩
  rw [← hW3] at B1 B2 hb3 ⊢
  clear hW3
  have r := B1
  have ra := r.cell 0
  have rb := r.cell 1
  have rc := r.frozen 0
  have rd := r.frozen 1
  have rl := r.lt
  simp only [List.getElem?_toArray, List.getElem?_cons_zero, List.getElem?_cons_succ] at ra rb
  clear r
  have s := B2
  have sa := s.cell 0
  have sb := s.cell 1
  have sc := s.frozen 0
  have sd := s.frozen 1
  have sl := s.lt
  simp only [List.getElem?_toArray, List.getElem?_cons_zero, List.getElem?_cons_succ] at sa sb
  clear s
  refine wp_region_mild (by kernel_rfl) (by kernel_rfl) ?_
  repeat (go_big_quiet_step ((first | (go_at_call 43; exact mild_same (fMul_p (by exact sinZ_f32 _) (by first | exact fx.out | exact fy.out) _)) | (go_at_call 42; exact mild_same (fAdd_p (fmul_bd _ _) (fmul_bd _ _) _)))))
  refine wpQuiet_nil ?_
  intro w4 hw'
  obtain ⟨⟨wq, k4⟩, hw''⟩ := hw'
  subst hw''
  rw [HDOT.out]
  have B1' := B1.on k4
  have B2' := B2.on k4
  have hb4 := bTrans hb3 k4
  clear ra rb rc rd rl sa sb sc sd sl B1 B2 hb3 k4
  have r := B1'
  have ra := r.cell 0
  have rb := r.cell 1
  have rc := r.frozen 0
  have rd := r.frozen 1
  have rl := r.lt
  simp only [List.getElem?_toArray, List.getElem?_cons_zero, List.getElem?_cons_succ] at ra rb
  clear r
  have s := B2'
  have sa := s.cell 0
  have sb := s.cell 1
  have sc := s.frozen 0
  have sd := s.frozen 1
  have sl := s.lt
  simp only [List.getElem?_toArray, List.getElem?_cons_zero, List.getElem?_cons_succ] at sa sb
  clear s
  go_wp2_with fail
  refine wp_region_mild (by kernel_rfl) (by kernel_rfl) ?_
  repeat (go_big_quiet_step ((first | (go_at_call 43; exact mild_same (fMul_p (by exact sinZ_f32 _) (by first | exact fx.out | exact fy.out) _)) | (go_at_call 44; exact mild_same (fSub_p (fmul_bd _ _) (fmul_bd _ _) _)))))
  refine wpQuiet_nil ?_
  intro w5 hw'
  obtain ⟨⟨wq, k5⟩, hw''⟩ := hw'
  subst hw''
  rw [HCR.out]
  go_wp2
  go_ret2
  exact ⟨rfl, bTrans hb4 k5⟩
set_option maxHeartbeats 2000000 in
theorem sight_1 (S : Nat → Int) (hf : FitS S) (w : World) : Calls Try.prog 16 #[.agg (stCells S).toArray, .int .i64 1] w fun e w' => e = .returned (.tuple #[.int .i32 (dotZ S 1), .int .i32 (crossZ S 1)]) ∧ Below w.heap.size w w' := by
  have HW := Lib.hid (fun W => way_1 S hf W)
  have fx := Lib.hid (show F32 (dxZ S 1) from sat_bd _)
  have fy := Lib.hid (show F32 (dyZ S 1) from sat_bd _)
  have HDOT := Lib.hid (show padd (fmul (sinZ (S 18 + 16384)) (dxZ S 1)) (fmul (sinZ (S 18)) (dyZ S 1)) = dotZ S 1 from rfl)
  have HCR := Lib.hid (show psub (fmul (sinZ (S 18 + 16384)) (dyZ S 1)) (fmul (sinZ (S 18)) (dxZ S 1)) = crossZ S 1 from rfl)
  have HIN := Lib.hid (show inB 1 0 1 = true by decide)
  clear hf
  go_enter Try.func16, Try.ntmps16
  go_wp2_with fail
  obtain ⟨W, hW⟩ : ∃ W, W = w.alloc (.cells (stCells S).toArray 33) := ⟨_, rfl⟩
  have hk : Blk W w.heap.size 33 (stCells S).toArray := by rw [hW]; exact Blk.new _ _ _
  have hb : Below w.heap.size w W := by rw [hW]; exact bAlloc (Below.refl _ _) _
  have hs : W.heap.size = w.heap.size + 1 := by rw [hW]; simp
  rw [← hW]
  have HKA := Lib.hid hk
  clear hW
  refine (bwithin_any _ _ _ _).mono ?_
  rw [HIN.out]
  rintro e w1 ⟨rfl, rfl⟩
  go_wp2_with (first | (refine wpList_load_row rfl 33 (.tmp 2) rfl w.heap.size rfl 33 (stCells S).toArray (0, 0) _ HKA.out Try.underlying33 rfl (by kernel_rfl) ?_))
  refine (HW.out _).mono ?_
  rintro e w2 ⟨rfl, k2⟩
  have hb2 : Below w.heap.size w w2 := bTrans hb k2
  have HK2 := Lib.hid (HKA.out.on k2)
  have hl2 := HK2.out.lt
  obtain ⟨-, -, -, -, c8, c18⟩ := st_at HK2.out
  clear k2 hb hk
  go_wp2_with fail
  refine (tCos_any _ _).mono ?_
  rintro e w1 ⟨rfl, rfl⟩
  go_wp2_with fail
  refine (tSin_any _ _).mono ?_
  rintro e w1 ⟨rfl, rfl⟩
  go_wp2_with fail
  have B1 : Blk ((w2.alloc (.cells #[.int .i32 (dxZ S 1), .int .i32 (dyZ S 1)] 25)).alloc (.cells #[.int .i32 (sinZ (S 18 + 16384)), .int .i32 (sinZ (S 18))] 25)) w2.heap.size 25 #[.int .i32 (dxZ S 1), .int .i32 (dyZ S 1)] := (Blk.new _ _ _).alloc _
  have B2 : Blk ((w2.alloc (.cells #[.int .i32 (dxZ S 1), .int .i32 (dyZ S 1)] 25)).alloc (.cells #[.int .i32 (sinZ (S 18 + 16384)), .int .i32 (sinZ (S 18))] 25)) (w2.heap.size + 1) 25 #[.int .i32 (sinZ (S 18 + 16384)), .int .i32 (sinZ (S 18))] := blk_new_at (by simp)
  have hb3 : Below w.heap.size w ((w2.alloc (.cells #[.int .i32 (dxZ S 1), .int .i32 (dyZ S 1)] 25)).alloc (.cells #[.int .i32 (sinZ (S 18 + 16384)), .int .i32 (sinZ (S 18))] 25)) := bAlloc (bAlloc hb2 _) _
  obtain ⟨W3, hW3⟩ : ∃ W3, W3 = ((w2.alloc (.cells #[.int .i32 (dxZ S 1), .int .i32 (dyZ S 1)] 25)).alloc (.cells #[.int .i32 (sinZ (S 18 + 16384)), .int .i32 (sinZ (S 18))] 25)) := ⟨_, rfl⟩
  rw [← hW3] at B1 B2 hb3 ⊢
  clear hW3
  have r := B1
  have ra := r.cell 0
  have rb := r.cell 1
  have rc := r.frozen 0
  have rd := r.frozen 1
  have rl := r.lt
  simp only [List.getElem?_toArray, List.getElem?_cons_zero, List.getElem?_cons_succ] at ra rb
  clear r
  have s := B2
  have sa := s.cell 0
  have sb := s.cell 1
  have sc := s.frozen 0
  have sd := s.frozen 1
  have sl := s.lt
  simp only [List.getElem?_toArray, List.getElem?_cons_zero, List.getElem?_cons_succ] at sa sb
  clear s
  refine wp_region_mild (by kernel_rfl) (by kernel_rfl) ?_
  repeat (go_big_quiet_step ((first | (go_at_call 43; exact mild_same (fMul_p (by exact sinZ_f32 _) (by first | exact fx.out | exact fy.out) _)) | (go_at_call 42; exact mild_same (fAdd_p (fmul_bd _ _) (fmul_bd _ _) _)))))
  refine wpQuiet_nil ?_
  intro w4 hw'
  obtain ⟨⟨wq, k4⟩, hw''⟩ := hw'
  subst hw''
  rw [HDOT.out]
  have B1' := B1.on k4
  have B2' := B2.on k4
  have hb4 := bTrans hb3 k4
  clear ra rb rc rd rl sa sb sc sd sl B1 B2 hb3 k4
  have r := B1'
  have ra := r.cell 0
  have rb := r.cell 1
  have rc := r.frozen 0
  have rd := r.frozen 1
  have rl := r.lt
  simp only [List.getElem?_toArray, List.getElem?_cons_zero, List.getElem?_cons_succ] at ra rb
  clear r
  have s := B2'
  have sa := s.cell 0
  have sb := s.cell 1
  have sc := s.frozen 0
  have sd := s.frozen 1
  have sl := s.lt
  simp only [List.getElem?_toArray, List.getElem?_cons_zero, List.getElem?_cons_succ] at sa sb
  clear s
  go_wp2_with fail
  refine wp_region_mild (by kernel_rfl) (by kernel_rfl) ?_
  repeat (go_big_quiet_step ((first | (go_at_call 43; exact mild_same (fMul_p (by exact sinZ_f32 _) (by first | exact fx.out | exact fy.out) _)) | (go_at_call 44; exact mild_same (fSub_p (fmul_bd _ _) (fmul_bd _ _) _)))))
  refine wpQuiet_nil ?_
  intro w5 hw'
  obtain ⟨⟨wq, k5⟩, hw''⟩ := hw'
  subst hw''
  rw [HCR.out]
  go_wp2
  go_ret2
  exact ⟨rfl, bTrans hb4 k5⟩
end Go.Proofs.Ytnaclkaapicelaa

namespace Go.Proofs.Ytnaclkaapicelaa
open Go.RowKit
set_option maxRecDepth 100000
def vwCells (S : Nat → Int) (i : Nat) (d c : Int) : List Value := stCells S ++ (plCells (getP S i) ++ [.int .i64 i, .int .i32 d, .int .i32 c])
def VwBlk (w : World) (g : Nat) (S : Nat → Int) (i : Nat) (d c : Int) : Prop := Blk w g 100 (vwCells S i d c).toArray
section
variable {w w' : World} {g : Nat} {S : Nat → Int} {i : Nat} {d c : Int}
theorem VwBlk.st (h : VwBlk w g S i d c) (j : Nat) (hj : j < 60) : w.cell? ⟨g, j, none⟩ = some (.int (kdS j) (S j)) := by
  rw [Blk.cell h j, List.getElem?_toArray, vwCells, List.getElem?_append_left (by rw [stCells_length]; exact hj)]
  simp [stCells, rowOf, hj]
theorem VwBlk.rest (h : VwBlk w g S i d c) (j : Nat) : w.cell? ⟨g, 60 + j, none⟩ = (plCells (getP S i) ++ [.int .i64 i, .int .i32 d, .int .i32 c])[j]? := by
  rw [Blk.cell h (60 + j), List.getElem?_toArray, vwCells, List.getElem?_append_right (by rw [stCells_length]; omega), stCells_length]
  congr 1; omega
theorem VwBlk.cool (h : VwBlk w g S i d c) : w.cell? ⟨g, 66, none⟩ = some (.int .i64 (getP S i 6)) := h.rest 6
theorem VwBlk.wind (h : VwBlk w g S i d c) : w.cell? ⟨g, 67, none⟩ = some (.int .i64 (getP S i 7)) := h.rest 7
theorem VwBlk.who (h : VwBlk w g S i d c) : w.cell? ⟨g, 70, none⟩ = some (.int .i64 i) := h.rest 10
theorem VwBlk.dot (h : VwBlk w g S i d c) : w.cell? ⟨g, 71, none⟩ = some (.int .i32 d) := h.rest 11
theorem VwBlk.cross (h : VwBlk w g S i d c) : w.cell? ⟨g, 72, none⟩ = some (.int .i32 c) := h.rest 12
theorem VwBlk.range (h : VwBlk w g S i d c) : w.rangeAt g 0 (stCells S) := fun j v hv => by
  have hj : j < 60 := by have := (List.getElem?_eq_some_iff.1 hv).1; rwa [stCells_length] at this
  rw [Nat.zero_add, h.st j hj, ← hv]
  simp [stCells, rowOf, hj]
end
def aimsB (d c : Int) : Bool := decide (0 < d) && decide (max c (sat (-c)) ≤ d / 16)
def turnZ (d c : Int) : Int := if aimsB d c then 0 else if c < 0 then 1 else if 0 < c ∨ d ≤ 0 then 2 else 0
def driveZ (S : Nat → Int) (i : Nat) : Int := if 1310720 < norm (dxZ S i) (dyZ S i) then 4 else 8
def fireZ (S : Nat → Int) (i : Nat) (d c : Int) : Int := if aimsB d c && decide (getP S i 6 ≤ 1) then 16 else 0
def dashZ (S : Nat → Int) (i : Nat) : Int := if decide (getP S i 7 ≤ 1) && (throwZ (seedZ (S 1) (S 0)) 8 == i) then 32 else 0
section
variable (S : Nat → Int) (i : Nat) (d c : Int) (w : World)
set_option maxHeartbeats 2000000 in
theorem aims_any (hd : F32 d) (hc : F32 c) : Calls Try.prog 88 #[.agg (vwCells S i d c).toArray] w fun e w' => e = .returned (.bool (aimsB d c)) ∧ Below w.heap.size w w' := by
  have HC := Lib.hid hc
  obtain ⟨d1, d2⟩ := hd
  by_cases h0 : 0 < d
  · have HE := Lib.hid (show aimsB d c = decide (max c (sat (-c)) ≤ d / 16) by unfold aimsB; rw [decide_eq_true h0]; rfl)
    clear hc
    obtain ⟨m, hm⟩ : ∃ m, max c (sat (-c)) = m := ⟨_, rfl⟩
    rw [hm] at HE
    have HA := Lib.hid (fun W => fAbs_any HC.out W)
    rw [hm] at HA
    clear hm
    go_enter Try.func88, Try.ntmps88
    go_wp2_with fail
    obtain ⟨W, hW⟩ : ∃ W, W = w.alloc (.cells (vwCells S i d c).toArray 100) := ⟨_, rfl⟩
    have hk : VwBlk W w.heap.size S i d c := by rw [hW]; exact Blk.new _ _ _
    have hb : Below w.heap.size w W := by rw [hW]; exact bAlloc (Below.refl _ _) _
    have hl := Blk.lt hk
    have HK := Lib.hid hk
    have c66 := hk.cool
    have c67 := hk.wind
    have c70 := hk.who
    have c71 := hk.dot
    have c72 := hk.cross
    rw [← hW]
    clear hW hk
    refine wp_region_mild (by kernel_rfl) (by kernel_rfl) ?_
    repeat (go_big_quiet_step ((go_at_call 121; exact mild_same (HA.out _))))
    refine wpQuiet_nil ?_
    intro w1 hw'
    obtain ⟨⟨wq, k1⟩, hw''⟩ := hw'
    subst hw''
    go_wp2
    go_ret
    exact ⟨ret_bool HE.out.symm, bTrans hb k1⟩
  · have HE := Lib.hid (show aimsB d c = false by unfold aimsB; rw [decide_eq_false h0]; rfl)
    have hd0 : decide (0 < d) = false := decide_eq_false h0
    clear hc
    go_enter Try.func88, Try.ntmps88
    go_wp2_with fail
    obtain ⟨W, hW⟩ : ∃ W, W = w.alloc (.cells (vwCells S i d c).toArray 100) := ⟨_, rfl⟩
    have hk : VwBlk W w.heap.size S i d c := by rw [hW]; exact Blk.new _ _ _
    have hb : Below w.heap.size w W := by rw [hW]; exact bAlloc (Below.refl _ _) _
    have hl := Blk.lt hk
    have HK := Lib.hid hk
    have c66 := hk.cool
    have c67 := hk.wind
    have c70 := hk.who
    have c71 := hk.dot
    have c72 := hk.cross
    rw [← hW]
    clear hW hk
    refine wp_region_mild (by kernel_rfl) (by kernel_rfl) ?_
    repeat (go_big_quiet_step ((fail)))
    refine wpQuiet_nil ?_
    intro w1 hw'
    obtain ⟨⟨wq, k1⟩, hw''⟩ := hw'
    subst hw''
    go_wp2
    go_ret
    exact ⟨ret_bool HE.out.symm, bTrans hb k1⟩
set_option maxHeartbeats 2000000 in
theorem turn_any (hd : F32 d) (hc : F32 c) : Calls Try.prog 50 #[.agg (vwCells S i d c).toArray] w fun e w' => e = .returned (.int .u8 (turnZ d c)) ∧ Below w.heap.size w w' := by
  have HA := Lib.hid (fun W => aims_any S i d c W hd hc)
  clear hd hc
  obtain ⟨b, hb'⟩ : ∃ b, aimsB d c = b := ⟨_, rfl⟩
  have HT := Lib.hid (show turnZ d c = if b then 0 else if c < 0 then 1 else if 0 < c ∨ d ≤ 0 then 2 else 0 by unfold turnZ; rw [hb'])
  rw [hb'] at HA
  clear hb'
  have HK := Lib.hid (show VwBlk (w.alloc (.cells (vwCells S i d c).toArray 100)) w.heap.size S i d c from Blk.new _ _ _)
  have hb : Below w.heap.size w (w.alloc (.cells (vwCells S i d c).toArray 100)) := bAlloc (Below.refl _ _) _
  go_enter Try.func50, Try.ntmps50
  go_wp2_with (first | (refine wpList_load_row rfl 100 (.tmp 1) rfl w.heap.size rfl 100 (vwCells S i d c).toArray (0, 0) _ HK.out Try.underlying100 rfl (by kernel_rfl) ?_))
  obtain ⟨W, hW⟩ : ∃ W, W = w.alloc (.cells (vwCells S i d c).toArray 100) := ⟨_, rfl⟩
  try rw [← hW]
  try rw [← hW] at HK hb
  clear hW
  refine (HA.out _).mono ?_
  rintro e w1 ⟨rfl, k1⟩
  have HK1 := Lib.hid (Blk.on HK.out k1)
  have e71 : w1.cell? ⟨w.heap.size, 71, none⟩ = some (.int .i32 d) := VwBlk.dot HK1.out
  have e72 : w1.cell? ⟨w.heap.size, 72, none⟩ = some (.int .i32 c) := VwBlk.cross HK1.out
  have HB := Lib.hid (bTrans hb k1)
  clear k1 hb
  cases b
  · by_cases h1 : c < 0
    · have HF := Lib.hid (show turnZ d c = 1 by rw [HT.out, if_neg (by decide), if_pos h1])
      go_wp2
      go_ret
      exact ⟨ret_int HF.out.symm, HB.out⟩
    · by_cases h2 : 0 < c
      · have HF := Lib.hid (show turnZ d c = 2 by rw [HT.out, if_neg (by decide), if_neg h1, if_pos (.inl h2)])
        go_wp2
        go_ret
        exact ⟨ret_int HF.out.symm, HB.out⟩
      · by_cases h3 : d ≤ 0
        · have HF := Lib.hid (show turnZ d c = 2 by rw [HT.out, if_neg (by decide), if_neg h1, if_pos (.inr h3)])
          go_wp2
          go_ret
          exact ⟨ret_int HF.out.symm, HB.out⟩
        · have HF := Lib.hid (show turnZ d c = 0 by rw [HT.out, if_neg (by decide), if_neg h1, if_neg (by omega)])
          go_wp2
          go_ret
          exact ⟨ret_int HF.out.symm, HB.out⟩
  · have HF := Lib.hid (show turnZ d c = 0 by rw [HT.out, if_pos rfl])
    go_wp2
    go_ret
    exact ⟨ret_int HF.out.symm, HB.out⟩
set_option maxHeartbeats 2000000 in
theorem fire_any (hd : F32 d) (hc : F32 c) : Calls Try.prog 52 #[.agg (vwCells S i d c).toArray] w fun e w' => e = .returned (.int .u8 (fireZ S i d c)) ∧ Below w.heap.size w w' := by
  have HA := Lib.hid (fun W => aims_any S i d c W hd hc)
  clear hd hc
  obtain ⟨b, hb'⟩ : ∃ b, aimsB d c = b := ⟨_, rfl⟩
  obtain ⟨q, hq⟩ : ∃ q, getP S i 6 = q := ⟨_, rfl⟩
  have HT := Lib.hid (show fireZ S i d c = if b && decide (q ≤ 1) then 16 else 0 by unfold fireZ; rw [hb', hq])
  rw [hb'] at HA
  have HQ := Lib.hid hq
  clear hb' hq
  have HK := Lib.hid (show VwBlk (w.alloc (.cells (vwCells S i d c).toArray 100)) w.heap.size S i d c from Blk.new _ _ _)
  have hb : Below w.heap.size w (w.alloc (.cells (vwCells S i d c).toArray 100)) := bAlloc (Below.refl _ _) _
  go_enter Try.func52, Try.ntmps52
  go_wp2_with (first | (refine wpList_load_row rfl 100 (.tmp 1) rfl w.heap.size rfl 100 (vwCells S i d c).toArray (0, 0) _ HK.out Try.underlying100 rfl (by kernel_rfl) ?_))
  obtain ⟨W, hW⟩ : ∃ W, W = w.alloc (.cells (vwCells S i d c).toArray 100) := ⟨_, rfl⟩
  try rw [← hW]
  try rw [← hW] at HK hb
  clear hW
  refine (HA.out _).mono ?_
  rintro e w1 ⟨rfl, k1⟩
  have HK1 := Lib.hid (Blk.on HK.out k1)
  have e66 : w1.cell? ⟨w.heap.size, 66, none⟩ = some (.int .i64 (getP S i 6)) := VwBlk.cool HK1.out
  rw [HQ.out] at e66
  have HB := Lib.hid (bTrans hb k1)
  clear k1 hb
  cases b
  · have HF := Lib.hid (show fireZ S i d c = 0 by rw [HT.out]; rfl)
    go_wp2
    go_ret
    exact ⟨ret_int HF.out.symm, HB.out⟩
  · by_cases h1 : q ≤ 1
    · have HF := Lib.hid (show fireZ S i d c = 16 by rw [HT.out, decide_eq_true h1]; rfl)
      go_wp2
      go_ret
      exact ⟨ret_int HF.out.symm, HB.out⟩
    · have HF := Lib.hid (show fireZ S i d c = 0 by rw [HT.out, decide_eq_false h1]; rfl)
      go_wp2
      go_ret
      exact ⟨ret_int HF.out.symm, HB.out⟩
set_option maxHeartbeats 2000000 in
theorem drive_any (hi : i < 2) (hf : FitS S) : Calls Try.prog 51 #[.agg (vwCells S i d c).toArray] w fun e w' => e = .returned (.int .u8 (driveZ S i)) ∧ Below w.heap.size w w' := by
  have HWY : Hid (∀ W, Calls Try.prog 39 #[.agg (stCells S).toArray, .int .i64 i] W fun e w' => e = .returned (.agg #[.int .i32 (dxZ S i), .int .i32 (dyZ S i)]) ∧ Below W.heap.size W w') := by
    have : i = 0 ∨ i = 1 := by omega
    rcases this with rfl | rfl
    · exact fun W => way_0 S hf W
    · exact fun W => way_1 S hf W
  have HL := Lib.hid (fun W => tLength_any (x := dxZ S i) (y := dyZ S i) (sat_bd _) (sat_bd _) W)
  clear hf
  obtain ⟨q, hq⟩ : ∃ q, norm (dxZ S i) (dyZ S i) = q := ⟨_, rfl⟩
  have HT := Lib.hid (show driveZ S i = if 1310720 < q then 4 else 8 by unfold driveZ; rw [hq])
  rw [hq] at HL
  clear hq
  have HK := Lib.hid (show VwBlk (w.alloc (.cells (vwCells S i d c).toArray 100)) w.heap.size S i d c from Blk.new _ _ _)
  have hb : Below w.heap.size w (w.alloc (.cells (vwCells S i d c).toArray 100)) := bAlloc (Below.refl _ _) _
  have c70 : (w.alloc (.cells (vwCells S i d c).toArray 100)).cell? ⟨w.heap.size, 70, none⟩ = some (.int .i64 i) := HK.out.who
  go_enter Try.func51, Try.ntmps51
  go_wp2_with (first | (refine wpList_load_mid rfl 33 (.tmp 4) rfl w.heap.size 0 rfl (stCells S) _ HK.out.range Try.underlying33 rfl (by kernel_rfl) ?_))
  obtain ⟨W, hW⟩ : ∃ W, W = w.alloc (.cells (vwCells S i d c).toArray 100) := ⟨_, rfl⟩
  try rw [← hW]
  try rw [← hW] at HK hb
  clear hW
  refine (HWY.out _).mono ?_
  rintro e w1 ⟨rfl, k1⟩
  have HB := Lib.hid (bTrans hb k1)
  clear k1 hb
  go_wp2_with fail
  refine (HL.out _).mono ?_
  rintro e w2 ⟨rfl, rfl⟩
  by_cases h1 : 1310720 < q
  · have HF := Lib.hid (show driveZ S i = 4 by rw [HT.out, if_pos h1])
    go_wp2
    go_ret
    exact ⟨ret_int HF.out.symm, bAlloc HB.out _⟩
  · have HF := Lib.hid (show driveZ S i = 8 by rw [HT.out, if_neg h1])
    go_wp2
    go_ret
    exact ⟨ret_int HF.out.symm, bAlloc HB.out _⟩
set_option maxHeartbeats 2000000 in
theorem dash_any (hf : FitS S) (h0 : 0 ≤ S 0 ∧ S 0 ≤ 1073741824) : Calls Try.prog 53 #[.agg (vwCells S i d c).toArray] w fun e w' => e = .returned (.int .u8 (dashZ S i)) ∧ Below w.heap.size w w' := by
  have u1 := hf.u32
  have HSD := Lib.hid (fun W => dSeed_any (S 1) (S 0) W u1 ⟨h0.1, by omega⟩)
  have HTH := Lib.hid (fun W => dThrow_any (seedZ (S 1) (S 0)) 8 W (seedZ_bd _ _) (by decide) (by decide))
  obtain ⟨n, hn⟩ : ∃ n, throwZ (seedZ (S 1) (S 0)) 8 = n := ⟨_, rfl⟩
  obtain ⟨q, hq⟩ : ∃ q, getP S i 7 = q := ⟨_, rfl⟩
  have HT := Lib.hid (show dashZ S i = if decide (q ≤ 1) && (n == i) then 32 else 0 by unfold dashZ; rw [hn, hq])
  rw [hn] at HTH
  have HQ := Lib.hid hq
  clear hn hq hf u1
  obtain ⟨ha, hb0⟩ := h0
  have HK := Lib.hid (show VwBlk (w.alloc (.cells (vwCells S i d c).toArray 100)) w.heap.size S i d c from Blk.new _ _ _)
  have hb : Below w.heap.size w (w.alloc (.cells (vwCells S i d c).toArray 100)) := bAlloc (Below.refl _ _) _
  have c0 : (w.alloc (.cells (vwCells S i d c).toArray 100)).cell? ⟨w.heap.size, 0, none⟩ = some (.int .i64 (S 0)) := HK.out.st 0 (by decide)
  have c1 : (w.alloc (.cells (vwCells S i d c).toArray 100)).cell? ⟨w.heap.size, 1, none⟩ = some (.int .u32 (S 1)) := HK.out.st 1 (by decide)
  go_enter Try.func53, Try.ntmps53
  go_wp2_with fail
  obtain ⟨W, hW⟩ : ∃ W, W = w.alloc (.cells (vwCells S i d c).toArray 100) := ⟨_, rfl⟩
  try rw [← hW]
  try rw [← hW] at HK hb
  clear hW
  refine (HSD.out _).mono ?_
  rintro e w1 ⟨rfl, k1⟩
  go_wp2_with fail
  refine (HTH.out _).mono ?_
  rintro e w2 ⟨rfl, k2⟩
  have HK2 := Lib.hid (Blk.on (Blk.on HK.out k1) k2)
  have e67 : w2.cell? ⟨w.heap.size, 67, none⟩ = some (.int .i64 (getP S i 7)) := VwBlk.wind HK2.out
  have e70 : w2.cell? ⟨w.heap.size, 70, none⟩ = some (.int .i64 i) := VwBlk.who HK2.out
  rw [HQ.out] at e67
  have HB := Lib.hid (bTrans (bTrans hb k1) k2)
  clear k1 k2 hb c0 c1
  by_cases h1 : q ≤ 1
  · cases h2 : (n == (i : Int))
    · have HF := Lib.hid (show dashZ S i = 0 by rw [HT.out, h2, Bool.and_false]; rfl)
      go_wp2
      go_ret
      exact ⟨ret_int HF.out.symm, HB.out⟩
    · have HF := Lib.hid (show dashZ S i = 32 by rw [HT.out, h2, decide_eq_true h1]; rfl)
      go_wp2
      go_ret
      exact ⟨ret_int HF.out.symm, HB.out⟩
  · have HF := Lib.hid (show dashZ S i = 0 by rw [HT.out, decide_eq_false h1]; rfl)
    go_wp2
    go_ret
    exact ⟨ret_int HF.out.symm, HB.out⟩
end
end Go.Proofs.Ytnaclkaapicelaa

namespace Go.Proofs.Ytnaclkaapicelaa
open Go.RowKit
set_option maxRecDepth 100000
def pressV (S : Nat → Int) (i k : Nat) : Int := turnZ (dotZ S i) (crossZ S i) + ((if 1 ≤ k then driveZ S i else 0) + ((if 2 ≤ k then fireZ S i (dotZ S i) (crossZ S i) else 0) + (if 3 ≤ k then dashZ S i else 0)))
def downB (S : Nat → Int) (i : Nat) : Bool := decide (0 < S (4 + i * 10 + 8))
/-- What is pressed as far as part k. -/
def pressTo (S : Nat → Int) (i k : Nat) : Int :=
  (if 1 ≤ k then turnZ (dotZ S i) (crossZ S i) else 0) + (if 2 ≤ k then driveZ S i else 0) + (if 3 ≤ k then fireZ S i (dotZ S i) (crossZ S i) else 0) + (if 4 ≤ k then dashZ S i else 0)
theorem pressTo_0 (S : Nat → Int) (i : Nat) : pressTo S i 0 = 0 := by simp [pressTo]
theorem pressTo_1 (S : Nat → Int) (i : Nat) : pressTo S i 1 = turnZ (dotZ S i) (crossZ S i) := by simp [pressTo]
theorem pressTo_2 (S : Nat → Int) (i : Nat) : pressTo S i 2 = turnZ (dotZ S i) (crossZ S i) + driveZ S i := by simp [pressTo]
theorem pressTo_3 (S : Nat → Int) (i : Nat) : pressTo S i 3 = turnZ (dotZ S i) (crossZ S i) + driveZ S i + fireZ S i (dotZ S i) (crossZ S i) := by simp [pressTo]
theorem pressTo_4 (S : Nat → Int) (i : Nat) : pressTo S i 4 = turnZ (dotZ S i) (crossZ S i) + driveZ S i + fireZ S i (dotZ S i) (crossZ S i) + dashZ S i := by simp [pressTo]
theorem turnZ_val (d c : Int) : turnZ d c = 0 ∨ turnZ d c = 1 ∨ turnZ d c = 2 := by
  unfold turnZ
  split
  · exact .inl rfl
  · split
    · exact .inr (.inl rfl)
    · split
      · exact .inr (.inr rfl)
      · exact .inl rfl
theorem driveZ_val (S : Nat → Int) (i : Nat) : driveZ S i = 4 ∨ driveZ S i = 8 := by
  unfold driveZ
  split
  · exact .inl rfl
  · exact .inr rfl
theorem fireZ_val (S : Nat → Int) (i : Nat) (d c : Int) : fireZ S i d c = 0 ∨ fireZ S i d c = 16 := by
  unfold fireZ
  split
  · exact .inr rfl
  · exact .inl rfl
theorem dashZ_val (S : Nat → Int) (i : Nat) : dashZ S i = 0 ∨ dashZ S i = 32 := by
  unfold dashZ
  split
  · exact .inr rfl
  · exact .inl rfl
theorem or_0 (S : Nat → Int) (i : Nat) : bits .or .u8 (pressTo S i 0) (turnZ (dotZ S i) (crossZ S i)) = pressTo S i 1 := by
  rw [pressTo_0, pressTo_1]
  rcases turnZ_val (dotZ S i) (crossZ S i) with h | h | h <;> rw [h] <;> decide +kernel
theorem or_1 (S : Nat → Int) (i : Nat) : bits .or .u8 (pressTo S i 1) (driveZ S i) = pressTo S i 2 := by
  rw [pressTo_1, pressTo_2]
  rcases turnZ_val (dotZ S i) (crossZ S i) with h | h | h <;> rcases driveZ_val S i with h1 | h1 <;> rw [h, h1] <;> decide +kernel
theorem or_2 (S : Nat → Int) (i : Nat) : bits .or .u8 (pressTo S i 2) (fireZ S i (dotZ S i) (crossZ S i)) = pressTo S i 3 := by
  rw [pressTo_2, pressTo_3]
  rcases turnZ_val (dotZ S i) (crossZ S i) with h | h | h <;> rcases driveZ_val S i with h1 | h1 <;> rcases fireZ_val S i (dotZ S i) (crossZ S i) with h2 | h2 <;> rw [h, h1, h2] <;> decide +kernel
theorem or_3 (S : Nat → Int) (i : Nat) : bits .or .u8 (pressTo S i 3) (dashZ S i) = pressTo S i 4 := by
  rw [pressTo_3, pressTo_4]
  rcases turnZ_val (dotZ S i) (crossZ S i) with h | h | h <;> rcases driveZ_val S i with h1 | h1 <;> rcases fireZ_val S i (dotZ S i) (crossZ S i) with h2 | h2 <;> rcases dashZ_val S i with h3 | h3 <;> rw [h, h1, h2, h3] <;> decide +kernel
set_option maxHeartbeats 4000000 in
theorem pressTo_bd (S : Nat → Int) (i k : Nat) : 0 ≤ pressTo S i k ∧ pressTo S i k ≤ 63 := by
  have h := turnZ_val (dotZ S i) (crossZ S i)
  have h1 := driveZ_val S i
  have h2 := fireZ_val S i (dotZ S i) (crossZ S i)
  have h3 := dashZ_val S i
  unfold pressTo
  split <;> split <;> split <;> split <;> omega
theorem bw (n lo hi : Int) (w : World) (b : Bool) (h : inB n lo hi = b) : Calls Try.prog 38 #[.int .i64 n, .int .i64 lo, .int .i64 hi] w fun e w' => e = .returned (.bool b) ∧ w = w' :=
  (bwithin_any n lo hi w).mono fun _ _ ⟨h1, h2⟩ => ⟨by rw [h1, h], h2⟩
def pressZ (S : Nat → Int) (who skill : Int) : Int :=
  if inB who 0 1 && (inB skill 0 3 && (rightS S && !(downB S who.toNat))) then pressTo S who.toNat (skill.toNat + 1) else 0
section
variable (S : Nat → Int) (who skill : Int) (w : World)
set_option maxHeartbeats 4000000 in
/-- Nobody presses. -/
theorem press_no (h : (inB who 0 1 && (inB skill 0 3 && rightS S)) = false) : Calls Try.prog 18 #[.agg (stCells S).toArray, .int .i64 who, .int .i64 skill] w fun e w' => e = .returned (.int .u8 0) ∧ Below w.heap.size w w' := by
  have HK := Lib.hid (show Blk (w.alloc (.cells (stCells S).toArray 33)) w.heap.size 33 (stCells S).toArray from Blk.new _ _ _)
  have hb : Below w.heap.size w (w.alloc (.cells (stCells S).toArray 33)) := bAlloc (Below.refl _ _) _
  have HR := Lib.hid (fun W => gRight_any S W)
  cases h0 : inB who 0 1
  · have H0 := Lib.hid h0
    clear h0 h
    go_enter Try.func18, Try.ntmps18
    go_wp2_with (first | (go_at_call 38; refine (bw _ _ _ _ _ H0.out).mono ?_; rintro e w1 ⟨rfl, rfl⟩))
    go_ret
    exact ⟨rfl, hb⟩
  · cases h1 : inB skill 0 3
    · have H0 := Lib.hid h0
      have H1 := Lib.hid h1
      clear h0 h1 h
      go_enter Try.func18, Try.ntmps18
      go_wp2_with (first | (go_at_call 38; first | ((with_reducible refine (bw who 0 1 _ _ H0.out).mono ?_); rintro e w1 ⟨rfl, rfl⟩) | ((with_reducible refine (bw skill 0 3 _ _ H1.out).mono ?_); rintro e w1 ⟨rfl, rfl⟩)))
      go_ret
      exact ⟨rfl, hb⟩
    · have hr : rightS S = false := by simpa [h0, h1] using h
      have H0 := Lib.hid h0
      have H1 := Lib.hid h1
      rw [hr] at HR
      clear h0 h1 h hr
      go_enter Try.func18, Try.ntmps18
      go_wp2_with (first | (refine wpList_load_midG rfl 33 (.tmp 3) rfl w.heap.size 0 rfl (stCells S) _ (Blk.range HK.out) Try.underlying33 rfl (by kernel_rfl) ?_) | (go_at_call 10; refine (HR.out _).mono ?_; rintro e w2 ⟨rfl, k2⟩) | (go_at_call 38; first | ((with_reducible refine (bw who 0 1 _ _ H0.out).mono ?_); rintro e w1 ⟨rfl, rfl⟩) | ((with_reducible refine (bw skill 0 3 _ _ H1.out).mono ?_); rintro e w1 ⟨rfl, rfl⟩)))
      go_ret
      exact ⟨rfl, bTrans hb k2⟩
end
section
variable (S : Nat → Int) (i : Nat) (w : World)
theorem sight_any (hi : i < 2) (hf : FitS S) : Calls Try.prog 16 #[.agg (stCells S).toArray, .int .i64 i] w fun e w' => e = .returned (.tuple #[.int .i32 (dotZ S i), .int .i32 (crossZ S i)]) ∧ Below w.heap.size w w' := by
  have : i = 0 ∨ i = 1 := by omega
  rcases this with rfl | rfl
  · exact sight_0 S hf w
  · exact sight_1 S hf w
theorem right_yes (h : rightS S = true) : Calls Try.prog 10 #[.agg (stCells S).toArray] w fun e w' => e = .returned (.bool true) ∧ Below w.heap.size w w' := by
  have := gRight_any S w
  rwa [h] at this
theorem st_down {w : World} {g : Nat} (h : Blk w g 33 (stCells S).toArray) (hi : i < 2) : w.cell? ⟨g, 4 + i * 10 + 8, none⟩ = some (.int .i64 (S (4 + i * 10 + 8))) := by
  rw [st_cell h _ (by omega), kdS_p i 8 hi (by decide)]; rfl
set_option maxHeartbeats 4000000 in
/-- One that is down presses nothing. -/
theorem press_down (k : Nat) (hi : i < 2) (hk : k ≤ 3) (hr : rightS S = true) (hd : 0 < S (4 + i * 10 + 8)) : Calls Try.prog 18 #[.agg (stCells S).toArray, .int .i64 i, .int .i64 k] w fun e w' => e = .returned (.int .u8 0) ∧ Below w.heap.size w w' := by
  have HK := Lib.hid (show Blk (w.alloc (.cells (stCells S).toArray 33)) w.heap.size 33 (stCells S).toArray from Blk.new _ _ _)
  have hb : Below w.heap.size w (w.alloc (.cells (stCells S).toArray 33)) := bAlloc (Below.refl _ _) _
  have HR := Lib.hid (fun W => right_yes S W hr)
  have H0 := Lib.hid (show inB i 0 1 = true from inB_ok ⟨by omega, by omega⟩)
  have H1 := Lib.hid (show inB k 0 3 = true from inB_ok ⟨by omega, by omega⟩)
  obtain ⟨q, hq⟩ : ∃ q, S (4 + i * 10 + 8) = q := ⟨_, rfl⟩
  rw [hq] at hd
  have HD := Lib.hid hq
  have hi2 : (i : Int) < 2 := by omega
  clear hr hq
  go_enter Try.func18, Try.ntmps18
  go_wp2_with (first | (refine wpList_load_midG rfl 33 (.tmp 3) rfl w.heap.size 0 rfl (stCells S) _ (Blk.range HK.out) Try.underlying33 rfl (by kernel_rfl) ?_) | (go_at_call 10; refine (HR.out _).mono ?_; rintro e w2 ⟨rfl, k2⟩; have HK2 := Lib.hid (HK.out.on k2); have c8 := st_down S i HK2.out hi; rw [HD.out] at c8; have hl2 := HK2.out.lt) | (go_at_call 38; first | ((with_reducible refine (bw i 0 1 _ _ H0.out).mono ?_); rintro e w1 ⟨rfl, rfl⟩) | ((with_reducible refine (bw k 0 3 _ _ H1.out).mono ?_); rintro e w1 ⟨rfl, rfl⟩)))
  go_ret
  exact ⟨rfl, bTrans hb k2⟩
end
end Go.Proofs.Ytnaclkaapicelaa

namespace Go.Proofs.Ytnaclkaapicelaa
open Go.RowKit
set_option maxRecDepth 100000
theorem fit32 {n : Int} (h : -2147483648 ≤ n ∧ n ≤ 2147483647) : (Lit.int .i32 n).wf = true := by
  have : IntKind.i32.min ≤ n ∧ n ≤ IntKind.i32.max := h
  simpa [Lit.wf] using this
theorem fit64 {n : Int} (h : -9223372036854775808 ≤ n ∧ n ≤ 9223372036854775807) : (Lit.int .i64 n).wf = true := by
  have : IntKind.i64.min ≤ n ∧ n ≤ IntKind.i64.max := h
  simpa [Lit.wf] using this
theorem fitu32 {n : Int} (h : 0 ≤ n ∧ n ≤ 4294967295) : (Lit.int .u32 n).wf = true := by
  have : IntKind.u32.min ≤ n ∧ n ≤ IntKind.u32.max := h
  simpa [Lit.wf] using this
/-- A state that may be fits its kinds. -/
theorem StM.fit {S : Nat → Int} (h : StM S) : FitS S := fun j hj => by
  by_cases h4 : j < 4
  · have : j = 0 ∨ j = 1 ∨ j = 2 ∨ j = 3 := by omega
    rcases this with rfl | rfl | rfl | rfl
    · exact fit64 (by have := h.fr; omega)
    · exact fitu32 (by have := h.dc; unfold U32 at this; omega)
    · exact fit64 (by have := h.rd; omega)
    · exact fit64 (by have := h.lf; omega)
  · by_cases h24 : j < 24
    · obtain ⟨i, m, rfl, hi, hm⟩ : ∃ i m, j = 4 + i * 10 + m ∧ i < 2 ∧ m < 10 := ⟨(j - 4) / 10, (j - 4) % 10, by omega, by omega, by omega⟩
      have p := h.pl i hi
      rw [kdS_p i m hi hm, show S (4 + i * 10 + m) = getP S i m from rfl]
      have wx := p.wx
      have wy := p.wy
      unfold F32 at wx wy
      have : m = 0 ∨ m = 1 ∨ m = 2 ∨ m = 3 ∨ m = 4 ∨ m = 5 ∨ m = 6 ∨ m = 7 ∨ m = 8 ∨ m = 9 := by omega
      rcases this with rfl | rfl | rfl | rfl | rfl | rfl | rfl | rfl | rfl | rfl
      · exact fit32 (by have := p.ax; omega)
      · exact fit32 (by have := p.ay; omega)
      · exact fit32 (by omega)
      · exact fit32 (by omega)
      · exact fit64 (by have := p.fc; omega)
      · exact fit64 (by have := p.hp; omega)
      · exact fit64 (by have := p.cl; omega)
      · exact fit64 (by have := p.wd; omega)
      · exact fit64 (by have := p.dn; omega)
      · exact fit64 (by have := p.sc; omega)
    · obtain ⟨k, m, rfl, hk, hm⟩ : ∃ k m, j = 24 + k * 6 + m ∧ k < 6 ∧ m < 6 := ⟨(j - 24) / 6, (j - 24) % 6, by omega, by omega, by omega⟩
      have p := h.sh k hk
      rw [kdS_s k m hm, show S (24 + k * 6 + m) = getS S k m from rfl]
      have wx := p.wx
      have wy := p.wy
      unfold F32 at wx wy
      have : m = 0 ∨ m = 1 ∨ m = 2 ∨ m = 3 ∨ m = 4 ∨ m = 5 := by omega
      rcases this with rfl | rfl | rfl | rfl | rfl | rfl
      · exact fit32 (by have := p.ax; omega)
      · exact fit32 (by have := p.ay; omega)
      · exact fit32 (by omega)
      · exact fit32 (by omega)
      · exact fit64 (by have := p.ow; omega)
      · exact fit64 (by have := p.lf; omega)
theorem press_bd (S : Nat → Int) (who skill : Int) : 0 ≤ pressZ S who skill ∧ pressZ S who skill ≤ 63 := by
  unfold pressZ
  split
  · exact pressTo_bd _ _ _
  · omega
/-- One frame: what both press, the next state, its events. -/
def rdM (a b : Int) (S : Nat → Int) : (Nat × Nat) × (Nat → Int) × List Ev := (((pressZ S 0 a).toNat, (pressZ S 1 b).toNat), stepS (pressZ S 0 a).toNat (pressZ S 1 b).toNat S)
/-- The state behind so many frames. -/
def stM (a b : Int) (S : Nat → Int) : Nat → Nat → Int
  | 0 => S
  | k + 1 => (rdM a b (stM a b S k)).2.1
def preM (a b : Int) (S : Nat → Int) (k : Nat) : List ((Nat × Nat) × (Nat → Int) × List Ev) := (List.range k).map fun j => rdM a b (stM a b S j)
theorem preM_succ (a b : Int) (S : Nat → Int) (k : Nat) : preM a b S (k + 1) = preM a b S k ++ [rdM a b (stM a b S k)] := by
  unfold preM
  rw [List.range_succ, List.map_append]; rfl
theorem preM_length (a b : Int) (S : Nat → Int) (k : Nat) : (preM a b S k).length = k := by unfold preM; simp
theorem stM_ok {a b : Int} {S : Nat → Int} (h : StOk S) (h0 : S 0 = 0) (h2 : S 2 = 0) : ∀ k, k ≤ 100000 → StOk (stM a b S k) ∧ stM a b S k 0 = (k : Int) ∧ stM a b S k 2 ≤ (k : Int) ∧ 0 ≤ stM a b S k 2
  | 0, _ => ⟨h, h0, by show S 2 ≤ _; rw [h2]; decide, by show 0 ≤ S 2; rw [h2]; decide⟩
  | k + 1, hk => by
    obtain ⟨k1, k2, k3, k4⟩ := stM_ok h h0 h2 k (by omega)
    obtain ⟨q1, q2, q3, q4, q5⟩ := stepS_ok (pressZ (stM a b S k) 0 a).toNat (pressZ (stM a b S k) 1 b).toNat k1 (by omega) (by omega)
    refine ⟨q1, ?_, ?_, ?_⟩
    · show (stepS _ _ (stM a b S k)).1 0 = _
      rw [q3, k2]; omega
    · show (stepS _ _ (stM a b S k)).1 2 ≤ _
      omega
    · show 0 ≤ (stepS _ _ (stM a b S k)).1 2
      omega
end Go.Proofs.Ytnaclkaapicelaa

namespace Go.Proofs.Ytnaclkaapicelaa
open Go.RowKit
section
variable {α : Type} {P : Program} {n : Nat}
/-- What an iterator may turn of its own: cells laid since the loop began and ahead of the first round (blocks B to m). -/
def TurnsOwn (B m : Nat) (A : World) (row : Option Nat) : Prop := ∀ r, row = some r → B ≤ r ∧ r < m ∧ ∃ o : Obj, A.heap[r]? = some o ∧ o.isCells = true
/-- The contract of an iterator that keeps state in cells: it yields what Yp allows, at most N times; what has come in the end is told by S. -/
def SeqSt (n : Nat) (P : Program) (gf : Nat) (lb : Array Value) (encs : α → Array Value) (Yp : Nat → List α → α → World → Prop) (Kp : World → World → Prop) (S : List α → Prop) (w0 : World) : Prop :=
  ∀ (l : Nat) (J : Nat → List α → World → Prop) (W : World), Below w0.heap.size w0 W →
    (∀ m pre A A' row, J m pre A → A.grownBy A' row → TurnsOwn W.heap.size m A row → J m pre A') →
    (∀ A, W.grownBy A none → J A.heap.size [] A) →
    (∀ m pre x A, W.heap.size ≤ m → J m pre A → Yp m pre x A → YieldAt Fence.wide (n - 1) P l (encs x) A fun e A' => e = .returned (.bool true) ∧ J m (pre ++ [x]) A' ∧ Kp A A') →
    CallsIn Fence.wide n P gf (#[.func (.yield l) #[] #[]] ++ lb) W fun e A => (∃ v, e = .returned v) ∧ ∃ m xs, W.heap.size ≤ m ∧ S xs ∧ J m xs A
/-- How a round's body is left: it goes on. -/
def goesOn (B : Nat) (Kp : World → World → Prop) (I : List α → World → Prop) (xs : List α) (W : World) : Exit → Act → World → Prop
  | .normal, _, W' => KeepsFrom B W W' ∧ Kp W W' ∧ I xs W'
  | _, _, _ => False
theorem wpIn_rangeFunc_st {g : Operand} {ps : Array Tmp} {assign body : Code} {Q : Exit → Act → World → Prop} {a : Act} {w : World} (h1 : 1 ≤ n) {gf : Nat} {lb : Array Value} (hg : a.eval g = .func (.func gf) #[] lb) (eg : ∀ args w, (callFunc gf args).run P w = .ok (.enter gf args) w)
    {encs : α → Array Value} {Yp : Nat → List α → α → World → Prop} {Kp : World → World → Prop} {S : List α → Prop} (hseq : SeqSt (n - 1) P gf lb encs Yp Kp S w) (hps : ∀ x, (encs x).size = ps.size)
    (hKt : ∀ {A B C : World}, Kp A B → Kp B C → Kp A C) (hKb : ∀ (W : World) (l : Nat) (o o' : Obj), w.heap.size ≤ l → W.heap[l]? = some o → o.isCells = false → Kp W (W.putObj l o'))
    (I : Nat → List α → World → Prop) (hI : ∀ m pre A A' row, I m pre A → A.grownBy A' row → (∀ r, row = some r → w.heap.size ≤ r ∧ ((∃ o : Obj, A.heap[r]? = some o ∧ o.isCells = false) ∨ (r < m ∧ ∃ o : Obj, A.heap[r]? = some o ∧ o.isCells = true))) → I m pre A')
    (h0 : ∀ A, w.grownBy A none → I A.heap.size [] A) (Ax : α → Act → World → Prop) (hAx : ∀ x a' A l o o', Ax x a' A → w.heap.size ≤ l → A.heap[l]? = some o → o.isCells = false → Ax x a' (A.putObj l o'))
    (hassign : ∀ (l m : Nat) (pre : List α) (x : α) (W : World) (K : Act → World → Prop), w.heap.size ≤ m → I m pre W → Yp m pre x W → (∀ a' W', KeepsFrom w.heap.size W W' → Kp W W' → I m pre W' → Yp m pre x W' → Ax x a' W' → K a' W') →
      assign.wpIn (Fence.wide.inRound l) (n - 1 - 1) P (Exit.then K (fun _ _ _ => False)) { tmps := (ps.zip (encs x)).foldl (fun t (p, v) => t.setIfInBounds p v) a.tmps, defers := [] } W)
    (hYp : ∀ m pre x A l o o', Yp m pre x A → w.heap.size ≤ l → A.heap[l]? = some o → o.isCells = false → Yp m pre x (A.putObj l o'))
    (hbody : ∀ (l m : Nat) (pre : List α) (x : α) (a' : Act) (W : World), w.heap.size ≤ m → I m pre W → Yp m pre x W → Ax x a' W → body.wpIn (Fence.wide.inRound l) (n - 1 - 1) P (goesOn w.heap.size Kp (I m) (pre ++ [x]) W) a' W)
    (hdone : ∀ (D m : Nat) (xs : List α) (W : World), w.heap.size ≤ D → S xs → I m xs W → W.heap[D]? = some (.deferred (some [])) → Q .normal { a with defers := { target := .collected D, args := #[] } :: a.defers } W) :
    (Code.rangeFunc g ps assign body).wpIn Fence.wide n P Q a w := by
  refine wpIn_rangeFunc fun fn _ => ?_
  obtain ⟨rc, hrc⟩ : ∃ rc : LoopState → Loop, rc = fun st => { state := st, pending := none, fn := fn, tmps := a.tmps, params := ps, assign := assign, body := body, defers := w.heap.size } := ⟨_, rfl⟩
  obtain ⟨V, hV⟩ : ∃ V, (w.alloc (.deferred (some []))).alloc (.loop (rc .ready)) = V := ⟨_, rfl⟩
  have hz : V.heap.size = w.heap.size + 2 := by rw [← hV]; simp
  have hgV : w.grownBy V none := by rw [← hV]; exact (World.grownBy_alloc w _ none).trans (World.grownBy_alloc _ _ none)
  have hbV : Below w.heap.size w V := by rw [← hV]; exact (((Below.refl _ w).alloc (Nat.le_refl _) _).alloc (by simp) _)
  have hl0 : V.heap[w.heap.size + 1]? = some (.loop (rc .ready)) := by
    rw [← hV]
    have := World.alloc_heap_new (w.alloc (.deferred (some []))) (.loop (rc .ready))
    rwa [World.size_alloc] at this
  have hd0 : V.heap[w.heap.size]? = some (.deferred (some [])) := by
    rw [← hV]
    exact (Below.heap_alloc _ _ _ (by simp)).trans (World.alloc_heap_new w _)
  refine ⟨w.heap.size + 1, [{ target := .collected w.heap.size, args := #[] }], V, { target := .fn (.func gf) lb, args := #[.func (.yield (w.heap.size + 1)) #[] #[]] }, V, gf, #[.func (.yield (w.heap.size + 1)) #[] #[]] ++ lb, V, ?_, ?_, fun _ _ => trivial, ?_, fun _ => h1, ?_⟩
  · rw [← hV, hrc]; exact run_enterLoop_outer _ _ _ _ _
  · simp only [resolve, hg]
    simp [go_sem]
  · simp [invoke, go_sem, eg]
  · refine (hseq (w.heap.size + 1) (fun m pre W => I m pre W ∧ W.heap[w.heap.size + 1]? = some (.loop (rc .ready)) ∧ W.heap[w.heap.size]? = some (.deferred (some []))) V hbV ?_ ?_ ?_).mono ?_
    · -- it abides growth and the iterator's own turns
      rintro m pre A A' row ⟨hi, hl, hd⟩ hgr hrow
      have hne : ∀ (k : Nat) (o : Obj), A.heap[k]? = some o → o.isCells = false → A'.heap[k]? = some o := fun k o hk ho => by
        rw [hgr.block k (Array.getElem?_eq_some_iff.1 hk).1 (fun e => by
          obtain ⟨-, -, o', ho', hc⟩ := hrow k e.symm
          rw [hk] at ho'; cases ho'; rw [ho] at hc; cases hc)]
        exact hk
      refine ⟨hI m pre A A' row hi hgr (fun r e => ?_), hne _ _ hl rfl, hne _ _ hd rfl⟩
      obtain ⟨q1, q2, q3⟩ := hrow r e
      exact ⟨by omega, .inr ⟨q2, q3⟩⟩
    · -- ahead of the first round
      intro A hA
      refine ⟨h0 A (hgV.trans hA), ?_, ?_⟩
      · rw [hA.block _ (by omega) (by simp)]; exact hl0
      · rw [hA.block _ (by omega) (by simp)]; exact hd0
    · -- one round
      rintro m pre x A hm ⟨hi, hl, hd⟩ hyp
      have hy := run_yield (P := P) (args := encs x) hl (by rw [hrc]; exact hps x)
      rw [hrc] at hy
      refine ⟨fn, _, assign, body, hy, roundIn_of_wpIn trivial (hassign _ m pre x A _ (by omega) hi hyp ?_)⟩
      intro a' B hkf hkp hib hyb hax
      have hlB := hkf.same _ _ (by omega) hl rfl
      have hdB := hkf.same _ _ (Nat.le_refl _) hd rfl
      have hltB : w.heap.size + 1 < B.heap.size := (Array.getElem?_eq_some_iff.1 hlB).1
      refine ⟨_, run_beginRound hlB (by rw [hrc]), ?_⟩
      have hput : ∀ (C : World) (o o' : Obj), C.heap[w.heap.size + 1]? = some o → o.isCells = false → ∀ m pre, I m pre C → I m pre (C.putObj (w.heap.size + 1) o') := fun C o o' hC ho m pre h =>
        hI m pre C _ _ h (grownBy_putObj' C (w.heap.size + 1) o') (fun r e => by cases e; exact ⟨by omega, .inl ⟨o, hC, ho⟩⟩)
      obtain ⟨C, hC⟩ : ∃ C, B.putObj (w.heap.size + 1) (.loop { rc .ready with state := .busy }) = C := ⟨_, rfl⟩
      have hlC : C.heap[w.heap.size + 1]? = some (.loop { rc .ready with state := .busy }) := by rw [← hC]; exact World.putObj_heap_same hltB
      have hdC : C.heap[w.heap.size]? = some (.deferred (some [])) := by rw [← hC]; exact (World.putObj_heap_other (by omega)).trans hdB
      have hKC : Kp B C := by rw [← hC]; exact hKb _ _ _ _ (by omega) hlB rfl
      have hiC : I m pre C := by rw [← hC]; exact hput B _ _ hlB rfl m pre hib
      have hyC : Yp m pre x C := by rw [← hC]; exact hYp _ _ _ _ _ _ _ hyb (by omega) hlB rfl
      have haC : Ax x a' C := by rw [← hC]; exact hAx _ _ _ _ _ _ hax (by omega) hlB rfl
      rw [hC]
      refine wpIn_mono (hbody (w.heap.size + 1) m pre x a' C (by omega) hiC hyC haC) ?_
      intro e a3 E hp
      cases e with
      | normal =>
        obtain ⟨hkE, hkpE, hiE⟩ := hp
        have hlE := hkE.same _ _ (by omega) hlC rfl
        have hdE := hkE.same _ _ (Nat.le_refl _) hdC rfl
        have hltE : w.heap.size + 1 < E.heap.size := (Array.getElem?_eq_some_iff.1 hlE).1
        have hr := run_endRound (P := P) none hlE
        rw [hrc] at hr hlE
        refine ⟨_, _, hr, rfl, ⟨?_, ?_, ?_⟩, ?_⟩
        · exact hput E _ _ hlE rfl m _ hiE
        · rw [hrc]; exact World.putObj_heap_same hltE
        · exact (World.putObj_heap_other (by omega)).trans hdE
        · exact hKt hkp (hKt hKC (hKt hkpE (hKb _ _ _ _ (by omega) hlE rfl)))
      | ret => exact hp.elim
      | exit id => exact hp.elim
      | goto t => exact hp.elim
      | panic ch => exact hp.elim
      | outgrown => exact hp.elim
    · -- behind the iterator
      rintro e A ⟨⟨v, rfl⟩, m, xs, hm, hS, hi, hl, hd⟩
      have hlt : w.heap.size + 1 < A.heap.size := (Array.getElem?_eq_some_iff.1 hl).1
      have hr := run_endLoop (P := P) hl (by rw [hrc]; simp)
      rw [hrc] at hr
      refine ⟨none, _, hr, hdone w.heap.size m xs _ (Nat.le_refl _) hS ?_ ((World.putObj_heap_other (by omega)).trans hd)⟩
      exact hI m xs A _ _ hi (grownBy_putObj' A (w.heap.size + 1) _) (fun r e => by cases e; exact ⟨by omega, .inl ⟨_, hl, rfl⟩⟩)
/-! ### a region of a round's body, by the plain laws -/
theorem oper_round {l : Nat} {o : Oper} {a : Act} {w : World} {K : Act → World → Prop} {Q : Exit → Act → World → Prop} (hd : ∀ c, o.op ≠ .defer c) (h : o.wp P a w K Q) : o.wpIn (Fence.wide.inRound l) n P a w K Q := by
  refine ⟨fun _ _ => trivial, ?_⟩
  rw [Oper.semAt_plain _ _ _ hd]
  unfold Oper.wp at h
  generalize (execOp a.eval o).run P w = r at h
  cases r with
  | ok x w' =>
    cases x with
    | value v => exact h
    | skip => exact h
    | defer d => exact h
    | enter f args => exact ⟨fun e => (by cases e), callsIn_wide.2 h⟩
    | row row args => exact ⟨fun e => (by cases e), fun c cs _ => let ⟨v, w', r, s⟩ := h c cs; ⟨v, w', r, stepsIn_wide.2 s⟩⟩
    | _ => exact h.elim
  | halt x w' =>
    cases x with
    | panic v => exact h
    | _ => exact h.elim
def noDefer (ops : Array Oper) : Bool := ops.all fun o => match o.op with | .defer _ => false | _ => true
theorem noDefer_at {ops : Array Oper} (h : noDefer ops = true) {i : Nat} {o : Oper} (ho : ops[i]? = some o) : ∀ c, o.op ≠ .defer c := fun c e => by
  have := Array.all_eq_true_iff_forall_mem.1 h o (Array.mem_of_getElem? ho)
  rw [e] at this; cases this
theorem op_round {l : Nat} {ops : Array Oper} {i : Nat} {a : Act} {w : World} {K : Act → World → Prop} {Q : Exit → Act → World → Prop} (hd : noDefer ops = true) (hno : ¬ LetsOut Q) (h : wpOp P ops Q i K a w) : wpOpIn (Fence.wide.inRound l) n P ops Q i K a w := by
  unfold wpOp at h
  unfold wpOpIn
  cases ho : ops[i]? with
  | none => rw [ho] at h; exact h
  | some o =>
    rw [ho] at h
    simp only at h ⊢
    by_cases hw : Region.wanted o (yielded ops a.tmps) = true
    · rw [if_pos hw] at h ⊢
      rcases h with h | ⟨-, h⟩
      · exact oper_round (noDefer_at hd ho) h
      · exact absurd h hno
    · rw [if_neg hw] at h ⊢
      exact ⟨fun _ _ => trivial, h⟩
theorem any_round {l : Nat} {ops : Array Oper} {md : Region.Mode} {Q : Exit → Act → World → Prop} (hd : noDefer ops = true) (hno : ¬ LetsOut Q) : ∀ (f : Nat) (listed : Array Bool) (a : Act) (w : World), wpAny P md ops Q f listed a w → wpAnyIn (Fence.wide.inRound l) n P md ops Q f listed a w
  | 0, _, _, _, h => h
  | f + 1, _, _, _, h => ⟨h.1, fun i hi => by
    have := op_round (l := l) (n := n) hd hno (h.2 i hi)
    exact wpOpIn_mono (fun a w => any_round hd hno f _ a w) this⟩
/-- **A region that draws its order, in a round.** -/
theorem wp_region_round {l id : Nat} {ops : Array Oper} {Q : Exit → Act → World → Prop} {a : Act} {w : World} (hm : P.follows .mixedOrders = true) (hd : noDefer ops = true) (hno : ¬ LetsOut Q)
    (h : wpAny P .any ops Q ops.size (Array.replicate ops.size false) a { w with drawn := w.drawn + 1 }) : (Code.region id ops true).wpIn (Fence.wide.inRound l) n P Q a w :=
  wpIn_region_any hm (any_round hd hno _ _ _ _ h)
end
end Go.Proofs.Ytnaclkaapicelaa

namespace Go.Proofs.Ytnaclkaapicelaa
open Go.RowKit
section
variable {P : Program} {ops : Array Oper} {S : World → Prop} {Q : Exit → Act → World → Prop} {a : Act} {w : World}
theorem yieldsIf_run {op : Oper} {v : Value} (hw : Region.wanted op (yielded ops a.tmps) = true) (h : ∀ w, (execOp a.eval op).run P w = .ok (.value v) w) : YieldsIf P ops S op v a := .inl ⟨hw, fun w _ => h w⟩
theorem yieldsIf_build {op : Oper} (hw : Region.wanted op (yielded ops a.tmps) = true) (t : TypeId) (parts : Array (Nat × Operand)) (ho : op.op = .build t parts) (cells : Array Value)
    (hc : P.built t (parts.map fun (i, x) => (i, a.eval x)).toList = some cells) : YieldsIf P ops S op (.agg cells) a := .inl ⟨hw, fun w _ => by
  unfold execOp
  simp only [ho, Sem.run_bind, run_build w t _ cells hc, Result.andThen_ok]
  rfl⟩
theorem wpOp_wp {i : Nat} {o : Oper} {K : Act → World → Prop} (hi : ops[i]? = some o) (hw : Region.wanted o (yielded ops a.tmps) = true) (h : o.wp P a w K Q) : wpOp P ops Q i K a w := by
  unfold wpOp
  simp only [hi, hw, if_true]
  exact .inl h
theorem wp_run {o : Oper} {v : Value} {w' : World} {K : Act → World → Prop} (hr : (execOp a.eval o).run P w = .ok (.value v) w') (h : K (a.put o.dst v) w') : o.wp P a w K Q := by
  unfold Oper.wp
  rw [hr]
  exact h
end
end Go.Proofs.Ytnaclkaapicelaa
