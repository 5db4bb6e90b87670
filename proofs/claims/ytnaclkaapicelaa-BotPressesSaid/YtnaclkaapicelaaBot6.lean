/-
  What the document's bot sees.
-/
import Derived.Test.YtnaclkaapicelaaBot5
import Derived.Deep.DeepCutAuto
namespace Go.Proofs.Ytnaclkaapicelaa
open Go.RowKit
set_option maxRecDepth 100000
theorem tmod_sin (a : Int) : sinZ (a.tmod 65536 + 16384) = sinZ (a + 16384) := by
  rw [← sinZ_mod (a.tmod 65536 + 16384), ← sinZ_mod (a + 16384)]
  congr 1
  have := Int.tmod_add_mul_tdiv a 65536
  omega
set_option maxHeartbeats 4000000 in
theorem rsight_0 (S : Nat → Int) (hf : FitS S) (w : World) : Calls Try.prog 17 #[.agg (stCells S).toArray, .int .i64 0] w fun e w' => e = .returned (.tuple #[.int .i32 (dotZ S 0), .int .i32 (crossZ S 0)]) ∧ Below w.heap.size w w' := by
  have f4 := Lib.hid (hf.f32 4 (by decide) rfl)
  have f5 := Lib.hid (hf.f32 5 (by decide) rfl)
  have f14 := Lib.hid (hf.f32 14 (by decide) rfl)
  have f15 := Lib.hid (hf.f32 15 (by decide) rfl)
  have fx := Lib.hid (show F32 (dxZ S 0) from sat_bd _)
  have fy := Lib.hid (show F32 (dyZ S 0) from sat_bd _)
  have HLS := Lib.hid (fun W => r10Less_any f14.out f15.out f4.out f5.out W)
  have HDOT := Lib.hid (show padd (fmul (sinZ (S 8 + 16384)) (dxZ S 0)) (fmul (sinZ (S 8)) (dyZ S 0)) = dotZ S 0 from rfl)
  have HCR := Lib.hid (show psub (fmul (sinZ (S 8 + 16384)) (dyZ S 0)) (fmul (sinZ (S 8)) (dxZ S 0)) = crossZ S 0 from rfl)
  have HK0 := Lib.hid (show Blk (w.alloc (.cells (stCells S).toArray 33)) w.heap.size 33 (stCells S).toArray from Blk.new _ _ _)
  have hb0 : Below w.heap.size w (w.alloc (.cells (stCells S).toArray 33)) := bAlloc (Below.refl _ _) _
  have hwf := hf 8 (by decide)
  have h8 := bounds_i64 (show (Lit.int .i64 (S 8)).wf = true from hwf)
  obtain ⟨h8a, h8b⟩ := h8
  have ht1 : -65536 < (S 8).tmod 65536 := Int.lt_tmod_of_pos _ (by decide)
  have ht2 : (S 8).tmod 65536 < 65536 := Int.tmod_lt_of_pos _ (by decide)
  have HMOD := Lib.hid (tmod_sin (S 8))
  clear hf hwf
  go_enter Try.func17, Try.ntmps17
  go_upto_region 3 with fail
  obtain ⟨W, hW⟩ : ∃ W, W = w.alloc (.cells (stCells S).toArray 33) := ⟨_, rfl⟩
  rw [← hW] at HK0 hb0 ⊢
  have hl0 := HK0.out.lt
  obtain ⟨c4, c5, c14, c15, -, -⟩ := st_at HK0.out
  have hw1 : IntKind.i64.wrap 1 = 1 := by decide
  have hw0 : IntKind.i64.wrap 0 = 0 := by decide
  clear hW
  go_cut [6] (fun p wx => ∃ g : Nat, p = .pointer (some ⟨g, 0, none⟩) ∧ Hid (Blk wx g 25 #[.int .i32 (dxZ S 0), .int .i32 (dyZ S 0)]) ∧ Hid (Blk wx w.heap.size 33 (stCells S).toArray) ∧ Hid (Below w.heap.size w wx))
  case first =>
    go_region_held3 (fun w' => w'.cell? ⟨w.heap.size, 4, none⟩ = some (.int .i32 (S 4)) ∧ w'.cell? ⟨w.heap.size, 5, none⟩ = some (.int .i32 (S 5)) ∧ w'.cell? ⟨w.heap.size, 14, none⟩ = some (.int .i32 (S 14)) ∧ w'.cell? ⟨w.heap.size, 15, none⟩ = some (.int .i32 (S 15))) (first | go_keep | (go_split_ands; refine ⟨?_, ?_, ?_, ?_⟩ <;> (rw [k1.cell (by simp; omega)]; assumption)) | (go_split_ands; refine ⟨?_, ?_, ?_, ?_⟩ <;> (first | assumption | go_keep)))
      (first | (go_at_call 45; refine (HLS.out _).mono ?_; rintro e w1 ⟨rfl, k1⟩; have hz1 : W.heap.size ≤ w1.heap.size := (by have := k1.size; (try simp at this); first | exact this | omega); have hn1 : ¬ w1.heap.size = w.heap.size := (by omega); have hn2 : ¬ W.heap.size = w.heap.size := (by omega); go_split_ands; have q4 : w1.cell? ⟨w.heap.size, 4, none⟩ = some (.int .i32 (S 4)) := (by rw [k1.cell (by simp; omega)]; assumption); have q5 : w1.cell? ⟨w.heap.size, 5, none⟩ = some (.int .i32 (S 5)) := (by rw [k1.cell (by simp; omega)]; assumption); have q14 : w1.cell? ⟨w.heap.size, 14, none⟩ = some (.int .i32 (S 14)) := (by rw [k1.cell (by simp; omega)]; assumption); have q15 : w1.cell? ⟨w.heap.size, 15, none⟩ = some (.int .i32 (S 15)) := (by rw [k1.cell (by simp; omega)]; assumption); (first | (have g2 : Blk w1 W.heap.size 25 #[.int .i32 0, .int .i32 0] := (Blk.new W.drew 25 #[.int .i32 0, .int .i32 0]).on k1; have g2a := g2.cell 0; have g2b := g2.cell 1; have g2e := g2.frozen 0; have g2f := g2.frozen 1; simp only [List.getElem?_toArray, List.getElem?_cons_zero, List.getElem?_cons_succ] at g2a g2b) | skip)))
    all_goals
      go_wp2_with fail
      go_meet
      first
        | ((with_reducible refine ⟨w1.heap.size, rfl, ?_, ?_, ?_⟩)
           · exact Lib.hid (Blk.new _ _ _)
           · exact Lib.hid ((HK0.out.drew.on k1).alloc _)
           · exact Lib.hid (bAlloc (bTrans hb0.drew k1) _))
        | ((with_reducible refine ⟨W.heap.size, rfl, ?_, ?_, ?_⟩)
           · exact Lib.hid ((g2.set 0 _).set 1 _)
           · exact Lib.hid ((((HK0.out.drew.alloc _).on k1).farG (by omega) _ _).farG (by omega) _ _)
           · exact Lib.hid (bSetG (bSetG (bTrans (bAlloc hb0.drew _) k1) (by omega) _ _) (by omega) _ _))
        | fail
  case rest =>
    obtain ⟨g, rfl, bg, HK, hb⟩ := hcut
    clear HK0 hb0 hl0 c4 c5 c14 c15
    have hl := HK.out.lt
    obtain ⟨-, -, -, -, c8, c18⟩ := st_at HK.out
    go_wp2_with fail
    refine (r02Sin_any _ _).mono ?_
    rw [HMOD.out]
    rintro e w3 ⟨rfl, rfl⟩
    go_wp2_with fail
    refine (r02Sin_any _ _).mono ?_
    rintro e w3 ⟨rfl, rfl⟩
    have r := bg.out
    have ra := r.cell 0
    have rb := r.cell 1
    have rc := r.frozen 0
    have rd := r.frozen 1
    have rl := r.lt
    simp only [List.getElem?_toArray, List.getElem?_cons_zero, List.getElem?_cons_succ] at ra rb
    clear r
    try clear r
    go_wp2_with fail
    refine wp_region_mild (by kernel_rfl) (by kernel_rfl) ?_
    repeat (go_big_quiet_step ((first | (go_at_call 48; exact mild_same (r01Mul_any (by exact sinZ_f32 _) (by first | exact fx.out | exact fy.out) _)) | (go_at_call 47; exact mild_same (r10Add_p (fmul_bd _ _) (fmul_bd _ _) _)))))
    refine wpQuiet_nil ?_
    intro w4 hw'
    obtain ⟨⟨wq, k4⟩, hw''⟩ := hw'
    subst hw''
    rw [HDOT.out]
    have B1 := bg.out.on k4
    have hb4 := bTrans hb.out k4
    clear ra rb rc rd rl k4 bg HK hb hl c8 c18
    have r := B1
    have ra := r.cell 0
    have rb := r.cell 1
    have rc := r.frozen 0
    have rd := r.frozen 1
    have rl := r.lt
    simp only [List.getElem?_toArray, List.getElem?_cons_zero, List.getElem?_cons_succ] at ra rb
    clear r
    try clear r
    go_wp2_with fail
    refine wp_region_mild (by kernel_rfl) (by kernel_rfl) ?_
    repeat (go_big_quiet_step ((first | (go_at_call 48; exact mild_same (r01Mul_any (by exact sinZ_f32 _) (by first | exact fx.out | exact fy.out) _)) | (go_at_call 49; exact mild_same (r10Sub_p (fmul_bd _ _) (fmul_bd _ _) _)))))
    refine wpQuiet_nil ?_
    intro w5 hw'
    obtain ⟨⟨wq, k5⟩, hw''⟩ := hw'
    subst hw''
    rw [HCR.out]
    go_wp2
    go_ret2
    exact ⟨rfl, bTrans hb4 k5⟩
set_option maxHeartbeats 4000000 in
theorem rsight_1 (S : Nat → Int) (hf : FitS S) (w : World) : Calls Try.prog 17 #[.agg (stCells S).toArray, .int .i64 1] w fun e w' => e = .returned (.tuple #[.int .i32 (dotZ S 1), .int .i32 (crossZ S 1)]) ∧ Below w.heap.size w w' := by
  have f4 := Lib.hid (hf.f32 4 (by decide) rfl)
  have f5 := Lib.hid (hf.f32 5 (by decide) rfl)
  have f14 := Lib.hid (hf.f32 14 (by decide) rfl)
  have f15 := Lib.hid (hf.f32 15 (by decide) rfl)
  have fx := Lib.hid (show F32 (dxZ S 1) from sat_bd _)
  have fy := Lib.hid (show F32 (dyZ S 1) from sat_bd _)
  have HLS := Lib.hid (fun W => r10Less_any f4.out f5.out f14.out f15.out W)
  have HDOT := Lib.hid (show padd (fmul (sinZ (S 18 + 16384)) (dxZ S 1)) (fmul (sinZ (S 18)) (dyZ S 1)) = dotZ S 1 from rfl)
  have HCR := Lib.hid (show psub (fmul (sinZ (S 18 + 16384)) (dyZ S 1)) (fmul (sinZ (S 18)) (dxZ S 1)) = crossZ S 1 from rfl)
  have HK0 := Lib.hid (show Blk (w.alloc (.cells (stCells S).toArray 33)) w.heap.size 33 (stCells S).toArray from Blk.new _ _ _)
  have hb0 : Below w.heap.size w (w.alloc (.cells (stCells S).toArray 33)) := bAlloc (Below.refl _ _) _
  have hwf := hf 18 (by decide)
  have h8 := bounds_i64 (show (Lit.int .i64 (S 18)).wf = true from hwf)
  obtain ⟨h8a, h8b⟩ := h8
  have ht1 : -65536 < (S 18).tmod 65536 := Int.lt_tmod_of_pos _ (by decide)
  have ht2 : (S 18).tmod 65536 < 65536 := Int.tmod_lt_of_pos _ (by decide)
  have HMOD := Lib.hid (tmod_sin (S 18))
  clear hf hwf
  go_enter Try.func17, Try.ntmps17
  go_upto_region 3 with fail
  obtain ⟨W, hW⟩ : ∃ W, W = w.alloc (.cells (stCells S).toArray 33) := ⟨_, rfl⟩
  rw [← hW] at HK0 hb0 ⊢
  have hl0 := HK0.out.lt
  obtain ⟨c4, c5, c14, c15, -, -⟩ := st_at HK0.out
  have hw1 : IntKind.i64.wrap 1 = 1 := by decide
  have hw0 : IntKind.i64.wrap 0 = 0 := by decide
  clear hW
  go_cut [6] (fun p wx => ∃ g : Nat, p = .pointer (some ⟨g, 0, none⟩) ∧ Hid (Blk wx g 25 #[.int .i32 (dxZ S 1), .int .i32 (dyZ S 1)]) ∧ Hid (Blk wx w.heap.size 33 (stCells S).toArray) ∧ Hid (Below w.heap.size w wx))
  case first =>
    go_region_held3 (fun w' => w'.cell? ⟨w.heap.size, 4, none⟩ = some (.int .i32 (S 4)) ∧ w'.cell? ⟨w.heap.size, 5, none⟩ = some (.int .i32 (S 5)) ∧ w'.cell? ⟨w.heap.size, 14, none⟩ = some (.int .i32 (S 14)) ∧ w'.cell? ⟨w.heap.size, 15, none⟩ = some (.int .i32 (S 15))) (first | go_keep | (go_split_ands; refine ⟨?_, ?_, ?_, ?_⟩ <;> (rw [k1.cell (by simp; omega)]; assumption)) | (go_split_ands; refine ⟨?_, ?_, ?_, ?_⟩ <;> (first | assumption | go_keep)))
      (first | (go_at_call 45; refine (HLS.out _).mono ?_; rintro e w1 ⟨rfl, k1⟩; have hz1 : W.heap.size ≤ w1.heap.size := (by have := k1.size; (try simp at this); first | exact this | omega); have hn1 : ¬ w1.heap.size = w.heap.size := (by omega); have hn2 : ¬ W.heap.size = w.heap.size := (by omega); go_split_ands; have q4 : w1.cell? ⟨w.heap.size, 4, none⟩ = some (.int .i32 (S 4)) := (by rw [k1.cell (by simp; omega)]; assumption); have q5 : w1.cell? ⟨w.heap.size, 5, none⟩ = some (.int .i32 (S 5)) := (by rw [k1.cell (by simp; omega)]; assumption); have q14 : w1.cell? ⟨w.heap.size, 14, none⟩ = some (.int .i32 (S 14)) := (by rw [k1.cell (by simp; omega)]; assumption); have q15 : w1.cell? ⟨w.heap.size, 15, none⟩ = some (.int .i32 (S 15)) := (by rw [k1.cell (by simp; omega)]; assumption); (first | (have g2 : Blk w1 W.heap.size 25 #[.int .i32 0, .int .i32 0] := (Blk.new W.drew 25 #[.int .i32 0, .int .i32 0]).on k1; have g2a := g2.cell 0; have g2b := g2.cell 1; have g2e := g2.frozen 0; have g2f := g2.frozen 1; simp only [List.getElem?_toArray, List.getElem?_cons_zero, List.getElem?_cons_succ] at g2a g2b) | skip)))
    all_goals
      go_wp2_with fail
      go_meet
      first
        | ((with_reducible refine ⟨w1.heap.size, rfl, ?_, ?_, ?_⟩)
           · exact Lib.hid (Blk.new _ _ _)
           · exact Lib.hid ((HK0.out.drew.on k1).alloc _)
           · exact Lib.hid (bAlloc (bTrans hb0.drew k1) _))
        | ((with_reducible refine ⟨W.heap.size, rfl, ?_, ?_, ?_⟩)
           · exact Lib.hid ((g2.set 0 _).set 1 _)
           · exact Lib.hid ((((HK0.out.drew.alloc _).on k1).farG (by omega) _ _).farG (by omega) _ _)
           · exact Lib.hid (bSetG (bSetG (bTrans (bAlloc hb0.drew _) k1) (by omega) _ _) (by omega) _ _))
        | fail
  case rest =>
    obtain ⟨g, rfl, bg, HK, hb⟩ := hcut
    clear HK0 hb0 hl0 c4 c5 c14 c15
    have hl := HK.out.lt
    obtain ⟨-, -, -, -, c8, c18⟩ := st_at HK.out
    go_wp2_with fail
    refine (r02Sin_any _ _).mono ?_
    rw [HMOD.out]
    rintro e w3 ⟨rfl, rfl⟩
    go_wp2_with fail
    refine (r02Sin_any _ _).mono ?_
    rintro e w3 ⟨rfl, rfl⟩
    have r := bg.out
    have ra := r.cell 0
    have rb := r.cell 1
    have rc := r.frozen 0
    have rd := r.frozen 1
    have rl := r.lt
    simp only [List.getElem?_toArray, List.getElem?_cons_zero, List.getElem?_cons_succ] at ra rb
    clear r
    try clear r
    go_wp2_with fail
    refine wp_region_mild (by kernel_rfl) (by kernel_rfl) ?_
    repeat (go_big_quiet_step ((first | (go_at_call 48; exact mild_same (r01Mul_any (by exact sinZ_f32 _) (by first | exact fx.out | exact fy.out) _)) | (go_at_call 47; exact mild_same (r10Add_p (fmul_bd _ _) (fmul_bd _ _) _)))))
    refine wpQuiet_nil ?_
    intro w4 hw'
    obtain ⟨⟨wq, k4⟩, hw''⟩ := hw'
    subst hw''
    rw [HDOT.out]
    have B1 := bg.out.on k4
    have hb4 := bTrans hb.out k4
    clear ra rb rc rd rl k4 bg HK hb hl c8 c18
    have r := B1
    have ra := r.cell 0
    have rb := r.cell 1
    have rc := r.frozen 0
    have rd := r.frozen 1
    have rl := r.lt
    simp only [List.getElem?_toArray, List.getElem?_cons_zero, List.getElem?_cons_succ] at ra rb
    clear r
    try clear r
    go_wp2_with fail
    refine wp_region_mild (by kernel_rfl) (by kernel_rfl) ?_
    repeat (go_big_quiet_step ((first | (go_at_call 48; exact mild_same (r01Mul_any (by exact sinZ_f32 _) (by first | exact fx.out | exact fy.out) _)) | (go_at_call 49; exact mild_same (r10Sub_p (fmul_bd _ _) (fmul_bd _ _) _)))))
    refine wpQuiet_nil ?_
    intro w5 hw'
    obtain ⟨⟨wq, k5⟩, hw''⟩ := hw'
    subst hw''
    rw [HCR.out]
    go_wp2
    go_ret2
    exact ⟨rfl, bTrans hb4 k5⟩
end Go.Proofs.Ytnaclkaapicelaa
