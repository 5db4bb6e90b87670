/-
  The walks beneath: Bot6, Bot7y, Bot8y.
-/
import Derived.Deep.DeepCutAuto
import Derived.Test.YtnaclkaapicelaaGreatBot5
import Derived.Test.YtnaclkaapicelaaGreatMa3
import Derived.Test.YtnaclkaapicelaaGreatGuard
namespace Go.Proofs.YtnaclkaapicelaaGreat
open Go.RowKit
set_option maxRecDepth 100000
theorem tmod_sin (a : Int) : sinZ (a.tmod 65536 + 16384) = sinZ (a + 16384) := by
  rw [← sinZ_mod (a.tmod 65536 + 16384), ← sinZ_mod (a + 16384)]
  congr 1
  have := Int.tmod_add_mul_tdiv a 65536
  omega
set_option maxHeartbeats 4000000 in
theorem rsight_0 (S : Nat → Int) (hf : FitS S) (w : World) : Calls Tryz.prog 98 #[.agg (stCells S).toArray, .int .i64 0] w fun e w' => e = .returned (.tuple #[.int .i32 (dotZ S 0), .int .i32 (crossZ S 0)]) ∧ Below w.heap.size w w' := by
  have f4 := Lib.hid (hf.f32 4 (by decide) rfl)
  have f5 := Lib.hid (hf.f32 5 (by decide) rfl)
  have f14 := Lib.hid (hf.f32 14 (by decide) rfl)
  have f15 := Lib.hid (hf.f32 15 (by decide) rfl)
  have fx := Lib.hid (show F32 (dxZ S 0) from sat_bd _)
  have fy := Lib.hid (show F32 (dyZ S 0) from sat_bd _)
  have HLS := Lib.hid (fun W => r10Less_any f14.out f15.out f4.out f5.out W)
  have HDOT := Lib.hid (show padd (fmul (sinZ (S 8 + 16384)) (dxZ S 0)) (fmul (sinZ (S 8)) (dyZ S 0)) = dotZ S 0 from rfl)
  have HCR := Lib.hid (show psub (fmul (sinZ (S 8 + 16384)) (dyZ S 0)) (fmul (sinZ (S 8)) (dxZ S 0)) = crossZ S 0 from rfl)
  have HK0 := Lib.hid (show Blk (w.alloc (.cells (stCells S).toArray 33)) w.heap.size 33 (stCells S).toArray from Blk.new _ _ _)
  have hb0 : Below w.heap.size w (w.alloc (.cells (stCells S).toArray 33)) := bAlloc (Below.refl _ _) _
  have hwf := hf 8 (by decide)
  have h8 := bounds_i64 (show (Lit.int .i64 (S 8)).wf = true from hwf)
  obtain ⟨h8a, h8b⟩ := h8
  have ht1 : -65536 < (S 8).tmod 65536 := Int.lt_tmod_of_pos _ (by decide)
  have ht2 : (S 8).tmod 65536 < 65536 := Int.tmod_lt_of_pos _ (by decide)
  have HMOD := Lib.hid (tmod_sin (S 8))
  clear hf hwf
  go_enter Tryz.func98, Tryz.ntmps98
  go_upto_region 3 with fail
  obtain ⟨W, hW⟩ : ∃ W, W = w.alloc (.cells (stCells S).toArray 33) := ⟨_, rfl⟩
  rw [← hW] at HK0 hb0 ⊢
  have hl0 := HK0.out.lt
  obtain ⟨c4, c5, c14, c15, -, -⟩ := st_at HK0.out
  have hw1 : IntKind.i64.wrap 1 = 1 := by decide
  have hw0 : IntKind.i64.wrap 0 = 0 := by decide
  clear hW
  go_cut [6] (fun p wx => ∃ g : Nat, p = .pointer (some ⟨g, 0, none⟩) ∧ Hid (Blk wx g 25 #[.int .i32 (dxZ S 0), .int .i32 (dyZ S 0)]) ∧ Hid (Blk wx w.heap.size 33 (stCells S).toArray) ∧ Hid (Below w.heap.size w wx))
  case first =>
    go_region_held3 (fun w' => w'.cell? ⟨w.heap.size, 4, none⟩ = some (.int .i32 (S 4)) ∧ w'.cell? ⟨w.heap.size, 5, none⟩ = some (.int .i32 (S 5)) ∧ w'.cell? ⟨w.heap.size, 14, none⟩ = some (.int .i32 (S 14)) ∧ w'.cell? ⟨w.heap.size, 15, none⟩ = some (.int .i32 (S 15))) (first | go_keep | (go_split_ands; refine ⟨?_, ?_, ?_, ?_⟩ <;> (rw [k1.cell (by simp; omega)]; assumption)) | (go_split_ands; refine ⟨?_, ?_, ?_, ?_⟩ <;> (first | assumption | go_keep)))
      (first | (go_at_call 76; refine (HLS.out _).mono ?_; rintro e w1 ⟨rfl, k1⟩; have hz1 : W.heap.size ≤ w1.heap.size := (by have := k1.size; (try simp at this); first | exact this | omega); have hn1 : ¬ w1.heap.size = w.heap.size := (by omega); have hn2 : ¬ W.heap.size = w.heap.size := (by omega); go_split_ands; have q4 : w1.cell? ⟨w.heap.size, 4, none⟩ = some (.int .i32 (S 4)) := (by rw [k1.cell (by simp; omega)]; assumption); have q5 : w1.cell? ⟨w.heap.size, 5, none⟩ = some (.int .i32 (S 5)) := (by rw [k1.cell (by simp; omega)]; assumption); have q14 : w1.cell? ⟨w.heap.size, 14, none⟩ = some (.int .i32 (S 14)) := (by rw [k1.cell (by simp; omega)]; assumption); have q15 : w1.cell? ⟨w.heap.size, 15, none⟩ = some (.int .i32 (S 15)) := (by rw [k1.cell (by simp; omega)]; assumption); (first | (have g2 : Blk w1 W.heap.size 25 #[.int .i32 0, .int .i32 0] := (Blk.new W.drew 25 #[.int .i32 0, .int .i32 0]).on k1; have g2a := g2.cell 0; have g2b := g2.cell 1; have g2e := g2.frozen 0; have g2f := g2.frozen 1; simp only [List.getElem?_toArray, List.getElem?_cons_zero, List.getElem?_cons_succ] at g2a g2b) | skip)))
    all_goals
      go_wp2_with fail
      go_meet
      first
        | ((with_reducible refine ⟨w1.heap.size, rfl, ?_, ?_, ?_⟩)
           · exact Lib.hid (Blk.new _ _ _)
           · exact Lib.hid ((HK0.out.drew.on k1).alloc _)
           · exact Lib.hid (bAlloc (bTrans hb0.drew k1) _))
        | ((with_reducible refine ⟨W.heap.size, rfl, ?_, ?_, ?_⟩)
           · exact Lib.hid ((g2.set 0 _).set 1 _)
           · exact Lib.hid ((((HK0.out.drew.alloc _).on k1).farG (by omega) _ _).farG (by omega) _ _)
           · exact Lib.hid (bSetG (bSetG (bTrans (bAlloc hb0.drew _) k1) (by omega) _ _) (by omega) _ _))
        | fail
  case rest =>
    obtain ⟨g, rfl, bg, HK, hb⟩ := hcut
    clear HK0 hb0 hl0 c4 c5 c14 c15
    have hl := HK.out.lt
    obtain ⟨-, -, -, -, c8, c18⟩ := st_at HK.out
    go_wp2_with fail
    refine (r02Sin_any _ _).mono ?_
    rw [HMOD.out]
    rintro e w3 ⟨rfl, rfl⟩
    go_wp2_with fail
    refine (r02Sin_any _ _).mono ?_
    rintro e w3 ⟨rfl, rfl⟩
    have r := bg.out
    have ra := r.cell 0
    have rb := r.cell 1
    have rc := r.frozen 0
    have rd := r.frozen 1
    have rl := r.lt
    simp only [List.getElem?_toArray, List.getElem?_cons_zero, List.getElem?_cons_succ] at ra rb
    clear r
    try clear r
    go_wp2_with fail
    refine wp_region_mild (by kernel_rfl) (by kernel_rfl) ?_
    repeat (go_big_quiet_step ((first | (go_at_call 112; exact mild_same (r01Mul_any (by exact sinZ_f32 _) (by first | exact fx.out | exact fy.out) _)) | (go_at_call 77; exact mild_same (r10Add_p (fmul_bd _ _) (fmul_bd _ _) _)))))
    refine wpQuiet_nil ?_
    intro w4 hw'
    obtain ⟨⟨wq, k4⟩, hw''⟩ := hw'
    subst hw''
    rw [HDOT.out]
    have B1 := bg.out.on k4
    have hb4 := bTrans hb.out k4
    clear ra rb rc rd rl k4 bg HK hb hl c8 c18
    have r := B1
    have ra := r.cell 0
    have rb := r.cell 1
    have rc := r.frozen 0
    have rd := r.frozen 1
    have rl := r.lt
    simp only [List.getElem?_toArray, List.getElem?_cons_zero, List.getElem?_cons_succ] at ra rb
    clear r
    try clear r
    go_wp2_with fail
    refine wp_region_mild (by kernel_rfl) (by kernel_rfl) ?_
    repeat (go_big_quiet_step ((first | (go_at_call 112; exact mild_same (r01Mul_any (by exact sinZ_f32 _) (by first | exact fx.out | exact fy.out) _)) | (go_at_call 116; exact mild_same (r10Sub_p (fmul_bd _ _) (fmul_bd _ _) _)))))
    refine wpQuiet_nil ?_
    intro w5 hw'
    obtain ⟨⟨wq, k5⟩, hw''⟩ := hw'
    subst hw''
    rw [HCR.out]
    go_wp2
    go_ret2
    exact ⟨rfl, bTrans hb4 k5⟩
set_option maxHeartbeats 4000000 in
theorem rsight_1 (S : Nat → Int) (hf : FitS S) (w : World) : Calls Tryz.prog 98 #[.agg (stCells S).toArray, .int .i64 1] w fun e w' => e = .returned (.tuple #[.int .i32 (dotZ S 1), .int .i32 (crossZ S 1)]) ∧ Below w.heap.size w w' := by
  have f4 := Lib.hid (hf.f32 4 (by decide) rfl)
  have f5 := Lib.hid (hf.f32 5 (by decide) rfl)
  have f14 := Lib.hid (hf.f32 14 (by decide) rfl)
  have f15 := Lib.hid (hf.f32 15 (by decide) rfl)
  have fx := Lib.hid (show F32 (dxZ S 1) from sat_bd _)
  have fy := Lib.hid (show F32 (dyZ S 1) from sat_bd _)
  have HLS := Lib.hid (fun W => r10Less_any f4.out f5.out f14.out f15.out W)
  have HDOT := Lib.hid (show padd (fmul (sinZ (S 18 + 16384)) (dxZ S 1)) (fmul (sinZ (S 18)) (dyZ S 1)) = dotZ S 1 from rfl)
  have HCR := Lib.hid (show psub (fmul (sinZ (S 18 + 16384)) (dyZ S 1)) (fmul (sinZ (S 18)) (dxZ S 1)) = crossZ S 1 from rfl)
  have HK0 := Lib.hid (show Blk (w.alloc (.cells (stCells S).toArray 33)) w.heap.size 33 (stCells S).toArray from Blk.new _ _ _)
  have hb0 : Below w.heap.size w (w.alloc (.cells (stCells S).toArray 33)) := bAlloc (Below.refl _ _) _
  have hwf := hf 18 (by decide)
  have h8 := bounds_i64 (show (Lit.int .i64 (S 18)).wf = true from hwf)
  obtain ⟨h8a, h8b⟩ := h8
  have ht1 : -65536 < (S 18).tmod 65536 := Int.lt_tmod_of_pos _ (by decide)
  have ht2 : (S 18).tmod 65536 < 65536 := Int.tmod_lt_of_pos _ (by decide)
  have HMOD := Lib.hid (tmod_sin (S 18))
  clear hf hwf
  go_enter Tryz.func98, Tryz.ntmps98
  go_upto_region 3 with fail
  obtain ⟨W, hW⟩ : ∃ W, W = w.alloc (.cells (stCells S).toArray 33) := ⟨_, rfl⟩
  rw [← hW] at HK0 hb0 ⊢
  have hl0 := HK0.out.lt
  obtain ⟨c4, c5, c14, c15, -, -⟩ := st_at HK0.out
  have hw1 : IntKind.i64.wrap 1 = 1 := by decide
  have hw0 : IntKind.i64.wrap 0 = 0 := by decide
  clear hW
  go_cut [6] (fun p wx => ∃ g : Nat, p = .pointer (some ⟨g, 0, none⟩) ∧ Hid (Blk wx g 25 #[.int .i32 (dxZ S 1), .int .i32 (dyZ S 1)]) ∧ Hid (Blk wx w.heap.size 33 (stCells S).toArray) ∧ Hid (Below w.heap.size w wx))
  case first =>
    go_region_held3 (fun w' => w'.cell? ⟨w.heap.size, 4, none⟩ = some (.int .i32 (S 4)) ∧ w'.cell? ⟨w.heap.size, 5, none⟩ = some (.int .i32 (S 5)) ∧ w'.cell? ⟨w.heap.size, 14, none⟩ = some (.int .i32 (S 14)) ∧ w'.cell? ⟨w.heap.size, 15, none⟩ = some (.int .i32 (S 15))) (first | go_keep | (go_split_ands; refine ⟨?_, ?_, ?_, ?_⟩ <;> (rw [k1.cell (by simp; omega)]; assumption)) | (go_split_ands; refine ⟨?_, ?_, ?_, ?_⟩ <;> (first | assumption | go_keep)))
      (first | (go_at_call 76; refine (HLS.out _).mono ?_; rintro e w1 ⟨rfl, k1⟩; have hz1 : W.heap.size ≤ w1.heap.size := (by have := k1.size; (try simp at this); first | exact this | omega); have hn1 : ¬ w1.heap.size = w.heap.size := (by omega); have hn2 : ¬ W.heap.size = w.heap.size := (by omega); go_split_ands; have q4 : w1.cell? ⟨w.heap.size, 4, none⟩ = some (.int .i32 (S 4)) := (by rw [k1.cell (by simp; omega)]; assumption); have q5 : w1.cell? ⟨w.heap.size, 5, none⟩ = some (.int .i32 (S 5)) := (by rw [k1.cell (by simp; omega)]; assumption); have q14 : w1.cell? ⟨w.heap.size, 14, none⟩ = some (.int .i32 (S 14)) := (by rw [k1.cell (by simp; omega)]; assumption); have q15 : w1.cell? ⟨w.heap.size, 15, none⟩ = some (.int .i32 (S 15)) := (by rw [k1.cell (by simp; omega)]; assumption); (first | (have g2 : Blk w1 W.heap.size 25 #[.int .i32 0, .int .i32 0] := (Blk.new W.drew 25 #[.int .i32 0, .int .i32 0]).on k1; have g2a := g2.cell 0; have g2b := g2.cell 1; have g2e := g2.frozen 0; have g2f := g2.frozen 1; simp only [List.getElem?_toArray, List.getElem?_cons_zero, List.getElem?_cons_succ] at g2a g2b) | skip)))
    all_goals
      go_wp2_with fail
      go_meet
      first
        | ((with_reducible refine ⟨w1.heap.size, rfl, ?_, ?_, ?_⟩)
           · exact Lib.hid (Blk.new _ _ _)
           · exact Lib.hid ((HK0.out.drew.on k1).alloc _)
           · exact Lib.hid (bAlloc (bTrans hb0.drew k1) _))
        | ((with_reducible refine ⟨W.heap.size, rfl, ?_, ?_, ?_⟩)
           · exact Lib.hid ((g2.set 0 _).set 1 _)
           · exact Lib.hid ((((HK0.out.drew.alloc _).on k1).farG (by omega) _ _).farG (by omega) _ _)
           · exact Lib.hid (bSetG (bSetG (bTrans (bAlloc hb0.drew _) k1) (by omega) _ _) (by omega) _ _))
        | fail
  case rest =>
    obtain ⟨g, rfl, bg, HK, hb⟩ := hcut
    clear HK0 hb0 hl0 c4 c5 c14 c15
    have hl := HK.out.lt
    obtain ⟨-, -, -, -, c8, c18⟩ := st_at HK.out
    go_wp2_with fail
    refine (r02Sin_any _ _).mono ?_
    rw [HMOD.out]
    rintro e w3 ⟨rfl, rfl⟩
    go_wp2_with fail
    refine (r02Sin_any _ _).mono ?_
    rintro e w3 ⟨rfl, rfl⟩
    have r := bg.out
    have ra := r.cell 0
    have rb := r.cell 1
    have rc := r.frozen 0
    have rd := r.frozen 1
    have rl := r.lt
    simp only [List.getElem?_toArray, List.getElem?_cons_zero, List.getElem?_cons_succ] at ra rb
    clear r
    try clear r
    go_wp2_with fail
    refine wp_region_mild (by kernel_rfl) (by kernel_rfl) ?_
    repeat (go_big_quiet_step ((first | (go_at_call 112; exact mild_same (r01Mul_any (by exact sinZ_f32 _) (by first | exact fx.out | exact fy.out) _)) | (go_at_call 77; exact mild_same (r10Add_p (fmul_bd _ _) (fmul_bd _ _) _)))))
    refine wpQuiet_nil ?_
    intro w4 hw'
    obtain ⟨⟨wq, k4⟩, hw''⟩ := hw'
    subst hw''
    rw [HDOT.out]
    have B1 := bg.out.on k4
    have hb4 := bTrans hb.out k4
    clear ra rb rc rd rl k4 bg HK hb hl c8 c18
    have r := B1
    have ra := r.cell 0
    have rb := r.cell 1
    have rc := r.frozen 0
    have rd := r.frozen 1
    have rl := r.lt
    simp only [List.getElem?_toArray, List.getElem?_cons_zero, List.getElem?_cons_succ] at ra rb
    clear r
    try clear r
    go_wp2_with fail
    refine wp_region_mild (by kernel_rfl) (by kernel_rfl) ?_
    repeat (go_big_quiet_step ((first | (go_at_call 112; exact mild_same (r01Mul_any (by exact sinZ_f32 _) (by first | exact fx.out | exact fy.out) _)) | (go_at_call 116; exact mild_same (r10Sub_p (fmul_bd _ _) (fmul_bd _ _) _)))))
    refine wpQuiet_nil ?_
    intro w5 hw'
    obtain ⟨⟨wq, k5⟩, hw''⟩ := hw'
    subst hw''
    rw [HCR.out]
    go_wp2
    go_ret2
    exact ⟨rfl, bTrans hb4 k5⟩
end Go.Proofs.YtnaclkaapicelaaGreat

namespace Go.Proofs.YtnaclkaapicelaaGreat
open Go.RowKit
set_option maxRecDepth 100000
set_option linter.unusedSimpArgs false
theorem playerB_iff' (p : Nat → Int) : playerB p = true ↔ (0 ≤ p 4 ∧ p 4 ≤ 65535) ∧ (0 ≤ p 5 ∧ p 5 ≤ 3) ∧ (0 ≤ p 6 ∧ p 6 ≤ 8) ∧ (0 ≤ p 7 ∧ p 7 ≤ 20) ∧ (0 ≤ p 8 ∧ p 8 ≤ 30) ∧ (0 ≤ p 9 ∧ p 9 ≤ 2) ∧
    insideB (-3932160) (-3932160) 3932160 3932160 (p 0) (p 1) = true ∧ (decide (0 < p 5) == (p 8 == 0)) = true := by
  unfold playerB
  simp only [Bool.and_eq_true, inB_iff']
theorem rins (lx ly hx hy x y : Int) (w : World) (b : Bool) (h : insideB lx ly hx hy x y = b) : Calls Tryz.prog 33 #[.agg #[.int .i32 lx, .int .i32 ly, .int .i32 hx, .int .i32 hy], .agg #[.int .i32 x, .int .i32 y]] w fun e w' => e = .returned (.bool b) ∧ Below w.heap.size w w' :=
  (r10Inside_any lx ly hx hy x y w).mono fun _ _ ⟨h1, h2⟩ => ⟨by rw [h1, h], h2⟩
theorem beq_flip_f {a b : Bool} (h : (a == b) = true) : (!a == b) = false := by cases a <;> cases b <;> simp_all
theorem rightS_p (S : Nat → Int) (i : Nat) (hi : i < 2) (h : playerB (getP S i) = false) : rightS S = false := by
  unfold rightS rightT
  have : i = 0 ∨ i = 1 := by omega
  rcases this with rfl | rfl <;> rw [h] <;> simp
theorem st_sh {w : World} {g : Nat} {S : Nat → Int} (h : Blk w g 33 (stCells S).toArray) (k : Nat) (hk : k < 6) : w.cell? ⟨g, 24 + k * 6, none⟩ = some (.int .i32 (getS S k 0)) ∧ w.cell? ⟨g, 24 + k * 6 + 1, none⟩ = some (.int .i32 (getS S k 1)) ∧ w.cell? ⟨g, 24 + k * 6 + 2, none⟩ = some (.int .i32 (getS S k 2)) ∧ w.cell? ⟨g, 24 + k * 6 + 3, none⟩ = some (.int .i32 (getS S k 3)) ∧ w.cell? ⟨g, 24 + k * 6 + 4, none⟩ = some (.int .i64 (getS S k 4)) ∧ w.cell? ⟨g, 24 + k * 6 + 5, none⟩ = some (.int .i64 (getS S k 5)) := by
  have h6 : k = 0 ∨ k = 1 ∨ k = 2 ∨ k = 3 ∨ k = 4 ∨ k = 5 := by omega
  rcases h6 with rfl | rfl | rfl | rfl | rfl | rfl
  · exact ⟨st_cell h 24 (by decide), st_cell h 25 (by decide), st_cell h 26 (by decide), st_cell h 27 (by decide), st_cell h 28 (by decide), st_cell h 29 (by decide)⟩
  · exact ⟨st_cell h 30 (by decide), st_cell h 31 (by decide), st_cell h 32 (by decide), st_cell h 33 (by decide), st_cell h 34 (by decide), st_cell h 35 (by decide)⟩
  · exact ⟨st_cell h 36 (by decide), st_cell h 37 (by decide), st_cell h 38 (by decide), st_cell h 39 (by decide), st_cell h 40 (by decide), st_cell h 41 (by decide)⟩
  · exact ⟨st_cell h 42 (by decide), st_cell h 43 (by decide), st_cell h 44 (by decide), st_cell h 45 (by decide), st_cell h 46 (by decide), st_cell h 47 (by decide)⟩
  · exact ⟨st_cell h 48 (by decide), st_cell h 49 (by decide), st_cell h 50 (by decide), st_cell h 51 (by decide), st_cell h 52 (by decide), st_cell h 53 (by decide)⟩
  · exact ⟨st_cell h 54 (by decide), st_cell h 55 (by decide), st_cell h 56 (by decide), st_cell h 57 (by decide), st_cell h 58 (by decide), st_cell h 59 (by decide)⟩
theorem shotB_iff' (x : Nat → Int) : shotB x = true ↔ shotZ x = true ∨ ((1 ≤ x 4 ∧ x 4 ≤ 2) ∧ (1 ≤ x 5 ∧ x 5 ≤ 40) ∧ insideB (-4194304) (-4194304) 4194304 4194304 (x 0) (x 1) = true) := by
  unfold shotB arenaB
  simp only [Bool.or_eq_true, Bool.and_eq_true, inB_iff']
set_option maxHeartbeats 16000000 in
theorem r12Right_yes (S : Nat → Int) (w : World) (hyes : rightS S = true) : Calls Tryz.prog 10 #[.agg (stCells S).toArray] w fun e w' => e = .returned (.bool true) ∧ Below w.heap.size w w' := by
  have HYS := Lib.hid hyes
  clear hyes
  have HK0 := Lib.hid (show Blk (w.alloc (.cells (stCells S).toArray 33)) w.heap.size 33 (stCells S).toArray from Blk.new _ _ _)
  have hb0 : Below w.heap.size w (w.alloc (.cells (stCells S).toArray 33)) := bAlloc (Below.refl _ _) _
  go_enter Tryz.func10, Tryz.ntmps10
  go_wp2_with fail
  obtain ⟨W, hW⟩ : ∃ W, W = w.alloc (.cells (stCells S).toArray 33) := ⟨_, rfl⟩
  rw [← hW] at HK0 hb0 ⊢
  clear hW
  go_loopw [3] (fun v wr => ∃ i : Nat, i ≤ 2 ∧ v = .int .i64 i ∧ Hid (∀ j, j < i → playerB (getP S j) = true) ∧ Hid (Blk wr w.heap.size 33 (stCells S).toArray) ∧ Below w.heap.size w wr) (fun v _ => 2 - (intOf v).toNat)
  case atStart => exact ⟨0, by decide, rfl, Lib.hid (fun j hj => absurd hj (Nat.not_lt_zero j)), HK0, hb0⟩
  case round =>
    clear HK0 hb0
    obtain ⟨i, hi, rfl, HALL, HB, hbr⟩ := hrel
    have hlb := HB.out.lt
    by_cases hlt : i < 2
    · have hi2 : i = 0 ∨ i = 1 := by omega
      rcases hi2 with rfl | rfl
      · cases hp : playerB (getP S 0)
        · exact absurd (rightS_p S 0 (by decide) hp) (by rw [HYS.out]; decide)
        · have HP := Lib.hid hp
          obtain ⟨⟨a1, a2⟩, ⟨b1, b2⟩, ⟨c1, c2⟩, ⟨d1, d2⟩, ⟨e1, e2⟩, ⟨f1, f2⟩, hin, hl⟩ := (playerB_iff' _).1 hp
          have HIN := Lib.hid hin
          have hlast : (!decide (0 < getP S 0 5) == (getP S 0 8 == 0)) = false := beq_flip_f hl
          have l4' : decide (getP S 0 4 < 0) = false := decide_eq_false (by omega)
          have h4' : decide (65535 < getP S 0 4) = false := decide_eq_false (by omega)
          have l5' : decide (getP S 0 5 < 0) = false := decide_eq_false (by omega)
          have h5' : decide (3 < getP S 0 5) = false := decide_eq_false (by omega)
          have l6' : decide (getP S 0 6 < 0) = false := decide_eq_false (by omega)
          have h6' : decide (8 < getP S 0 6) = false := decide_eq_false (by omega)
          have l7' : decide (getP S 0 7 < 0) = false := decide_eq_false (by omega)
          have h7' : decide (20 < getP S 0 7) = false := decide_eq_false (by omega)
          have l8' : decide (getP S 0 8 < 0) = false := decide_eq_false (by omega)
          have h8' : decide (30 < getP S 0 8) = false := decide_eq_false (by omega)
          have l9' : decide (getP S 0 9 < 0) = false := decide_eq_false (by omega)
          have h9' : decide (2 < getP S 0 9) = false := decide_eq_false (by omega)
          clear hp hin hl
          go_wp2_with (first | (refine wpList_load_mid rfl 27 (.tmp 13) rfl w.heap.size 4 rfl [.int .i32 (getP S 0 0), .int .i32 (getP S 0 1), .int .i32 (getP S 0 2), .int .i32 (getP S 0 3), .int .i64 (getP S 0 4), .int .i64 (getP S 0 5), .int .i64 (getP S 0 6), .int .i64 (getP S 0 7), .int .i64 (getP S 0 8), .int .i64 (getP S 0 9)] _ (st_pl0 HB.out) Tryz.underlying27 rfl (by kernel_rfl) ?_))
          have hk1 := Blk.new wr 27 #[.int .i32 (getP S 0 0), .int .i32 (getP S 0 1), .int .i32 (getP S 0 2), .int .i32 (getP S 0 3), .int .i64 (getP S 0 4), .int .i64 (getP S 0 5), .int .i64 (getP S 0 6), .int .i64 (getP S 0 7), .int .i64 (getP S 0 8), .int .i64 (getP S 0 9)]
          have hb1 := bAlloc hbr (.cells #[.int .i32 (getP S 0 0), .int .i32 (getP S 0 1), .int .i32 (getP S 0 2), .int .i32 (getP S 0 3), .int .i64 (getP S 0 4), .int .i64 (getP S 0 5), .int .i64 (getP S 0 6), .int .i64 (getP S 0 7), .int .i64 (getP S 0 8), .int .i64 (getP S 0 9)] 27)
          obtain ⟨W5, hW5⟩ : ∃ W5, wr.alloc (.cells #[.int .i32 (getP S 0 0), .int .i32 (getP S 0 1), .int .i32 (getP S 0 2), .int .i32 (getP S 0 3), .int .i64 (getP S 0 4), .int .i64 (getP S 0 5), .int .i64 (getP S 0 6), .int .i64 (getP S 0 7), .int .i64 (getP S 0 8), .int .i64 (getP S 0 9)] 27) = W5 := ⟨_, rfl⟩
          rw [hW5] at hk1 hb1 ⊢
          have HB5 : Hid (Blk W5 w.heap.size 33 (stCells S).toArray) := by rw [← hW5]; exact Lib.hid (HB.out.alloc _)
          have g0 := hk1.cell 0
          have g1 := hk1.cell 1
          have g4 := hk1.cell 4
          have g5 := hk1.cell 5
          have g6 := hk1.cell 6
          have g7 := hk1.cell 7
          have g8 := hk1.cell 8
          have g9 := hk1.cell 9
          have gl := hk1.lt
          simp only [List.getElem?_toArray, List.getElem?_cons_zero, List.getElem?_cons_succ] at g0 g1 g4 g5 g6 g7 g8 g9
          clear hW5 hk1
          try simp only [List.append_eq, List.cons_append, List.nil_append]
          refine wp_region_mild (by kernel_rfl) (by kernel_rfl) ?_
          repeat (go_big_quiet_step ((first | (go_at_call 34; exact mild_of (r12Box_60 _)) | (go_at_call 33; exact mild_of (rins _ _ _ _ _ _ _ _ HIN.out)))))
          refine wpQuiet_nil ?_
          intro w6 hw'
          obtain ⟨⟨wq, k6⟩, hw''⟩ := hw'
          subst hw''
          have HB6 := Lib.hid (HB5.out.on k6)
          have hb6 := bTrans hb1 k6
          clear k6 hb1 g0 g1 g4 g5 g6 g7 g8 g9
          go_wp2
          go_roundw
          case rel => exact ⟨1, by omega, rfl, Lib.hid (fun j hj => (by
            rcases Nat.lt_or_ge j 0 with h | h
            · exact HALL.out j h
            · obtain rfl : j = 0 := by omega
              exact HP.out)), HB6, hb6⟩
          case measure => simp [intOf] <;> omega
      · cases hp : playerB (getP S 1)
        · exact absurd (rightS_p S 1 (by decide) hp) (by rw [HYS.out]; decide)
        · have HP := Lib.hid hp
          obtain ⟨⟨a1, a2⟩, ⟨b1, b2⟩, ⟨c1, c2⟩, ⟨d1, d2⟩, ⟨e1, e2⟩, ⟨f1, f2⟩, hin, hl⟩ := (playerB_iff' _).1 hp
          have HIN := Lib.hid hin
          have hlast : (!decide (0 < getP S 1 5) == (getP S 1 8 == 0)) = false := beq_flip_f hl
          have l4' : decide (getP S 1 4 < 0) = false := decide_eq_false (by omega)
          have h4' : decide (65535 < getP S 1 4) = false := decide_eq_false (by omega)
          have l5' : decide (getP S 1 5 < 0) = false := decide_eq_false (by omega)
          have h5' : decide (3 < getP S 1 5) = false := decide_eq_false (by omega)
          have l6' : decide (getP S 1 6 < 0) = false := decide_eq_false (by omega)
          have h6' : decide (8 < getP S 1 6) = false := decide_eq_false (by omega)
          have l7' : decide (getP S 1 7 < 0) = false := decide_eq_false (by omega)
          have h7' : decide (20 < getP S 1 7) = false := decide_eq_false (by omega)
          have l8' : decide (getP S 1 8 < 0) = false := decide_eq_false (by omega)
          have h8' : decide (30 < getP S 1 8) = false := decide_eq_false (by omega)
          have l9' : decide (getP S 1 9 < 0) = false := decide_eq_false (by omega)
          have h9' : decide (2 < getP S 1 9) = false := decide_eq_false (by omega)
          clear hp hin hl
          go_wp2_with (first | (refine wpList_load_mid rfl 27 (.tmp 13) rfl w.heap.size 14 rfl [.int .i32 (getP S 1 0), .int .i32 (getP S 1 1), .int .i32 (getP S 1 2), .int .i32 (getP S 1 3), .int .i64 (getP S 1 4), .int .i64 (getP S 1 5), .int .i64 (getP S 1 6), .int .i64 (getP S 1 7), .int .i64 (getP S 1 8), .int .i64 (getP S 1 9)] _ (st_pl1 HB.out) Tryz.underlying27 rfl (by kernel_rfl) ?_))
          have hk1 := Blk.new wr 27 #[.int .i32 (getP S 1 0), .int .i32 (getP S 1 1), .int .i32 (getP S 1 2), .int .i32 (getP S 1 3), .int .i64 (getP S 1 4), .int .i64 (getP S 1 5), .int .i64 (getP S 1 6), .int .i64 (getP S 1 7), .int .i64 (getP S 1 8), .int .i64 (getP S 1 9)]
          have hb1 := bAlloc hbr (.cells #[.int .i32 (getP S 1 0), .int .i32 (getP S 1 1), .int .i32 (getP S 1 2), .int .i32 (getP S 1 3), .int .i64 (getP S 1 4), .int .i64 (getP S 1 5), .int .i64 (getP S 1 6), .int .i64 (getP S 1 7), .int .i64 (getP S 1 8), .int .i64 (getP S 1 9)] 27)
          obtain ⟨W5, hW5⟩ : ∃ W5, wr.alloc (.cells #[.int .i32 (getP S 1 0), .int .i32 (getP S 1 1), .int .i32 (getP S 1 2), .int .i32 (getP S 1 3), .int .i64 (getP S 1 4), .int .i64 (getP S 1 5), .int .i64 (getP S 1 6), .int .i64 (getP S 1 7), .int .i64 (getP S 1 8), .int .i64 (getP S 1 9)] 27) = W5 := ⟨_, rfl⟩
          rw [hW5] at hk1 hb1 ⊢
          have HB5 : Hid (Blk W5 w.heap.size 33 (stCells S).toArray) := by rw [← hW5]; exact Lib.hid (HB.out.alloc _)
          have g0 := hk1.cell 0
          have g1 := hk1.cell 1
          have g4 := hk1.cell 4
          have g5 := hk1.cell 5
          have g6 := hk1.cell 6
          have g7 := hk1.cell 7
          have g8 := hk1.cell 8
          have g9 := hk1.cell 9
          have gl := hk1.lt
          simp only [List.getElem?_toArray, List.getElem?_cons_zero, List.getElem?_cons_succ] at g0 g1 g4 g5 g6 g7 g8 g9
          clear hW5 hk1
          try simp only [List.append_eq, List.cons_append, List.nil_append]
          refine wp_region_mild (by kernel_rfl) (by kernel_rfl) ?_
          repeat (go_big_quiet_step ((first | (go_at_call 34; exact mild_of (r12Box_60 _)) | (go_at_call 33; exact mild_of (rins _ _ _ _ _ _ _ _ HIN.out)))))
          refine wpQuiet_nil ?_
          intro w6 hw'
          obtain ⟨⟨wq, k6⟩, hw''⟩ := hw'
          subst hw''
          have HB6 := Lib.hid (HB5.out.on k6)
          have hb6 := bTrans hb1 k6
          clear k6 hb1 g0 g1 g4 g5 g6 g7 g8 g9
          go_wp2
          go_roundw
          case rel => exact ⟨2, by omega, rfl, Lib.hid (fun j hj => (by
            rcases Nat.lt_or_ge j 1 with h | h
            · exact HALL.out j h
            · obtain rfl : j = 1 := by omega
              exact HP.out)), HB6, hb6⟩
          case measure => simp [intOf] <;> omega
    · obtain rfl : i = 2 := by omega
      have HP0 := Lib.hid (HALL.out 0 (by decide))
      have HP1 := Lib.hid (HALL.out 1 (by decide))
      clear HALL
      go_wp2_with fail
      go_loopw [5] (fun v wr => ∃ k : Nat, k ≤ 6 ∧ v = .int .i64 k ∧ Hid (∀ j, j < k → shotB (getS S j) = true) ∧ Hid (Blk wr w.heap.size 33 (stCells S).toArray) ∧ Below w.heap.size w wr) (fun v _ => 6 - (intOf v).toNat)
      case atStart => exact ⟨0, by decide, rfl, Lib.hid (fun j hj => absurd hj (Nat.not_lt_zero j)), HB, hbr⟩
      case round =>
        clear HB hbr hlb
        obtain ⟨k, hk, rfl, HALL, HB, hbr⟩ := hrel
        have hlb := HB.out.lt
        by_cases hlk : k < 6
        · obtain ⟨s0, s1, s2, s3, s4, s5⟩ := st_sh HB.out k hlk
          obtain ⟨x, hx⟩ : ∃ x, getS S k = x := ⟨_, rfl⟩
          rw [hx] at s0 s1 s2 s3 s4 s5
          have HXK := Lib.hid hx
          clear hx
          go_upto_region 11 with fail
          obtain ⟨W8, hW8⟩ : ∃ W8, wr.alloc (.cells #[.int .i32 (x 0), .int .i32 (x 1), .int .i32 (x 2), .int .i32 (x 3), .int .i64 (x 4), .int .i64 (x 5)] 30) = W8 := ⟨_, rfl⟩
          rw [hW8]
          have hk8 : Blk W8 wr.heap.size 30 #[.int .i32 (x 0), .int .i32 (x 1), .int .i32 (x 2), .int .i32 (x 3), .int .i64 (x 4), .int .i64 (x 5)] := by rw [← hW8]; exact Blk.new _ _ _
          have hb8 : Below w.heap.size w W8 := by rw [← hW8]; exact bAlloc hbr _
          have HB8 : Hid (Blk W8 w.heap.size 33 (stCells S).toArray) := Lib.hid (by rw [← hW8]; exact HB.out.alloc _)
          have hl8 := hk8.lt
          have c0 := hk8.cell 0
          have c1 := hk8.cell 1
          have c2 := hk8.cell 2
          have c3 := hk8.cell 3
          have c4 := hk8.cell 4
          have c5 := hk8.cell 5
          simp only [List.getElem?_toArray, List.getElem?_cons_zero, List.getElem?_cons_succ] at c0 c1 c2 c3 c4 c5
          clear hW8 hk8 s0 s1 s2 s3 s4 s5 HB hbr hlb
          cases hz : shotZ x
          · have HZ := Lib.hid hz
            have hxb : shotB x = true := by
              cases hb : shotB x
              · exact absurd (rightS_no hlk (by rw [HXK.out]; exact hb)) (by rw [HYS.out]; decide)
              · rfl
            obtain ⟨q1, q2, hin⟩ : (1 ≤ x 4 ∧ x 4 ≤ 2) ∧ (1 ≤ x 5 ∧ x 5 ≤ 40) ∧ insideB (-4194304) (-4194304) 4194304 4194304 (x 0) (x 1) = true := by
              rcases (shotB_iff' x).1 hxb with h | h
              · rw [h] at hz; cases hz
              · exact h
            have l4' : decide (x 4 < 1) = false := decide_eq_false (by omega)
            have h4' : decide (2 < x 4) = false := decide_eq_false (by omega)
            have l5' : decide (x 5 < 1) = false := decide_eq_false (by omega)
            have h5' : decide (40 < x 5) = false := decide_eq_false (by omega)
            have HIN := Lib.hid hin
            have HS : Hid (shotB x = true) := Lib.hid hxb
            clear hz hin hxb q1 q2
            as_aux_lemma =>
              refine wp_region_mild (by kernel_rfl) (by kernel_rfl) ?_
              repeat (go_big_quiet_step ((first | (rw [nest_six x, HZ.out]; exact ⟨rfl, rfl⟩) | (go_at_call 34; exact mild_of (r12Box_64 _)) | (go_at_call 33; exact mild_of (rins _ _ _ _ _ _ _ _ HIN.out)))))
              refine wpQuiet_nil ?_
              intro w9 hw'
              obtain ⟨⟨wq, k9⟩, hw''⟩ := hw'
              subst hw''
              have HB9 := Lib.hid (HB8.out.on k9)
              have hb9 := bTrans hb8 k9
              clear k9 hb8 HB8 c0 c1 c2 c3 c4 c5
              go_wp2
              go_roundw
              case rel => exact ⟨k + 1, by omega, by go_num, Lib.hid (fun j hj => (by
                rcases Nat.lt_or_ge j k with h | h
                · exact HALL.out j h
                · obtain rfl : j = k := by omega
                  rw [HXK.out]; exact HS.out)), HB9, hb9⟩
              case measure => simp [intOf] <;> omega
          · have HZ := Lib.hid hz
            have HS : Hid (shotB x = true) := Lib.hid ((shotB_iff' x).2 (.inl hz))
            clear hz
            as_aux_lemma =>
              refine wp_region_mild (by kernel_rfl) (by kernel_rfl) ?_
              repeat (go_big_quiet_step ((first | (rw [nest_six x, HZ.out]; exact ⟨rfl, rfl⟩) | (go_at_call 34; exact mild_of (r12Box_64 _)) | (go_at_call 33; exact mild_of (rins _ _ _ _ _ _ _ _ HIN.out)))))
              refine wpQuiet_nil ?_
              intro w9 hw'
              obtain ⟨⟨wq, k9⟩, hw''⟩ := hw'
              subst hw''
              have HB9 := Lib.hid (HB8.out.on k9)
              have hb9 := bTrans hb8 k9
              clear k9 hb8 HB8 c0 c1 c2 c3 c4 c5
              go_wp2
              go_roundw
              case rel => exact ⟨k + 1, by omega, by go_num, Lib.hid (fun j hj => (by
                rcases Nat.lt_or_ge j k with h | h
                · exact HALL.out j h
                · obtain rfl : j = k := by omega
                  rw [HXK.out]; exact HS.out)), HB9, hb9⟩
              case measure => simp [intOf] <;> omega
        · obtain rfl : k = 6 := by omega
          have HALL6 := HALL.out
          obtain ⟨e0, e2, e3⟩ := st_h HB.out
          have hy := HYS.out
          rw [rightS_yes HALL6] at hy
          unfold rightT at hy
          rw [HP0.out, HP1.out] at hy
          simp only [Bool.true_and, Bool.and_eq_true, inB_iff'] at hy
          obtain ⟨hy0, hy2, hy3⟩ := hy
          go_wp2_with fail
          go_ret
          exact ⟨rfl, hbr⟩
end Go.Proofs.YtnaclkaapicelaaGreat

namespace Go.Proofs.YtnaclkaapicelaaGreat
open Go.RowKit
set_option maxRecDepth 100000
set_option linter.unusedSimpArgs false
theorem rright (S : Nat → Int) (h : rightS S = true) (W : World) : Calls Tryz.prog 10 #[.agg (stCells S).toArray] W fun e w' => e = .returned (.bool true) ∧ Below W.heap.size W w' := r12Right_yes S W h
section
variable (S : Nat → Int) (k : Nat) (w : World)
theorem pl_cell {w : World} {g : Nat} {p : Nat → Int} (h : Blk w g 27 (plCells p).toArray) (j : Nat) (hj : j < 10) {k : IntKind} (hk : kdP j = k) : w.cell? ⟨g, j, none⟩ = some (.int k (p j)) := by
  rw [h.cell]; simp [plCells, rowOf, hj, hk]
set_option maxHeartbeats 4000000 in
theorem rpress_down (i : Nat) (hi : i < 2) (hk : k ≤ 3) (hr : rightS S = true) (hd : 0 < getP S i 8) : Calls Tryz.prog 49 #[.agg (stCells S).toArray, .int .i64 i, .int .i64 k] w fun e w' => e = .returned (.int .u8 0) ∧ Below w.heap.size w w' := by
  have HR := Lib.hid (rright S hr)
  have hi2 : (i : Int) < 2 := by omega
  have g1 : decide (1 < (i : Int)) = false := decide_eq_false (by omega)
  have g3 : decide (3 < (k : Int)) = false := decide_eq_false (by omega)
  clear hr
  have HK0 := Lib.hid (show Blk (w.alloc (.cells (stCells S).toArray 33)) w.heap.size 33 (stCells S).toArray from Blk.new _ _ _)
  have HB0 := Lib.hid (show Below w.heap.size w (w.alloc (.cells (stCells S).toArray 33)) from bAlloc (Below.refl _ _) _)
  have hl0 : w.heap.size < (w.alloc (.cells (stCells S).toArray 33)).heap.size := by simp
  go_enter Tryz.func49, Tryz.ntmps49
  go_upto_region 3 with (first | (refine wpList_load_midG rfl 33 (.tmp 3) rfl w.heap.size 0 rfl (stCells S) _ (Blk.range HK0.out) Tryz.underlying33 rfl (by kernel_rfl) ?_) | (go_at_call 10; refine (HR.out _).mono ?_; rintro e w2 ⟨rfl, k2⟩; have HK2 := Lib.hid (HK0.out.on k2); have HB2 := Lib.hid (bTrans HB0.out k2); have hl2 := HK2.out.lt; clear k2))
  have HT2 : Hid ((w2.alloc (.cells (plCells (fun _ => 0)).toArray 27)).there w2.heap.size 0 (plCells (getP S i)).toArray.size) := Lib.hid (there_new _ _ _ rfl)
  go_upto_region 4 with (first | (refine wpList_load_mid rfl 27 (.tmp 37) rfl w.heap.size (4 + i * 10) rfl (plCells (getP S i)) _ (pl_range HK2.out hi) Tryz.underlying27 rfl (by kernel_rfl) ?_) | (refine wpList_store_mid rfl 27 (.tmp 7) (.tmp 38) rfl w2.heap.size 0 (plCells (getP S i)).toArray rfl rfl HT2.out (by kernel_rfl) (all_oneCell_toArray (pl_one _)) ?_))
  refine named_put (F := fun W => Code.wp _ _ _ _ W) (by rw [Array.length_toList, List.size_toArray, plCells_length]; rfl) ?_
  intro w3 hk3 hb3 hz3
  rw [Array.toArray_toList] at hk3
  have HK3 := Lib.hid (HK2.out.on hb3)
  have HG3 := Lib.hid hk3
  have HB3 := Lib.hid (bTrans HB2.out hb3)
  have hgs := HK2.out.lt
  have hl3 := hk3.lt
  clear HT2 hk3 hb3 hz3 HK0 HB0 HK2 HB2 hl0 hl2
  have c8 := pl_cell HG3.out 8 (by decide) (k := .i64) rfl
  go_wp2_with fail
  go_ret
  exact ⟨rfl, HB3.out⟩
def szZ (c : Int) : Int := if c < 0 then -c else c
theorem aims_sz (d c : Int) (hd : F32 d) (hc : F32 c) (h : 0 < d) : decide (szZ c ≤ d / 16) = aimsB d c := by
  unfold F32 at hd hc
  unfold aimsB szZ sat
  rw [decide_eq_true h, Bool.true_and]
  refine decide_eq_decide.2 ?_
  split <;> omega
theorem rsight_x (i : Nat) (hi : i < 2) (hf : FitS S) (w : World) : Calls Tryz.prog 98 #[.agg (stCells S).toArray, .int .i64 i] w fun e w' => e = .returned (.tuple #[.int .i32 (dotZ S i), .int .i32 (crossZ S i)]) ∧ Below w.heap.size w w' := by
  have : i = 0 ∨ i = 1 := by omega
  rcases this with rfl | rfl
  · exact rsight_0 S hf w
  · exact rsight_1 S hf w
theorem szZ_bd (c : Int) (hc : F32 c) : 0 ≤ szZ c ∧ szZ c ≤ 2147483648 := by
  unfold F32 at hc; unfold szZ; split <;> omega
def ifI (b : Bool) (x : Int) : Int := if b then x else 0
theorem turn_yes {d c : Int} (h : aimsB d c = true) : turnZ d c = 0 := by unfold turnZ; rw [if_pos h]
theorem turn_neg {d c : Int} (h : aimsB d c = false) (h1 : c < 0) : turnZ d c = 1 := by unfold turnZ; rw [if_neg (by simp [h]), if_pos h1]
theorem turn_pos {d c : Int} (h : aimsB d c = false) (h1 : 0 < c) : turnZ d c = 2 := by unfold turnZ; rw [if_neg (by simp [h]), if_neg (by omega), if_pos (.inl h1)]
theorem turn_far {d c : Int} (h : aimsB d c = false) (h1 : c = 0) (h2 : d ≤ 0) : turnZ d c = 2 := by unfold turnZ; rw [if_neg (by simp [h]), if_neg (by omega), if_pos (.inr h2)]
theorem turn_mid {d c : Int} (h : aimsB d c = false) (h1 : c = 0) (h2 : ¬ d ≤ 0) : turnZ d c = 0 := by unfold turnZ; rw [if_neg (by simp [h]), if_neg (by omega), if_neg (by omega)]
theorem press_sum (S : Nat → Int) (i k : Nat) : pressTo S i (k + 1) = turnZ (dotZ S i) (crossZ S i) + (if 1 ≤ k then driveZ S i else 0) + (if 2 ≤ k then fireZ S i (dotZ S i) (crossZ S i) else 0) + (if 3 ≤ k then dashZ S i else 0) := by
  unfold pressTo
  rw [if_pos (by omega)]
  congr 1
  · congr 1
    · congr 1
      by_cases h : 1 ≤ k
      · rw [if_pos h, if_pos (by omega)]
      · rw [if_neg h, if_neg (by omega)]
    · by_cases h : 2 ≤ k
      · rw [if_pos h, if_pos (by omega)]
      · rw [if_neg h, if_neg (by omega)]
  · by_cases h : 3 ≤ k
    · rw [if_pos h, if_pos (by omega)]
    · rw [if_neg h, if_neg (by omega)]
def valT (v : Value) : Told := ⟨fun u => u = v, fun _ _ => True⟩
theorem valT_st {v : Value} : ∀ u W U, (valT v).R u W → Grown W U → (valT v).R u U := fun _ _ _ _ _ => trivial
theorem valT_of {f : FuncId} {args : Array Value} {v : Value} {W : World} (h : Calls Tryz.prog f args W fun e w' => e = .returned v ∧ Below W.heap.size W w') : Calls Tryz.prog f args W fun e w' => ∃ u, e = .returned u ∧ ((valT v).S u ∧ (valT v).R u w') ∧ Grown W w' :=
  h.mono fun _ _ ⟨he, hb⟩ => ⟨v, he, ⟨rfl, trivial⟩, hb⟩
def newT (w : World) (T : TypeId) (cs : Array Value) : Told := ⟨fun v => ∃ g, v = .pointer (some ⟨g, 0, none⟩), fun v W => ∀ g, v = .pointer (some ⟨g, 0, none⟩) → w.heap.size ≤ g ∧ Blk W g T cs⟩
theorem newT_st {w : World} {T : TypeId} {cs : Array Value} : ∀ v W U, (newT w T cs).R v W → Grown W U → (newT w T cs).R v U := fun _ _ _ h k g hg => ⟨(h g hg).1, (h g hg).2.on k⟩
theorem newT_makes {P : Program} {w : World} {a : Act} {o : Oper} {T : TypeId} {z : Value} {cs : Array Value} (ho : o.op = .alloc T) (hz : ∀ W, (zeroValue T).run P W = .ok z W) (hc : z.cells = cs) : Makes P w o (newT w T cs).S (newT w T cs).R a := fun W hW => by
  have hr : (execOp a.eval o).run P W = .ok (.value (.pointer (some ⟨W.heap.size, 0, none⟩))) (W.alloc (.cells cs T)) := by
    unfold execOp
    simp only [ho, Instr.alloc, Sem.run_bind, hz, Result.andThen_ok, newVar, newRow, newObj, hc]
    rfl
  unfold Oper.goes
  rw [hr]
  refine ⟨⟨⟨_, rfl⟩, fun g hg => ?_⟩, bAlloc (Below.refl _ _) _⟩
  simp only [Value.pointer.injEq, Option.some.injEq, Addr.mk.injEq, and_true] at hg
  subst hg
  exact ⟨Below.size hW, Blk.new _ _ _⟩
theorem zero_vec (W : World) : (zeroValue 25).run Tryz.prog W = .ok (.agg #[.int .i32 0, .int .i32 0]) W := by kernel_rfl
set_option maxHeartbeats 16000000 in
theorem rpress_0 (hk : k ≤ 3) (hf : FitS S) (hr : rightS S = true) (hd : getP S 0 8 ≤ 0) : Calls Tryz.prog 49 #[.agg (stCells S).toArray, .int .i64 0, .int .i64 k] w fun e w' => e = .returned (.int .u8 (pressTo S 0 (k + 1))) ∧ Below w.heap.size w w' := by
  have hi : 0 < 2 := by decide
  have HR := Lib.hid (rright S hr)
  have g3 : decide (3 < (k : Int)) = false := decide_eq_false (by omega)
  have HSI := Lib.hid (fun W => rsight_x S 0 hi hf W)
  obtain ⟨d, hdd⟩ : ∃ d, dotZ S 0 = d := ⟨_, rfl⟩
  obtain ⟨c, hcc⟩ : ∃ c, crossZ S 0 = c := ⟨_, rfl⟩
  have fd : F32 d := by rw [← hdd]; exact sat_bd _
  have fc : F32 c := by rw [← hcc]; exact sat_bd _
  have HFC := Lib.hid fc
  have HFD := Lib.hid fd
  have HLS := Lib.hid (fun W => r10Less_any (hf.f32 14 (by decide) rfl) (hf.f32 15 (by decide) rfl) (hf.f32 4 (by decide) rfl) (hf.f32 5 (by decide) rfl) W)
  have hdz : psub (S 14) (S 4) = dxZ S 0 := rfl
  have hdy : psub (S 15) (S 5) = dyZ S 0 := rfl
  rw [hdz, hdy] at HLS
  have HSF : Hid (0 ≤ S 0 ∧ S 0 ≤ 1073741824) := Lib.hid (rightS_iff0 S hr)
  have HU : Hid (U32 (S 1)) := Lib.hid hf.u32
  have HPS : Hid (pressTo S 0 (k + 1) = turnZ d c + (if 1 ≤ k then driveZ S 0 else 0) + (if 2 ≤ k then fireZ S 0 d c else 0) + (if 3 ≤ k then dashZ S 0 else 0)) := Lib.hid (by rw [press_sum, hdd, hcc])
  have HNF : Hid (∀ W, Calls Tryz.prog 99 #[.int .i32 (dxZ S 0), .int .i32 (dyZ S 0)] W fun e w' => e = .returned (.int .i32 (norm (dxZ S 0) (dyZ S 0))) ∧ W = w') := Lib.hid (fun W => r02Length_any (sat_bd _) (sat_bd _) W)
  rw [hdd, hcc] at HSI
  obtain ⟨dx, hdx⟩ : ∃ dx, dxZ S 0 = dx := ⟨_, rfl⟩
  obtain ⟨dy, hdy2⟩ : ∃ dy, dyZ S 0 = dy := ⟨_, rfl⟩
  rw [hdx, hdy2] at HLS HNF
  have HDR : Hid (driveZ S 0 = if 1310720 < norm dx dy then 4 else 8) := Lib.hid (by unfold driveZ; rw [hdx, hdy2])
  clear hr hdd hcc hdz hdy fd fc hdx hdy2 hf
  have HK0 := Lib.hid (show Blk (w.alloc (.cells (stCells S).toArray 33)) w.heap.size 33 (stCells S).toArray from Blk.new _ _ _)
  have HB0 := Lib.hid (show Below w.heap.size w (w.alloc (.cells (stCells S).toArray 33)) from bAlloc (Below.refl _ _) _)
  have hl0 : w.heap.size < (w.alloc (.cells (stCells S).toArray 33)).heap.size := by simp
  go_enter Tryz.func49, Tryz.ntmps49
  go_upto_region 3 with (first | (refine wpList_load_midG rfl 33 (.tmp 3) rfl w.heap.size 0 rfl (stCells S) _ (Blk.range HK0.out) Tryz.underlying33 rfl (by kernel_rfl) ?_) | (go_at_call 10; refine (HR.out _).mono ?_; rintro e w2 ⟨rfl, k2⟩; have HK2 := Lib.hid (HK0.out.on k2); have HB2 := Lib.hid (bTrans HB0.out k2); have hl2 := HK2.out.lt; clear k2))
  have HT2 : Hid ((w2.alloc (.cells (plCells (fun _ => 0)).toArray 27)).there w2.heap.size 0 (plCells (getP S 0)).toArray.size) := Lib.hid (there_new _ _ _ rfl)
  go_upto_region 4 with (first | (refine wpList_load_mid rfl 27 (.tmp 37) rfl w.heap.size (4 + 0 * 10) rfl (plCells (getP S 0)) _ (pl_range HK2.out hi) Tryz.underlying27 rfl (by kernel_rfl) ?_) | (refine wpList_store_mid rfl 27 (.tmp 7) (.tmp 38) rfl w2.heap.size 0 (plCells (getP S 0)).toArray rfl rfl HT2.out (by kernel_rfl) (all_oneCell_toArray (pl_one _)) ?_))
  refine named_put (F := fun W => Code.wp _ _ _ _ W) (by rw [Array.length_toList, List.size_toArray, plCells_length]; rfl) ?_
  intro w3 hk3 hb3 hz3
  rw [Array.toArray_toList] at hk3
  have HK3 := Lib.hid (HK2.out.on hb3)
  have HG3 := Lib.hid hk3
  have HB3 := Lib.hid (bTrans HB2.out hb3)
  have hgs := HK2.out.lt
  have hl3 := hk3.lt
  clear HT2 hk3 hb3 hz3 HK0 HB0 HK2 HB2 hl0 hl2
  have c8 := pl_cell HG3.out 8 (by decide) (k := .i64) rfl
  go_upto_region 7 with (first
    | (refine wpList_load_mid rfl 33 (.tmp 3) rfl w.heap.size 0 rfl (stCells S) _ (Blk.range HK3.out) Tryz.underlying33 rfl (by kernel_rfl) ?_)
    | (go_at_call 98; refine (HSI.out _).mono ?_; rintro e w4 ⟨rfl, k4⟩; have HK4 := Lib.hid (HK3.out.on k4); have HG4 := Lib.hid (HG3.out.on k4); have HB4 := Lib.hid (bTrans HB3.out k4); clear k4))
  obtain ⟨c1, c2⟩ := HFC.out
  go_upto_if 51 with fail
  go_cut [10] (fun v wx => v = .int .i64 (szZ c) ∧ w4 = wx)
  case first =>
    by_cases h : c < 0
    · have HE := Lib.hid (show szZ c = -c by unfold szZ; rw [if_pos h])
      go_wp2_with fail
      go_meet
      rw [HE.out]
      exact ⟨rfl, rfl⟩
    · have HE := Lib.hid (show szZ c = c by unfold szZ; rw [if_neg h])
      have h' : decide (c < 0) = false := decide_eq_false h
      go_wp2_with fail
      go_meet
      rw [HE.out]
      exact ⟨rfl, rfl⟩
  case rest =>
  obtain ⟨rfl, rfl⟩ := hcut
  obtain ⟨s1, s2⟩ := szZ_bd c HFC.out
  have HAS := Lib.hid (aims_sz d c HFD.out HFC.out)
  obtain ⟨sz, hsz⟩ : ∃ sz, szZ c = sz := ⟨_, rfl⟩
  rw [hsz] at s1 s2 HAS ⊢
  clear hsz
  obtain ⟨wl, hwl⟩ : ∃ wl, aimsB d c = wl := ⟨_, rfl⟩
  rw [hwl] at HAS
  have HWL := Lib.hid hwl
  clear hwl
  go_upto_region 10 with fail
  go_cut [11] (fun v wx => v = .bool wl ∧ w4 = wx)
  case first =>
    by_cases h : 0 < d
    · have h1 := HAS.out h
      obtain ⟨d1, d2⟩ := HFD.out
      have HFL := Lib.hid (fun W => floor_any d 16 (by decide) (by decide) (by omega) W)
      go_wp2_with (first | (go_at_call 80; refine (HFL.out _).mono ?_; rintro e w5 ⟨rfl, rfl⟩))
      go_meet
      exact ⟨by first | rfl | rw [h1], rfl⟩
    · have HE := Lib.hid (show wl = false by rw [← HWL.out]; unfold aimsB; rw [decide_eq_false h]; rfl)
      have h' : decide (0 < d) = false := decide_eq_false h
      go_wp2_with fail
      go_meet
      rw [HE.out]
      exact ⟨rfl, rfl⟩
  case rest =>
  obtain ⟨rfl, rfl⟩ := hcut
  have ht0 := turn_yes (d := d) (c := c)
  have HT0 := Lib.hid ht0
  have HT1 := Lib.hid (fun h => turn_neg (d := d) (c := c) h)
  have HT2 := Lib.hid (fun h => turn_pos (d := d) (c := c) h)
  have HT3 := Lib.hid (fun h => turn_far (d := d) (c := c) h)
  have HT4 := Lib.hid (fun h => turn_mid (d := d) (c := c) h)
  rw [HWL.out] at HT0 HT1 HT2 HT3 HT4
  clear ht0 HAS s1 s2
  obtain ⟨q1, hq1⟩ : ∃ q1, (!wl && decide (c < 0)) = q1 := ⟨_, rfl⟩
  have HQ1 := Lib.hid hq1
  clear hq1
  go_upto_region 12 with fail
  go_cut [68] (fun v wx => v = .bool q1 ∧ w4 = wx)
  case first =>
    cases wl
    · have hq : decide (c < 0) = q1 := by rw [← HQ1.out]; rfl
      go_wp2_with fail
      go_meet
      exact ⟨by first | rfl | rw [hq], rfl⟩
    · have hq : q1 = false := by rw [← HQ1.out]; rfl
      go_wp2_with fail
      go_meet
      exact ⟨by rw [hq], rfl⟩
  case rest =>
  obtain ⟨rfl, rfl⟩ := hcut
  go_upto_if 68 with fail
  go_cut [12] (fun v wx => v = .int .i64 (ifI q1 1) ∧ w4 = wx)
  case first =>
    cases q1
    · go_wp2_with fail
      go_meet
      exact ⟨rfl, rfl⟩
    · go_wp2_with fail
      go_meet
      exact ⟨rfl, rfl⟩
  case rest =>
  obtain ⟨rfl, rfl⟩ := hcut
  obtain ⟨q2, hq2⟩ : ∃ q2, (!wl && (decide (0 < c) || (decide (c = 0) && decide (d ≤ 0)))) = q2 := ⟨_, rfl⟩
  have HQ2 := Lib.hid hq2
  clear hq2
  have HTZ : Hid (turnZ d c = ifI q1 1 + ifI q2 2) := Lib.hid (by
    rw [← HQ1.out, ← HQ2.out]
    cases wl
    · rcases Int.lt_trichotomy c 0 with h | h | h
      · rw [HT1.out rfl h, decide_eq_true h, decide_eq_false (show ¬ 0 < c by omega), decide_eq_false (show ¬ c = 0 by omega)]; rfl
      · by_cases h2 : d ≤ 0
        · rw [HT3.out rfl h h2, h, decide_eq_true h2]; rfl
        · rw [HT4.out rfl h h2, h, decide_eq_false h2]; rfl
      · rw [HT2.out rfl h, decide_eq_false (show ¬ c < 0 by omega), decide_eq_true h]; rfl
    · rw [HT0.out rfl]; rfl)
  clear HT0 HT1 HT2 HT3 HT4 HQ1
  obtain ⟨v1, hv1⟩ : ∃ v1, ifI q1 1 = v1 := ⟨_, rfl⟩
  have b1 : 0 ≤ v1 ∧ v1 ≤ 1 := by rw [← hv1]; unfold ifI; split <;> omega
  obtain ⟨b1a, b1b⟩ := b1
  rw [hv1] at HTZ ⊢
  clear hv1
  go_upto_region 14 with fail
  go_cut [84] (fun v wx => v = .bool q2 ∧ w4 = wx)
  case first =>
    cases wl
    · rcases Int.lt_trichotomy c 0 with h | h | h
      · have hq : q2 = false := by rw [← HQ2.out, decide_eq_false (show ¬ 0 < c by omega), decide_eq_false (show ¬ c = 0 by omega)]; rfl
        have g1 : decide (0 < c) = false := decide_eq_false (by omega)
        have g2 : (c == 0) = false := by simp; omega
        clear h
        go_wp2_with fail
        go_meet
        exact ⟨by rw [hq], rfl⟩
      · have hq : decide (d ≤ 0) = q2 := by rw [← HQ2.out, h]; rfl
        subst h
        go_wp2_with fail
        go_meet
        exact ⟨by first | rfl | rw [hq], rfl⟩
      · have hq : q2 = true := by rw [← HQ2.out, decide_eq_true h]; rfl
        go_wp2_with fail
        go_meet
        exact ⟨by rw [hq], rfl⟩
    · have hq : q2 = false := by rw [← HQ2.out]; rfl
      go_wp2_with fail
      go_meet
      exact ⟨by rw [hq], rfl⟩
  case rest =>
  obtain ⟨rfl, rfl⟩ := hcut
  go_upto_if 84 with fail
  go_cut [12] (fun v wx => v = .int .i64 (turnZ d c) ∧ w4 = wx)
  case first =>
    cases q2
    · go_wp2_with fail
      go_meet
      rw [HTZ.out]
      exact ⟨by show _ = Value.int .i64 (v1 + 0); rw [Int.add_zero], rfl⟩
    · go_wp2_with fail
      go_meet
      rw [HTZ.out]
      exact ⟨rfl, rfl⟩
  case rest =>
  obtain ⟨rfl, rfl⟩ := hcut
  have htv := turnZ_val d c
  clear HTZ HQ2 b1a b1b
  obtain ⟨tz, htz⟩ : ∃ tz, turnZ d c = tz := ⟨_, rfl⟩
  rw [htz] at htv HPS ⊢
  have bt : 0 ≤ tz ∧ tz ≤ 2 := by omega
  obtain ⟨bt1, bt2⟩ := bt
  clear htv htz
  have o0 : w4.cell? ⟨w.heap.size, 14, none⟩ = some (.int .i32 (S 14)) := st_cell HK4.out 14 (by decide)
  have o1 : w4.cell? ⟨w.heap.size, 15, none⟩ = some (.int .i32 (S 15)) := st_cell HK4.out 15 (by decide)
  have p0 : w4.cell? ⟨w2.heap.size, 0, none⟩ = some (.int .i32 (S 4)) := pl_cell HG4.out 0 (by decide) (k := .i32) rfl
  have p1 : w4.cell? ⟨w2.heap.size, 1, none⟩ = some (.int .i32 (S 5)) := pl_cell HG4.out 1 (by decide) (k := .i32) rfl
  have hls := HK4.out.lt
  have hlg := HG4.out.lt
  go_upto_region 16 with fail
  have hKp := Keeps.base w4
  refine wp_region_mixedT [.pure, .pure, .pure, .pure, .pure, .held, .pure, .held, .make, .make, .tail] (fun | 8 => valT (.agg #[.int .i32 dx, .int .i32 dy]) | _ => newT w4 25 #[.int .i32 0, .int .i32 0]) (by kernel_rfl) (by kernel_rfl) ?_
  repeat (first | (refine mix_pure rfl rfl rfl (fun K hK => ?_); go_big_quiet_op; refine hK _ ?_; clear hK K) | (refine mix_held rfl rfl rfl (by assumption) (fun K hK => ?_); go_big_quiet_op; refine hK _ ?_; clear hK K))
  refine mix_make rfl rfl (by assumption) valT_st (fun W hW => ?_) ?_
  · have HS2 := Lib.hid (valT_of (HLS.out W))
    go_simp
    exact HS2.out
  rintro _ rfl hKp2
  simp only [Act.put, List.setIfInBounds_toArray, List.set_cons_zero, List.set_cons_succ]
  refine mix_make rfl rfl (by assumption) newT_st (newT_makes rfl zero_vec rfl) ?_
  rintro v ⟨gv, rfl⟩ hKp3
  simp only [Act.put, List.setIfInBounds_toArray, List.set_cons_zero, List.set_cons_succ]
  refine mix_store rfl rfl 25 (.tmp 13) (.tmp 95) rfl gv 0 #[.int .i32 dx, .int .i32 dy] rfl rfl (fun W hW => ?_) (by kernel_rfl) (by simp [Value.oneCell']) ?_
  · have := (hW.2 gv rfl).2
    exact Blk.there this (by show 0 + 2 ≤ 2; decide)
  simp only [Act.put, List.setIfInBounds_toArray, List.set_cons_zero, List.set_cons_succ]
  repeat (first | (refine mix_pure rfl rfl rfl (fun K hK => ?_); go_big_quiet_op; refine hK _ ?_; clear hK K) | (refine mix_held rfl rfl rfl (by assumption) (fun K hK => ?_); go_big_quiet_op; refine hK _ ?_; clear hK K))
  refine mix_nil ?_
  rintro W' ⟨W, ⟨⟨hg, -⟩, hR2⟩, rfl⟩
  obtain ⟨hge, hBg⟩ := hR2 gv rfl
  have hBg' := hBg.whole [.int .i32 dx, .int .i32 dy] rfl
  have hS5 := (HK4.out.on hg).farC (show w.heap.size ≠ gv by omega) 0 [.int .i32 dx, .int .i32 dy]
  have hG5 := (HG4.out.on hg).farC (show w2.heap.size ≠ gv by omega) 0 [.int .i32 dx, .int .i32 dy]
  have hB5 := bSetCells (bTrans HB4.out hg) (show w.heap.size ≤ gv by omega) 0 [.int .i32 dx, .int .i32 dy]
  obtain ⟨w5, hw5⟩ : ∃ w5, W.setCells gv 0 [.int .i32 dx, .int .i32 dy] = w5 := ⟨_, rfl⟩
  rw [hw5] at hBg' hS5 hG5 hB5
  first | rw [hw5] | rw [show (#[.int .i32 dx, .int .i32 dy] : Array Value).toList = [.int .i32 dx, .int .i32 dy] from rfl, hw5]
  have HV5 := Lib.hid hBg'
  have HS5 := Lib.hid hS5
  have HG5 := Lib.hid hG5
  have HB5 := Lib.hid hB5
  clear hw5 hBg hBg' hS5 hG5 hB5 hR2 hg hge hKp hKp2 hKp3 o0 o1 p0 p1 hls hlg HK4 HG4 HB4 HLS
  go_upto_if 97 with fail
  go_cut [12] (fun v wx => v = .int .i64 (tz + (if 1 ≤ k then driveZ S 0 else 0)) ∧ w5 = wx)
  case first =>
    by_cases h1 : 1 ≤ k
    · have x0 : w5.cell? ⟨gv, 0, none⟩ = some (.int .i32 dx) := HV5.out.cell 0
      have x1 : w5.cell? ⟨gv, 1, none⟩ = some (.int .i32 dy) := HV5.out.cell 1
      have hlv := HV5.out.lt
      obtain ⟨nm, hnm⟩ : ∃ nm, norm dx dy = nm := ⟨_, rfl⟩
      rw [hnm] at HNF HDR
      clear hnm
      by_cases h2 : 1310720 < nm
      · have HD4 : Hid (tz + (if 1 ≤ k then driveZ S 0 else 0) = tz + 4) := Lib.hid (by rw [if_pos h1, HDR.out, if_pos h2])
        go_wp2_with (first | (go_at_call 99; refine (HNF.out _).mono ?_; rintro e w6 ⟨rfl, rfl⟩))
        go_meet
        rw [HD4.out]
        exact ⟨rfl, rfl⟩
      · have h2' : decide (1310720 < nm) = false := decide_eq_false h2
        have HD4 : Hid (tz + (if 1 ≤ k then driveZ S 0 else 0) = tz + 8) := Lib.hid (by rw [if_pos h1, HDR.out, if_neg h2])
        go_wp2_with (first | (go_at_call 99; refine (HNF.out _).mono ?_; rintro e w6 ⟨rfl, rfl⟩))
        go_meet
        rw [HD4.out]
        exact ⟨rfl, rfl⟩
    · have h1' : decide ((1 : Int) ≤ (k : Int)) = false := decide_eq_false (by omega)
      have HD4 : Hid (tz + (if 1 ≤ k then driveZ S 0 else 0) = tz) := Lib.hid (by rw [if_neg h1, Int.add_zero])
      go_wp2_with fail
      go_meet
      rw [HD4.out]
      exact ⟨rfl, rfl⟩
  case rest =>
  obtain ⟨rfl, rfl⟩ := hcut
  have hdv := driveZ_val S 0
  have bv : 0 ≤ tz + (if 1 ≤ k then driveZ S 0 else 0) ∧ tz + (if 1 ≤ k then driveZ S 0 else 0) ≤ 10 := by split <;> omega
  obtain ⟨v2, hv2⟩ : ∃ v2, tz + (if 1 ≤ k then driveZ S 0 else 0) = v2 := ⟨_, rfl⟩
  rw [hv2] at bv HPS ⊢
  obtain ⟨bv1, bv2⟩ := bv
  clear hv2 hdv HDR HNF bt1 bt2 HV5
  obtain ⟨cl, hcl⟩ : ∃ cl, getP S 0 6 = cl := ⟨_, rfl⟩
  have y6 := pl_cell HG5.out 6 (by decide) (k := .i64) rfl
  rw [hcl] at y6
  have hlg := HG5.out.lt
  obtain ⟨q3, hq3⟩ : ∃ q3, (decide (2 ≤ k) && (wl && decide (cl ≤ 1))) = q3 := ⟨_, rfl⟩
  have HFI : Hid ((if 2 ≤ k then fireZ S 0 d c else 0) = ifI q3 16) := Lib.hid (by
    rw [← hq3, ← hcl, ← HWL.out]
    unfold fireZ ifI
    by_cases h2 : 2 ≤ k
    · rw [if_pos h2, decide_eq_true h2, Bool.true_and]
    · rw [if_neg h2, decide_eq_false h2]; rfl)
  have HQ3 := Lib.hid hq3
  clear hq3 hcl
  go_upto_region 21 with fail
  go_cut [117] (fun v wx => v = .bool q3 ∧ w5 = wx)
  case first =>
    by_cases h2 : 2 ≤ k
    · cases wl
      · have hq : q3 = false := by rw [← HQ3.out]; simp
        go_wp2_with fail
        go_meet
        exact ⟨by rw [hq], rfl⟩
      · have hq : decide (cl ≤ 1) = q3 := by rw [← HQ3.out, decide_eq_true h2]; simp
        go_wp2_with fail
        go_meet
        exact ⟨by first | rfl | rw [hq], rfl⟩
    · have h2' : decide ((2 : Int) ≤ (k : Int)) = false := decide_eq_false (by omega)
      have hq : q3 = false := by rw [← HQ3.out, decide_eq_false h2]; rfl
      go_wp2_with fail
      go_meet
      exact ⟨by rw [hq], rfl⟩
  case rest =>
  obtain ⟨rfl, rfl⟩ := hcut
  clear y6 HQ3
  go_upto_if 117 with fail
  go_cut [12] (fun v wx => v = .int .i64 (v2 + ifI q3 16) ∧ w5 = wx)
  case first =>
    cases q3
    · go_wp2_with fail
      go_meet
      exact ⟨by show _ = Value.int .i64 (v2 + 0); rw [Int.add_zero], rfl⟩
    · go_wp2_with fail
      go_meet
      exact ⟨rfl, rfl⟩
  case rest =>
  obtain ⟨rfl, rfl⟩ := hcut
  rw [HFI.out] at HPS
  have bi : 0 ≤ ifI q3 16 ∧ ifI q3 16 ≤ 16 := by unfold ifI; split <;> omega
  obtain ⟨v3, hv3⟩ : ∃ v3, v2 + ifI q3 16 = v3 := ⟨_, rfl⟩
  have bv3 : 0 ≤ v3 ∧ v3 ≤ 26 := by omega
  rw [hv3] at HPS ⊢
  obtain ⟨bv3a, bv3b⟩ := bv3
  clear hv3 bi bv1 bv2 HFI
  obtain ⟨f0, hf0⟩ : ∃ f0, S 0 = f0 := ⟨_, rfl⟩
  obtain ⟨f1, hf1⟩ : ∃ f1, S 1 = f1 := ⟨_, rfl⟩
  have x0 : w5.cell? ⟨w.heap.size, 0, none⟩ = some (.int .i64 f0) := by rw [← hf0]; exact st_cell HS5.out 0 (by decide)
  have x1 : w5.cell? ⟨w.heap.size, 1, none⟩ = some (.int .u32 f1) := by rw [← hf1]; exact st_cell HS5.out 1 (by decide)
  rw [hf0] at HSF
  rw [hf1] at HU
  obtain ⟨bf1, bf2⟩ := HSF.out
  have hlS := HS5.out.lt
  obtain ⟨wd, hwd⟩ : ∃ wd, getP S 0 7 = wd := ⟨_, rfl⟩
  obtain ⟨sd, hsd⟩ : ∃ sd, seedZ f1 f0 = sd := ⟨_, rfl⟩
  have HSD : Hid (∀ W, Calls Tryz.prog 21 #[.int .u32 f1, .int .u32 f0] W fun e w' => e = .returned (.int .u32 sd) ∧ W = w') := Lib.hid (fun W => by rw [← hsd]; exact r09Seed_any f1 f0 W HU.out (by unfold U32; omega))
  have hus : U32 sd := by rw [← hsd]; exact seedZ_bd _ _
  obtain ⟨nx, hnx⟩ : ∃ nx, nextZ sd = nx := ⟨_, rfl⟩
  obtain ⟨nn, hnn⟩ : ∃ nn, throwZ sd 8 = nn := ⟨_, rfl⟩
  have HTW : Hid (∀ W, Calls Tryz.prog 70 #[.int .u32 sd, .int .i64 8] W fun e w' => e = .returned (.tuple #[.int .u32 nx, .int .i64 nn]) ∧ W = w') := Lib.hid (fun W => by rw [← hnx, ← hnn]; exact r09Throw_any sd 8 W hus (by decide) (by decide))
  obtain ⟨q4, hq4⟩ : ∃ q4, (decide (3 ≤ k) && (decide (wd ≤ 1) && (nn == 0))) = q4 := ⟨_, rfl⟩
  have HDA : Hid ((if 3 ≤ k then dashZ S 0 else 0) = ifI q4 32) := Lib.hid (by
    rw [← hq4, ← hwd, ← hnn, ← hsd, ← hf0, ← hf1]
    unfold dashZ ifI
    by_cases h2 : 3 ≤ k
    · rw [if_pos h2, decide_eq_true h2, Bool.true_and]; rfl
    · rw [if_neg h2, decide_eq_false h2]; rfl)
  have HQ4 := Lib.hid hq4
  rw [HDA.out] at HPS
  have y7 := pl_cell HG5.out 7 (by decide) (k := .i64) rfl
  rw [hwd] at y7
  clear hq4 hwd hsd hus hnx hnn hf0 hf1 HDA HSF
  go_upto_region 24 with (first
    | (go_at_call 21; refine (HSD.out _).mono ?_; rintro e w6 ⟨rfl, rfl⟩)
    | (go_at_call 70; refine (HTW.out _).mono ?_; rintro e w6 ⟨rfl, rfl⟩))
  clear x0 x1 bf1 bf2
  go_cut [141] (fun v wx => v = .bool q4 ∧ w5 = wx)
  case first =>
    by_cases h3 : 3 ≤ k
    · obtain rfl : k = 3 := by omega
      by_cases h4 : wd ≤ 1
      · have hq : (nn == 0) = q4 := by rw [← HQ4.out, decide_eq_true h4]; simp
        go_wp2_with fail
        go_meet
        exact ⟨by first | rfl | rw [hq], rfl⟩
      · have h4' : decide (wd ≤ 1) = false := decide_eq_false h4
        have hq : q4 = false := by rw [← HQ4.out, h4']; simp
        go_wp2_with fail
        go_meet
        exact ⟨by rw [hq], rfl⟩
    · have h3' : ((k : Int) == 3) = false := by simp; omega
      have hq : q4 = false := by rw [← HQ4.out, decide_eq_false h3]; rfl
      go_wp2_with fail
      go_meet
      exact ⟨by rw [hq], rfl⟩
  case rest =>
  obtain ⟨rfl, rfl⟩ := hcut
  cases q4
  · go_wp2_with fail
    go_ret
    exact ⟨ret_int (by rw [HPS.out]; exact (Int.add_zero v3).symm), HB5.out⟩
  · go_wp2_with fail
    go_ret
    exact ⟨ret_int HPS.out.symm, HB5.out⟩
set_option maxHeartbeats 16000000 in
theorem rpress_1 (hk : k ≤ 3) (hf : FitS S) (hr : rightS S = true) (hd : getP S 1 8 ≤ 0) : Calls Tryz.prog 49 #[.agg (stCells S).toArray, .int .i64 1, .int .i64 k] w fun e w' => e = .returned (.int .u8 (pressTo S 1 (k + 1))) ∧ Below w.heap.size w w' := by
  have hi : 1 < 2 := by decide
  have HR := Lib.hid (rright S hr)
  have g3 : decide (3 < (k : Int)) = false := decide_eq_false (by omega)
  have HSI := Lib.hid (fun W => rsight_x S 1 hi hf W)
  obtain ⟨d, hdd⟩ : ∃ d, dotZ S 1 = d := ⟨_, rfl⟩
  obtain ⟨c, hcc⟩ : ∃ c, crossZ S 1 = c := ⟨_, rfl⟩
  have fd : F32 d := by rw [← hdd]; exact sat_bd _
  have fc : F32 c := by rw [← hcc]; exact sat_bd _
  have HFC := Lib.hid fc
  have HFD := Lib.hid fd
  have HLS := Lib.hid (fun W => r10Less_any (hf.f32 4 (by decide) rfl) (hf.f32 5 (by decide) rfl) (hf.f32 14 (by decide) rfl) (hf.f32 15 (by decide) rfl) W)
  have hdz : psub (S 4) (S 14) = dxZ S 1 := rfl
  have hdy : psub (S 5) (S 15) = dyZ S 1 := rfl
  rw [hdz, hdy] at HLS
  have HSF : Hid (0 ≤ S 0 ∧ S 0 ≤ 1073741824) := Lib.hid (rightS_iff0 S hr)
  have HU : Hid (U32 (S 1)) := Lib.hid hf.u32
  have HPS : Hid (pressTo S 1 (k + 1) = turnZ d c + (if 1 ≤ k then driveZ S 1 else 0) + (if 2 ≤ k then fireZ S 1 d c else 0) + (if 3 ≤ k then dashZ S 1 else 0)) := Lib.hid (by rw [press_sum, hdd, hcc])
  have HNF : Hid (∀ W, Calls Tryz.prog 99 #[.int .i32 (dxZ S 1), .int .i32 (dyZ S 1)] W fun e w' => e = .returned (.int .i32 (norm (dxZ S 1) (dyZ S 1))) ∧ W = w') := Lib.hid (fun W => r02Length_any (sat_bd _) (sat_bd _) W)
  rw [hdd, hcc] at HSI
  obtain ⟨dx, hdx⟩ : ∃ dx, dxZ S 1 = dx := ⟨_, rfl⟩
  obtain ⟨dy, hdy2⟩ : ∃ dy, dyZ S 1 = dy := ⟨_, rfl⟩
  rw [hdx, hdy2] at HLS HNF
  have HDR : Hid (driveZ S 1 = if 1310720 < norm dx dy then 4 else 8) := Lib.hid (by unfold driveZ; rw [hdx, hdy2])
  clear hr hdd hcc hdz hdy fd fc hdx hdy2 hf
  have HK0 := Lib.hid (show Blk (w.alloc (.cells (stCells S).toArray 33)) w.heap.size 33 (stCells S).toArray from Blk.new _ _ _)
  have HB0 := Lib.hid (show Below w.heap.size w (w.alloc (.cells (stCells S).toArray 33)) from bAlloc (Below.refl _ _) _)
  have hl0 : w.heap.size < (w.alloc (.cells (stCells S).toArray 33)).heap.size := by simp
  go_enter Tryz.func49, Tryz.ntmps49
  go_upto_region 3 with (first | (refine wpList_load_midG rfl 33 (.tmp 3) rfl w.heap.size 0 rfl (stCells S) _ (Blk.range HK0.out) Tryz.underlying33 rfl (by kernel_rfl) ?_) | (go_at_call 10; refine (HR.out _).mono ?_; rintro e w2 ⟨rfl, k2⟩; have HK2 := Lib.hid (HK0.out.on k2); have HB2 := Lib.hid (bTrans HB0.out k2); have hl2 := HK2.out.lt; clear k2))
  have HT2 : Hid ((w2.alloc (.cells (plCells (fun _ => 0)).toArray 27)).there w2.heap.size 0 (plCells (getP S 1)).toArray.size) := Lib.hid (there_new _ _ _ rfl)
  go_upto_region 4 with (first | (refine wpList_load_mid rfl 27 (.tmp 37) rfl w.heap.size (4 + 1 * 10) rfl (plCells (getP S 1)) _ (pl_range HK2.out hi) Tryz.underlying27 rfl (by kernel_rfl) ?_) | (refine wpList_store_mid rfl 27 (.tmp 7) (.tmp 38) rfl w2.heap.size 0 (plCells (getP S 1)).toArray rfl rfl HT2.out (by kernel_rfl) (all_oneCell_toArray (pl_one _)) ?_))
  refine named_put (F := fun W => Code.wp _ _ _ _ W) (by rw [Array.length_toList, List.size_toArray, plCells_length]; rfl) ?_
  intro w3 hk3 hb3 hz3
  rw [Array.toArray_toList] at hk3
  have HK3 := Lib.hid (HK2.out.on hb3)
  have HG3 := Lib.hid hk3
  have HB3 := Lib.hid (bTrans HB2.out hb3)
  have hgs := HK2.out.lt
  have hl3 := hk3.lt
  clear HT2 hk3 hb3 hz3 HK0 HB0 HK2 HB2 hl0 hl2
  have c8 := pl_cell HG3.out 8 (by decide) (k := .i64) rfl
  go_upto_region 7 with (first
    | (refine wpList_load_mid rfl 33 (.tmp 3) rfl w.heap.size 0 rfl (stCells S) _ (Blk.range HK3.out) Tryz.underlying33 rfl (by kernel_rfl) ?_)
    | (go_at_call 98; refine (HSI.out _).mono ?_; rintro e w4 ⟨rfl, k4⟩; have HK4 := Lib.hid (HK3.out.on k4); have HG4 := Lib.hid (HG3.out.on k4); have HB4 := Lib.hid (bTrans HB3.out k4); clear k4))
  obtain ⟨c1, c2⟩ := HFC.out
  go_upto_if 51 with fail
  go_cut [10] (fun v wx => v = .int .i64 (szZ c) ∧ w4 = wx)
  case first =>
    by_cases h : c < 0
    · have HE := Lib.hid (show szZ c = -c by unfold szZ; rw [if_pos h])
      go_wp2_with fail
      go_meet
      rw [HE.out]
      exact ⟨rfl, rfl⟩
    · have HE := Lib.hid (show szZ c = c by unfold szZ; rw [if_neg h])
      have h' : decide (c < 0) = false := decide_eq_false h
      go_wp2_with fail
      go_meet
      rw [HE.out]
      exact ⟨rfl, rfl⟩
  case rest =>
  obtain ⟨rfl, rfl⟩ := hcut
  obtain ⟨s1, s2⟩ := szZ_bd c HFC.out
  have HAS := Lib.hid (aims_sz d c HFD.out HFC.out)
  obtain ⟨sz, hsz⟩ : ∃ sz, szZ c = sz := ⟨_, rfl⟩
  rw [hsz] at s1 s2 HAS ⊢
  clear hsz
  obtain ⟨wl, hwl⟩ : ∃ wl, aimsB d c = wl := ⟨_, rfl⟩
  rw [hwl] at HAS
  have HWL := Lib.hid hwl
  clear hwl
  go_upto_region 10 with fail
  go_cut [11] (fun v wx => v = .bool wl ∧ w4 = wx)
  case first =>
    by_cases h : 0 < d
    · have h1 := HAS.out h
      obtain ⟨d1, d2⟩ := HFD.out
      have HFL := Lib.hid (fun W => floor_any d 16 (by decide) (by decide) (by omega) W)
      go_wp2_with (first | (go_at_call 80; refine (HFL.out _).mono ?_; rintro e w5 ⟨rfl, rfl⟩))
      go_meet
      exact ⟨by first | rfl | rw [h1], rfl⟩
    · have HE := Lib.hid (show wl = false by rw [← HWL.out]; unfold aimsB; rw [decide_eq_false h]; rfl)
      have h' : decide (0 < d) = false := decide_eq_false h
      go_wp2_with fail
      go_meet
      rw [HE.out]
      exact ⟨rfl, rfl⟩
  case rest =>
  obtain ⟨rfl, rfl⟩ := hcut
  have ht0 := turn_yes (d := d) (c := c)
  have HT0 := Lib.hid ht0
  have HT1 := Lib.hid (fun h => turn_neg (d := d) (c := c) h)
  have HT2 := Lib.hid (fun h => turn_pos (d := d) (c := c) h)
  have HT3 := Lib.hid (fun h => turn_far (d := d) (c := c) h)
  have HT4 := Lib.hid (fun h => turn_mid (d := d) (c := c) h)
  rw [HWL.out] at HT0 HT1 HT2 HT3 HT4
  clear ht0 HAS s1 s2
  obtain ⟨q1, hq1⟩ : ∃ q1, (!wl && decide (c < 0)) = q1 := ⟨_, rfl⟩
  have HQ1 := Lib.hid hq1
  clear hq1
  go_upto_region 12 with fail
  go_cut [68] (fun v wx => v = .bool q1 ∧ w4 = wx)
  case first =>
    cases wl
    · have hq : decide (c < 0) = q1 := by rw [← HQ1.out]; rfl
      go_wp2_with fail
      go_meet
      exact ⟨by first | rfl | rw [hq], rfl⟩
    · have hq : q1 = false := by rw [← HQ1.out]; rfl
      go_wp2_with fail
      go_meet
      exact ⟨by rw [hq], rfl⟩
  case rest =>
  obtain ⟨rfl, rfl⟩ := hcut
  go_upto_if 68 with fail
  go_cut [12] (fun v wx => v = .int .i64 (ifI q1 1) ∧ w4 = wx)
  case first =>
    cases q1
    · go_wp2_with fail
      go_meet
      exact ⟨rfl, rfl⟩
    · go_wp2_with fail
      go_meet
      exact ⟨rfl, rfl⟩
  case rest =>
  obtain ⟨rfl, rfl⟩ := hcut
  obtain ⟨q2, hq2⟩ : ∃ q2, (!wl && (decide (0 < c) || (decide (c = 0) && decide (d ≤ 0)))) = q2 := ⟨_, rfl⟩
  have HQ2 := Lib.hid hq2
  clear hq2
  have HTZ : Hid (turnZ d c = ifI q1 1 + ifI q2 2) := Lib.hid (by
    rw [← HQ1.out, ← HQ2.out]
    cases wl
    · rcases Int.lt_trichotomy c 0 with h | h | h
      · rw [HT1.out rfl h, decide_eq_true h, decide_eq_false (show ¬ 0 < c by omega), decide_eq_false (show ¬ c = 0 by omega)]; rfl
      · by_cases h2 : d ≤ 0
        · rw [HT3.out rfl h h2, h, decide_eq_true h2]; rfl
        · rw [HT4.out rfl h h2, h, decide_eq_false h2]; rfl
      · rw [HT2.out rfl h, decide_eq_false (show ¬ c < 0 by omega), decide_eq_true h]; rfl
    · rw [HT0.out rfl]; rfl)
  clear HT0 HT1 HT2 HT3 HT4 HQ1
  obtain ⟨v1, hv1⟩ : ∃ v1, ifI q1 1 = v1 := ⟨_, rfl⟩
  have b1 : 0 ≤ v1 ∧ v1 ≤ 1 := by rw [← hv1]; unfold ifI; split <;> omega
  obtain ⟨b1a, b1b⟩ := b1
  rw [hv1] at HTZ ⊢
  clear hv1
  go_upto_region 14 with fail
  go_cut [84] (fun v wx => v = .bool q2 ∧ w4 = wx)
  case first =>
    cases wl
    · rcases Int.lt_trichotomy c 0 with h | h | h
      · have hq : q2 = false := by rw [← HQ2.out, decide_eq_false (show ¬ 0 < c by omega), decide_eq_false (show ¬ c = 0 by omega)]; rfl
        have g1 : decide (0 < c) = false := decide_eq_false (by omega)
        have g2 : (c == 0) = false := by simp; omega
        clear h
        go_wp2_with fail
        go_meet
        exact ⟨by rw [hq], rfl⟩
      · have hq : decide (d ≤ 0) = q2 := by rw [← HQ2.out, h]; rfl
        subst h
        go_wp2_with fail
        go_meet
        exact ⟨by first | rfl | rw [hq], rfl⟩
      · have hq : q2 = true := by rw [← HQ2.out, decide_eq_true h]; rfl
        go_wp2_with fail
        go_meet
        exact ⟨by rw [hq], rfl⟩
    · have hq : q2 = false := by rw [← HQ2.out]; rfl
      go_wp2_with fail
      go_meet
      exact ⟨by rw [hq], rfl⟩
  case rest =>
  obtain ⟨rfl, rfl⟩ := hcut
  go_upto_if 84 with fail
  go_cut [12] (fun v wx => v = .int .i64 (turnZ d c) ∧ w4 = wx)
  case first =>
    cases q2
    · go_wp2_with fail
      go_meet
      rw [HTZ.out]
      exact ⟨by show _ = Value.int .i64 (v1 + 0); rw [Int.add_zero], rfl⟩
    · go_wp2_with fail
      go_meet
      rw [HTZ.out]
      exact ⟨rfl, rfl⟩
  case rest =>
  obtain ⟨rfl, rfl⟩ := hcut
  have htv := turnZ_val d c
  clear HTZ HQ2 b1a b1b
  obtain ⟨tz, htz⟩ : ∃ tz, turnZ d c = tz := ⟨_, rfl⟩
  rw [htz] at htv HPS ⊢
  have bt : 0 ≤ tz ∧ tz ≤ 2 := by omega
  obtain ⟨bt1, bt2⟩ := bt
  clear htv htz
  have o0 : w4.cell? ⟨w.heap.size, 4, none⟩ = some (.int .i32 (S 4)) := st_cell HK4.out 4 (by decide)
  have o1 : w4.cell? ⟨w.heap.size, 5, none⟩ = some (.int .i32 (S 5)) := st_cell HK4.out 5 (by decide)
  have p0 : w4.cell? ⟨w2.heap.size, 0, none⟩ = some (.int .i32 (S 14)) := pl_cell HG4.out 0 (by decide) (k := .i32) rfl
  have p1 : w4.cell? ⟨w2.heap.size, 1, none⟩ = some (.int .i32 (S 15)) := pl_cell HG4.out 1 (by decide) (k := .i32) rfl
  have hls := HK4.out.lt
  have hlg := HG4.out.lt
  go_upto_region 16 with fail
  have hKp := Keeps.base w4
  refine wp_region_mixedT [.pure, .pure, .pure, .pure, .pure, .held, .pure, .held, .make, .make, .tail] (fun | 8 => valT (.agg #[.int .i32 dx, .int .i32 dy]) | _ => newT w4 25 #[.int .i32 0, .int .i32 0]) (by kernel_rfl) (by kernel_rfl) ?_
  repeat (first | (refine mix_pure rfl rfl rfl (fun K hK => ?_); go_big_quiet_op; refine hK _ ?_; clear hK K) | (refine mix_held rfl rfl rfl (by assumption) (fun K hK => ?_); go_big_quiet_op; refine hK _ ?_; clear hK K))
  refine mix_make rfl rfl (by assumption) valT_st (fun W hW => ?_) ?_
  · have HS2 := Lib.hid (valT_of (HLS.out W))
    go_simp
    exact HS2.out
  rintro _ rfl hKp2
  simp only [Act.put, List.setIfInBounds_toArray, List.set_cons_zero, List.set_cons_succ]
  refine mix_make rfl rfl (by assumption) newT_st (newT_makes rfl zero_vec rfl) ?_
  rintro v ⟨gv, rfl⟩ hKp3
  simp only [Act.put, List.setIfInBounds_toArray, List.set_cons_zero, List.set_cons_succ]
  refine mix_store rfl rfl 25 (.tmp 13) (.tmp 95) rfl gv 0 #[.int .i32 dx, .int .i32 dy] rfl rfl (fun W hW => ?_) (by kernel_rfl) (by simp [Value.oneCell']) ?_
  · have := (hW.2 gv rfl).2
    exact Blk.there this (by show 0 + 2 ≤ 2; decide)
  simp only [Act.put, List.setIfInBounds_toArray, List.set_cons_zero, List.set_cons_succ]
  repeat (first | (refine mix_pure rfl rfl rfl (fun K hK => ?_); go_big_quiet_op; refine hK _ ?_; clear hK K) | (refine mix_held rfl rfl rfl (by assumption) (fun K hK => ?_); go_big_quiet_op; refine hK _ ?_; clear hK K))
  refine mix_nil ?_
  rintro W' ⟨W, ⟨⟨hg, -⟩, hR2⟩, rfl⟩
  obtain ⟨hge, hBg⟩ := hR2 gv rfl
  have hBg' := hBg.whole [.int .i32 dx, .int .i32 dy] rfl
  have hS5 := (HK4.out.on hg).farC (show w.heap.size ≠ gv by omega) 0 [.int .i32 dx, .int .i32 dy]
  have hG5 := (HG4.out.on hg).farC (show w2.heap.size ≠ gv by omega) 0 [.int .i32 dx, .int .i32 dy]
  have hB5 := bSetCells (bTrans HB4.out hg) (show w.heap.size ≤ gv by omega) 0 [.int .i32 dx, .int .i32 dy]
  obtain ⟨w5, hw5⟩ : ∃ w5, W.setCells gv 0 [.int .i32 dx, .int .i32 dy] = w5 := ⟨_, rfl⟩
  rw [hw5] at hBg' hS5 hG5 hB5
  first | rw [hw5] | rw [show (#[.int .i32 dx, .int .i32 dy] : Array Value).toList = [.int .i32 dx, .int .i32 dy] from rfl, hw5]
  have HV5 := Lib.hid hBg'
  have HS5 := Lib.hid hS5
  have HG5 := Lib.hid hG5
  have HB5 := Lib.hid hB5
  clear hw5 hBg hBg' hS5 hG5 hB5 hR2 hg hge hKp hKp2 hKp3 o0 o1 p0 p1 hls hlg HK4 HG4 HB4 HLS
  go_upto_if 97 with fail
  go_cut [12] (fun v wx => v = .int .i64 (tz + (if 1 ≤ k then driveZ S 1 else 0)) ∧ w5 = wx)
  case first =>
    by_cases h1 : 1 ≤ k
    · have x0 : w5.cell? ⟨gv, 0, none⟩ = some (.int .i32 dx) := HV5.out.cell 0
      have x1 : w5.cell? ⟨gv, 1, none⟩ = some (.int .i32 dy) := HV5.out.cell 1
      have hlv := HV5.out.lt
      obtain ⟨nm, hnm⟩ : ∃ nm, norm dx dy = nm := ⟨_, rfl⟩
      rw [hnm] at HNF HDR
      clear hnm
      by_cases h2 : 1310720 < nm
      · have HD4 : Hid (tz + (if 1 ≤ k then driveZ S 1 else 0) = tz + 4) := Lib.hid (by rw [if_pos h1, HDR.out, if_pos h2])
        go_wp2_with (first | (go_at_call 99; refine (HNF.out _).mono ?_; rintro e w6 ⟨rfl, rfl⟩))
        go_meet
        rw [HD4.out]
        exact ⟨rfl, rfl⟩
      · have h2' : decide (1310720 < nm) = false := decide_eq_false h2
        have HD4 : Hid (tz + (if 1 ≤ k then driveZ S 1 else 0) = tz + 8) := Lib.hid (by rw [if_pos h1, HDR.out, if_neg h2])
        go_wp2_with (first | (go_at_call 99; refine (HNF.out _).mono ?_; rintro e w6 ⟨rfl, rfl⟩))
        go_meet
        rw [HD4.out]
        exact ⟨rfl, rfl⟩
    · have h1' : decide ((1 : Int) ≤ (k : Int)) = false := decide_eq_false (by omega)
      have HD4 : Hid (tz + (if 1 ≤ k then driveZ S 1 else 0) = tz) := Lib.hid (by rw [if_neg h1, Int.add_zero])
      go_wp2_with fail
      go_meet
      rw [HD4.out]
      exact ⟨rfl, rfl⟩
  case rest =>
  obtain ⟨rfl, rfl⟩ := hcut
  have hdv := driveZ_val S 1
  have bv : 0 ≤ tz + (if 1 ≤ k then driveZ S 1 else 0) ∧ tz + (if 1 ≤ k then driveZ S 1 else 0) ≤ 10 := by split <;> omega
  obtain ⟨v2, hv2⟩ : ∃ v2, tz + (if 1 ≤ k then driveZ S 1 else 0) = v2 := ⟨_, rfl⟩
  rw [hv2] at bv HPS ⊢
  obtain ⟨bv1, bv2⟩ := bv
  clear hv2 hdv HDR HNF bt1 bt2 HV5
  obtain ⟨cl, hcl⟩ : ∃ cl, getP S 1 6 = cl := ⟨_, rfl⟩
  have y6 := pl_cell HG5.out 6 (by decide) (k := .i64) rfl
  rw [hcl] at y6
  have hlg := HG5.out.lt
  obtain ⟨q3, hq3⟩ : ∃ q3, (decide (2 ≤ k) && (wl && decide (cl ≤ 1))) = q3 := ⟨_, rfl⟩
  have HFI : Hid ((if 2 ≤ k then fireZ S 1 d c else 0) = ifI q3 16) := Lib.hid (by
    rw [← hq3, ← hcl, ← HWL.out]
    unfold fireZ ifI
    by_cases h2 : 2 ≤ k
    · rw [if_pos h2, decide_eq_true h2, Bool.true_and]
    · rw [if_neg h2, decide_eq_false h2]; rfl)
  have HQ3 := Lib.hid hq3
  clear hq3 hcl
  go_upto_region 21 with fail
  go_cut [117] (fun v wx => v = .bool q3 ∧ w5 = wx)
  case first =>
    by_cases h2 : 2 ≤ k
    · cases wl
      · have hq : q3 = false := by rw [← HQ3.out]; simp
        go_wp2_with fail
        go_meet
        exact ⟨by rw [hq], rfl⟩
      · have hq : decide (cl ≤ 1) = q3 := by rw [← HQ3.out, decide_eq_true h2]; simp
        go_wp2_with fail
        go_meet
        exact ⟨by first | rfl | rw [hq], rfl⟩
    · have h2' : decide ((2 : Int) ≤ (k : Int)) = false := decide_eq_false (by omega)
      have hq : q3 = false := by rw [← HQ3.out, decide_eq_false h2]; rfl
      go_wp2_with fail
      go_meet
      exact ⟨by rw [hq], rfl⟩
  case rest =>
  obtain ⟨rfl, rfl⟩ := hcut
  clear y6 HQ3
  go_upto_if 117 with fail
  go_cut [12] (fun v wx => v = .int .i64 (v2 + ifI q3 16) ∧ w5 = wx)
  case first =>
    cases q3
    · go_wp2_with fail
      go_meet
      exact ⟨by show _ = Value.int .i64 (v2 + 0); rw [Int.add_zero], rfl⟩
    · go_wp2_with fail
      go_meet
      exact ⟨rfl, rfl⟩
  case rest =>
  obtain ⟨rfl, rfl⟩ := hcut
  rw [HFI.out] at HPS
  have bi : 0 ≤ ifI q3 16 ∧ ifI q3 16 ≤ 16 := by unfold ifI; split <;> omega
  obtain ⟨v3, hv3⟩ : ∃ v3, v2 + ifI q3 16 = v3 := ⟨_, rfl⟩
  have bv3 : 0 ≤ v3 ∧ v3 ≤ 26 := by omega
  rw [hv3] at HPS ⊢
  obtain ⟨bv3a, bv3b⟩ := bv3
  clear hv3 bi bv1 bv2 HFI
  obtain ⟨f0, hf0⟩ : ∃ f0, S 0 = f0 := ⟨_, rfl⟩
  obtain ⟨f1, hf1⟩ : ∃ f1, S 1 = f1 := ⟨_, rfl⟩
  have x0 : w5.cell? ⟨w.heap.size, 0, none⟩ = some (.int .i64 f0) := by rw [← hf0]; exact st_cell HS5.out 0 (by decide)
  have x1 : w5.cell? ⟨w.heap.size, 1, none⟩ = some (.int .u32 f1) := by rw [← hf1]; exact st_cell HS5.out 1 (by decide)
  rw [hf0] at HSF
  rw [hf1] at HU
  obtain ⟨bf1, bf2⟩ := HSF.out
  have hlS := HS5.out.lt
  obtain ⟨wd, hwd⟩ : ∃ wd, getP S 1 7 = wd := ⟨_, rfl⟩
  obtain ⟨sd, hsd⟩ : ∃ sd, seedZ f1 f0 = sd := ⟨_, rfl⟩
  have HSD : Hid (∀ W, Calls Tryz.prog 21 #[.int .u32 f1, .int .u32 f0] W fun e w' => e = .returned (.int .u32 sd) ∧ W = w') := Lib.hid (fun W => by rw [← hsd]; exact r09Seed_any f1 f0 W HU.out (by unfold U32; omega))
  have hus : U32 sd := by rw [← hsd]; exact seedZ_bd _ _
  obtain ⟨nx, hnx⟩ : ∃ nx, nextZ sd = nx := ⟨_, rfl⟩
  obtain ⟨nn, hnn⟩ : ∃ nn, throwZ sd 8 = nn := ⟨_, rfl⟩
  have HTW : Hid (∀ W, Calls Tryz.prog 70 #[.int .u32 sd, .int .i64 8] W fun e w' => e = .returned (.tuple #[.int .u32 nx, .int .i64 nn]) ∧ W = w') := Lib.hid (fun W => by rw [← hnx, ← hnn]; exact r09Throw_any sd 8 W hus (by decide) (by decide))
  obtain ⟨q4, hq4⟩ : ∃ q4, (decide (3 ≤ k) && (decide (wd ≤ 1) && (nn == 1))) = q4 := ⟨_, rfl⟩
  have HDA : Hid ((if 3 ≤ k then dashZ S 1 else 0) = ifI q4 32) := Lib.hid (by
    rw [← hq4, ← hwd, ← hnn, ← hsd, ← hf0, ← hf1]
    unfold dashZ ifI
    by_cases h2 : 3 ≤ k
    · rw [if_pos h2, decide_eq_true h2, Bool.true_and]; rfl
    · rw [if_neg h2, decide_eq_false h2]; rfl)
  have HQ4 := Lib.hid hq4
  rw [HDA.out] at HPS
  have y7 := pl_cell HG5.out 7 (by decide) (k := .i64) rfl
  rw [hwd] at y7
  clear hq4 hwd hsd hus hnx hnn hf0 hf1 HDA HSF
  go_upto_region 24 with (first
    | (go_at_call 21; refine (HSD.out _).mono ?_; rintro e w6 ⟨rfl, rfl⟩)
    | (go_at_call 70; refine (HTW.out _).mono ?_; rintro e w6 ⟨rfl, rfl⟩))
  clear x0 x1 bf1 bf2
  go_cut [141] (fun v wx => v = .bool q4 ∧ w5 = wx)
  case first =>
    by_cases h3 : 3 ≤ k
    · obtain rfl : k = 3 := by omega
      by_cases h4 : wd ≤ 1
      · have hq : (nn == 1) = q4 := by rw [← HQ4.out, decide_eq_true h4]; simp
        go_wp2_with fail
        go_meet
        exact ⟨by first | rfl | rw [hq], rfl⟩
      · have h4' : decide (wd ≤ 1) = false := decide_eq_false h4
        have hq : q4 = false := by rw [← HQ4.out, h4']; simp
        go_wp2_with fail
        go_meet
        exact ⟨by rw [hq], rfl⟩
    · have h3' : ((k : Int) == 3) = false := by simp; omega
      have hq : q4 = false := by rw [← HQ4.out, decide_eq_false h3]; rfl
      go_wp2_with fail
      go_meet
      exact ⟨by rw [hq], rfl⟩
  case rest =>
  obtain ⟨rfl, rfl⟩ := hcut
  cases q4
  · go_wp2_with fail
    go_ret
    exact ⟨ret_int (by rw [HPS.out]; exact (Int.add_zero v3).symm), HB5.out⟩
  · go_wp2_with fail
    go_ret
    exact ⟨ret_int HPS.out.symm, HB5.out⟩
end
/-- What the document's bot presses. -/
theorem rpress_ok (S : Nat → Int) (who skill : Int) (w : World) (hf : FitS S) (hr : rightS S = true) (hw : 0 ≤ who ∧ who ≤ 1) (hs : 0 ≤ skill ∧ skill ≤ 3) : Calls Tryz.prog 49 #[.agg (stCells S).toArray, .int .i64 who, .int .i64 skill] w fun e w' => e = .returned (.int .u8 (pressZ S who skill)) ∧ Below w.heap.size w w' := by
  obtain ⟨h0, h1⟩ := hw
  obtain ⟨h2, h3⟩ := hs
  obtain ⟨i, rfl⟩ := Int.eq_ofNat_of_zero_le h0
  obtain ⟨k, rfl⟩ := Int.eq_ofNat_of_zero_le h2
  have hi : i < 2 := by omega
  have hk : k ≤ 3 := by omega
  have b0 : inB (i : Int) 0 1 = true := inB_ok ⟨h0, h1⟩
  have b1 : inB (k : Int) 0 3 = true := inB_ok ⟨h2, h3⟩
  unfold pressZ
  rw [b0, b1, hr, Int.toNat_natCast, Int.toNat_natCast]
  by_cases hd : 0 < S (4 + i * 10 + 8)
  · have e : downB S i = true := decide_eq_true hd
    rw [e]
    exact rpress_down S k w i hi hk hr hd
  · have e : downB S i = false := decide_eq_false hd
    rw [e]
    have hi2 : i = 0 ∨ i = 1 := by omega
    rcases hi2 with rfl | rfl
    · exact rpress_0 S k w hk hf hr (by show S (4 + 0 * 10 + 8) ≤ 0; omega)
    · exact rpress_1 S k w hk hf hr (by show S (4 + 1 * 10 + 8) ≤ 0; omega)
end Go.Proofs.YtnaclkaapicelaaGreat
