/-
  The walk of a step that can not be.
-/
import Derived.Test.YtibeihcpehikoaaGreatMq33
namespace Go.Proofs.YtibeihcpehikoaaGreat
open Go.RowKit
set_option maxRecDepth 100000
def zeroT : Nat → Int := fun _ => 0
theorem built_zero : Tryz.prog.built 41 [] = some (stCells zeroT).toArray := by kernel_rfl
theorem u8_gt' {n : Nat} (h : 64 ≤ n) : decide ((63 : Int) < (n : Int)) = true := decide_eq_true (by omega)
section
variable {S : Nat → Int} {n0 n1 : Nat} {w : World}
set_option maxHeartbeats 4000000 in
theorem gStep_a (CZ : Array Value) (HCZ : Hid ((stCells zeroT).toArray = CZ)) (hr : rightS S = false) : Calls Tryz.prog 55 #[.agg (stCells S).toArray, .agg #[.int .u8 n0, .int .u8 n1]] w fun e w' => e = .returned (.tuple #[.agg CZ, .slice none 0 0, .int .i64 1]) ∧ Below w.heap.size w w' := by
  have HR := Lib.hid (fun W => (gRight_any S W).mono fun e w' ⟨he, hb⟩ => (⟨by rw [he, hr], hb⟩ : e = Ending.returned (.bool false) ∧ Below W.heap.size W w'))
  clear hr
  go_enter Tryz.func55, Tryz.ntmps55
  go_upto_region 1 with fail
  refine named3 (F := fun W => Code.wp _ _ _ _ W) ?_
  intro w1 k0 k1 k2 hb1 hz1
  have HK0 := Lib.hid k0
  have HK1 := Lib.hid k1
  have HK2 := Lib.hid k2
  have HB1 := Lib.hid hb1
  clear k0 k1 k2 hb1 hz1
  go_upto_region 2 with (first | (refine wpList_load_mid rfl 41 (.tmp 2) rfl w.heap.size 0 rfl (stCells S) _ (Blk.range HK0.out) Tryz.underlying41 rfl (by kernel_rfl) ?_) | (go_at_call 119; refine (HR.out _).mono ?_; rintro e w2 ⟨rfl, hb2⟩; have HB2 := Lib.hid hb2; have HK12 := (HK1.out.on hb2); have i0 := HK12.cell 0; have i1 := HK12.cell 1; simp only [List.getElem?_toArray, List.getElem?_cons_zero, List.getElem?_cons_succ] at i0 i1; clear HK12))
  clear i0 i1
  have HK22 := Lib.hid (HK2.out.on HB2.out)
  have HTH : Hid (w2.there (w.heap.size + 1 + 1) 0 (stCells zeroT).toArray.size) := Lib.hid (by rw [show (stCells zeroT).toArray.size = 60 from by rw [List.size_toArray, stCells_length]]; exact Blk.there HK22.out (by decide))
  have hrg := World.rangeAt_setCells_same w2 (w.heap.size + 1 + 1) 0 (stCells zeroT) (by have := HTH.out; rwa [List.size_toArray] at this)
  have HRES := Lib.hid (run_loadVar_mid (P := Tryz.prog) _ _ _ 41 (stCells zeroT) _ hrg Tryz.underlying41 rfl (by kernel_rfl))
  have HBZ := Lib.hid (bSetCells (bTrans HB1.out HB2.out) (show w.heap.size ≤ w.heap.size + 1 + 1 by omega) 0 (stCells zeroT))
  have hcz := HCZ.out
  have hbz := built_zero
  rw [hcz] at hbz HRES HTH
  have HBT := Lib.hid hbz
  have h1c : CZ.all (·.oneCell') = true := by rw [← hcz]; exact all_oneCell_toArray (int_one zeroT)
  have H1C := Lib.hid h1c
  have HSZ : Hid ((Tryz.prog.info? 41).map (·.size) = some CZ.size) := Lib.hid (by rw [← hcz, show (stCells zeroT).toArray.size = 60 from by rw [List.size_toArray, stCells_length]]; kernel_rfl)
  obtain ⟨Wz, hWz⟩ : ∃ Wz, w2.setCells (w.heap.size + 1 + 1) 0 (stCells zeroT) = Wz := ⟨_, rfl⟩
  have hWz2 : w2.setCells (w.heap.size + 1 + 1) 0 CZ.toList = Wz := by rw [← hcz]; exact hWz
  rw [hWz] at HBZ HRES
  have HWZ := Lib.hid hWz2
  clear hrg hbz hcz h1c hWz hWz2
  go_wp2_with (first | (refine wpList_built rfl 41 [] rfl CZ [] rfl HBT.out ?_) | (refine wpList_store_mid rfl 41 (.tmp 4) (.tmp 27) rfl (w.heap.size + 1 + 1) 0 CZ rfl rfl HTH.out HSZ.out H1C.out ?_; rw [HWZ.out]))
  have hres := HRES.out
  refine bodyPost_ret (results_c2 (a := 4) (t := 41) (x := 5) (y := 6) rfl rfl hres) rfl ⟨rfl, HBZ.out⟩
set_option maxHeartbeats 4000000 in
theorem gStep_b (CZ : Array Value) (HCZ : Hid ((stCells zeroT).toArray = CZ)) (hr : rightS S = true) (h0 : 64 ≤ n0) : Calls Tryz.prog 55 #[.agg (stCells S).toArray, .agg #[.int .u8 n0, .int .u8 n1]] w fun e w' => e = .returned (.tuple #[.agg CZ, .slice none 0 0, .int .i64 1]) ∧ Below w.heap.size w w' := by
  have HR := Lib.hid (fun W => (gRight_any S W).mono fun e w' ⟨he, hb⟩ => (⟨by rw [he, hr], hb⟩ : e = Ending.returned (.bool true) ∧ Below W.heap.size W w'))
  have g0 := u8_gt' h0
  clear hr h0
  go_enter Tryz.func55, Tryz.ntmps55
  go_upto_region 1 with fail
  refine named3 (F := fun W => Code.wp _ _ _ _ W) ?_
  intro w1 k0 k1 k2 hb1 hz1
  have HK0 := Lib.hid k0
  have HK1 := Lib.hid k1
  have HK2 := Lib.hid k2
  have HB1 := Lib.hid hb1
  clear k0 k1 k2 hb1 hz1
  go_upto_region 2 with (first | (refine wpList_load_mid rfl 41 (.tmp 2) rfl w.heap.size 0 rfl (stCells S) _ (Blk.range HK0.out) Tryz.underlying41 rfl (by kernel_rfl) ?_) | (go_at_call 119; refine (HR.out _).mono ?_; rintro e w2 ⟨rfl, hb2⟩; have HB2 := Lib.hid hb2; have HK12 := (HK1.out.on hb2); have i0 := HK12.cell 0; have i1 := HK12.cell 1; simp only [List.getElem?_toArray, List.getElem?_cons_zero, List.getElem?_cons_succ] at i0 i1; clear HK12))
  clear i0 i1
  have HK22 := Lib.hid (HK2.out.on HB2.out)
  have HTH : Hid (w2.there (w.heap.size + 1 + 1) 0 (stCells zeroT).toArray.size) := Lib.hid (by rw [show (stCells zeroT).toArray.size = 60 from by rw [List.size_toArray, stCells_length]]; exact Blk.there HK22.out (by decide))
  have hrg := World.rangeAt_setCells_same w2 (w.heap.size + 1 + 1) 0 (stCells zeroT) (by have := HTH.out; rwa [List.size_toArray] at this)
  have HRES := Lib.hid (run_loadVar_mid (P := Tryz.prog) _ _ _ 41 (stCells zeroT) _ hrg Tryz.underlying41 rfl (by kernel_rfl))
  have HBZ := Lib.hid (bSetCells (bTrans HB1.out HB2.out) (show w.heap.size ≤ w.heap.size + 1 + 1 by omega) 0 (stCells zeroT))
  have hcz := HCZ.out
  have hbz := built_zero
  rw [hcz] at hbz HRES HTH
  have HBT := Lib.hid hbz
  have h1c : CZ.all (·.oneCell') = true := by rw [← hcz]; exact all_oneCell_toArray (int_one zeroT)
  have H1C := Lib.hid h1c
  have HSZ : Hid ((Tryz.prog.info? 41).map (·.size) = some CZ.size) := Lib.hid (by rw [← hcz, show (stCells zeroT).toArray.size = 60 from by rw [List.size_toArray, stCells_length]]; kernel_rfl)
  obtain ⟨Wz, hWz⟩ : ∃ Wz, w2.setCells (w.heap.size + 1 + 1) 0 (stCells zeroT) = Wz := ⟨_, rfl⟩
  have hWz2 : w2.setCells (w.heap.size + 1 + 1) 0 CZ.toList = Wz := by rw [← hcz]; exact hWz
  rw [hWz] at HBZ HRES
  have HWZ := Lib.hid hWz2
  clear hrg hbz hcz h1c hWz hWz2
  go_wp2_with (first | (refine wpList_built rfl 41 [] rfl CZ [] rfl HBT.out ?_) | (refine wpList_store_mid rfl 41 (.tmp 4) (.tmp 27) rfl (w.heap.size + 1 + 1) 0 CZ rfl rfl HTH.out HSZ.out H1C.out ?_; rw [HWZ.out]))
  have hres := HRES.out
  refine bodyPost_ret (results_c2 (a := 4) (t := 41) (x := 5) (y := 6) rfl rfl hres) rfl ⟨rfl, HBZ.out⟩
set_option maxHeartbeats 4000000 in
theorem gStep_c (CZ : Array Value) (HCZ : Hid ((stCells zeroT).toArray = CZ)) (hr : rightS S = true) (h0 : n0 < 64) (h1 : 64 ≤ n1) : Calls Tryz.prog 55 #[.agg (stCells S).toArray, .agg #[.int .u8 n0, .int .u8 n1]] w fun e w' => e = .returned (.tuple #[.agg CZ, .slice none 0 0, .int .i64 1]) ∧ Below w.heap.size w w' := by
  have HR := Lib.hid (fun W => (gRight_any S W).mono fun e w' ⟨he, hb⟩ => (⟨by rw [he, hr], hb⟩ : e = Ending.returned (.bool true) ∧ Below W.heap.size W w'))
  have g0 := u8_gt h0
  have g1 := u8_gt' h1
  clear hr h0 h1
  go_enter Tryz.func55, Tryz.ntmps55
  go_upto_region 1 with fail
  refine named3 (F := fun W => Code.wp _ _ _ _ W) ?_
  intro w1 k0 k1 k2 hb1 hz1
  have HK0 := Lib.hid k0
  have HK1 := Lib.hid k1
  have HK2 := Lib.hid k2
  have HB1 := Lib.hid hb1
  clear k0 k1 k2 hb1 hz1
  go_upto_region 2 with (first | (refine wpList_load_mid rfl 41 (.tmp 2) rfl w.heap.size 0 rfl (stCells S) _ (Blk.range HK0.out) Tryz.underlying41 rfl (by kernel_rfl) ?_) | (go_at_call 119; refine (HR.out _).mono ?_; rintro e w2 ⟨rfl, hb2⟩; have HB2 := Lib.hid hb2; have HK12 := (HK1.out.on hb2); have i0 := HK12.cell 0; have i1 := HK12.cell 1; simp only [List.getElem?_toArray, List.getElem?_cons_zero, List.getElem?_cons_succ] at i0 i1; clear HK12))
  clear i0 i1
  have HK22 := Lib.hid (HK2.out.on HB2.out)
  have HTH : Hid (w2.there (w.heap.size + 1 + 1) 0 (stCells zeroT).toArray.size) := Lib.hid (by rw [show (stCells zeroT).toArray.size = 60 from by rw [List.size_toArray, stCells_length]]; exact Blk.there HK22.out (by decide))
  have hrg := World.rangeAt_setCells_same w2 (w.heap.size + 1 + 1) 0 (stCells zeroT) (by have := HTH.out; rwa [List.size_toArray] at this)
  have HRES := Lib.hid (run_loadVar_mid (P := Tryz.prog) _ _ _ 41 (stCells zeroT) _ hrg Tryz.underlying41 rfl (by kernel_rfl))
  have HBZ := Lib.hid (bSetCells (bTrans HB1.out HB2.out) (show w.heap.size ≤ w.heap.size + 1 + 1 by omega) 0 (stCells zeroT))
  have hcz := HCZ.out
  have hbz := built_zero
  rw [hcz] at hbz HRES HTH
  have HBT := Lib.hid hbz
  have h1c : CZ.all (·.oneCell') = true := by rw [← hcz]; exact all_oneCell_toArray (int_one zeroT)
  have H1C := Lib.hid h1c
  have HSZ : Hid ((Tryz.prog.info? 41).map (·.size) = some CZ.size) := Lib.hid (by rw [← hcz, show (stCells zeroT).toArray.size = 60 from by rw [List.size_toArray, stCells_length]]; kernel_rfl)
  obtain ⟨Wz, hWz⟩ : ∃ Wz, w2.setCells (w.heap.size + 1 + 1) 0 (stCells zeroT) = Wz := ⟨_, rfl⟩
  have hWz2 : w2.setCells (w.heap.size + 1 + 1) 0 CZ.toList = Wz := by rw [← hcz]; exact hWz
  rw [hWz] at HBZ HRES
  have HWZ := Lib.hid hWz2
  clear hrg hbz hcz h1c hWz hWz2
  go_wp2_with (first | (refine wpList_built rfl 41 [] rfl CZ [] rfl HBT.out ?_) | (refine wpList_store_mid rfl 41 (.tmp 4) (.tmp 27) rfl (w.heap.size + 1 + 1) 0 CZ rfl rfl HTH.out HSZ.out H1C.out ?_; rw [HWZ.out]))
  have hres := HRES.out
  refine bodyPost_ret (results_c2 (a := 4) (t := 41) (x := 5) (y := 6) rfl rfl hres) rfl ⟨rfl, HBZ.out⟩
set_option maxHeartbeats 4000000 in
theorem gStep_d (CZ : Array Value) (HCZ : Hid ((stCells zeroT).toArray = CZ)) (hr : rightS S = true) (h0 : n0 < 64) (h1 : n1 < 64) (hF : S 0 = 1073741824) : Calls Tryz.prog 55 #[.agg (stCells S).toArray, .agg #[.int .u8 n0, .int .u8 n1]] w fun e w' => e = .returned (.tuple #[.agg CZ, .slice none 0 0, .int .i64 5]) ∧ Below w.heap.size w w' := by
  have HR := Lib.hid (fun W => (gRight_any S W).mono fun e w' ⟨he, hb⟩ => (⟨by rw [he, hr], hb⟩ : e = Ending.returned (.bool true) ∧ Below W.heap.size W w'))
  have g0 := u8_gt h0
  have g1 := u8_gt h1
  have hne : (S 0 == 1073741824) = true := by simpa using hF
  clear hr h0 h1 hF
  go_enter Tryz.func55, Tryz.ntmps55
  go_upto_region 1 with fail
  refine named3 (F := fun W => Code.wp _ _ _ _ W) ?_
  intro w1 k0 k1 k2 hb1 hz1
  have HK0 := Lib.hid k0
  have HK1 := Lib.hid k1
  have HK2 := Lib.hid k2
  have HB1 := Lib.hid hb1
  clear k0 k1 k2 hb1 hz1
  go_upto_region 3 with (first | (refine wpList_load_mid rfl 41 (.tmp 2) rfl w.heap.size 0 rfl (stCells S) _ (Blk.range HK0.out) Tryz.underlying41 rfl (by kernel_rfl) ?_) | (go_at_call 119; refine (HR.out _).mono ?_; rintro e w2 ⟨rfl, hb2⟩; have HB2 := Lib.hid hb2; have HK12 := (HK1.out.on hb2); have i0 := HK12.cell 0; have i1 := HK12.cell 1; simp only [List.getElem?_toArray, List.getElem?_cons_zero, List.getElem?_cons_succ] at i0 i1; clear HK12))
  have HK02 := Lib.hid (HK0.out.on HB2.out)
  have e0 : w2.cell? ⟨w.heap.size, 0, none⟩ = some (.int .i64 (S 0)) := st_cell HK02.out 0 (by decide)
  clear i0 i1
  go_upto_region 4 with fail
  clear e0 hne
  have HK22 := Lib.hid (HK2.out.on HB2.out)
  have HTH : Hid (w2.there (w.heap.size + 1 + 1) 0 (stCells zeroT).toArray.size) := Lib.hid (by rw [show (stCells zeroT).toArray.size = 60 from by rw [List.size_toArray, stCells_length]]; exact Blk.there HK22.out (by decide))
  have hrg := World.rangeAt_setCells_same w2 (w.heap.size + 1 + 1) 0 (stCells zeroT) (by have := HTH.out; rwa [List.size_toArray] at this)
  have HRES := Lib.hid (run_loadVar_mid (P := Tryz.prog) _ _ _ 41 (stCells zeroT) _ hrg Tryz.underlying41 rfl (by kernel_rfl))
  have HBZ := Lib.hid (bSetCells (bTrans HB1.out HB2.out) (show w.heap.size ≤ w.heap.size + 1 + 1 by omega) 0 (stCells zeroT))
  have hcz := HCZ.out
  have hbz := built_zero
  rw [hcz] at hbz HRES HTH
  have HBT := Lib.hid hbz
  have h1c : CZ.all (·.oneCell') = true := by rw [← hcz]; exact all_oneCell_toArray (int_one zeroT)
  have H1C := Lib.hid h1c
  have HSZ : Hid ((Tryz.prog.info? 41).map (·.size) = some CZ.size) := Lib.hid (by rw [← hcz, show (stCells zeroT).toArray.size = 60 from by rw [List.size_toArray, stCells_length]]; kernel_rfl)
  obtain ⟨Wz, hWz⟩ : ∃ Wz, w2.setCells (w.heap.size + 1 + 1) 0 (stCells zeroT) = Wz := ⟨_, rfl⟩
  have hWz2 : w2.setCells (w.heap.size + 1 + 1) 0 CZ.toList = Wz := by rw [← hcz]; exact hWz
  rw [hWz] at HBZ HRES
  have HWZ := Lib.hid hWz2
  clear hrg hbz hcz h1c hWz hWz2
  go_wp2_with (first | (refine wpList_built rfl 41 [] rfl CZ [] rfl HBT.out ?_) | (refine wpList_store_mid rfl 41 (.tmp 4) (.tmp 32) rfl (w.heap.size + 1 + 1) 0 CZ rfl rfl HTH.out HSZ.out H1C.out ?_; rw [HWZ.out]))
  have hres := HRES.out
  refine bodyPost_ret (results_c2 (a := 4) (t := 41) (x := 5) (y := 6) rfl rfl hres) rfl ⟨rfl, HBZ.out⟩
end
/-- What a step answers: the error. -/
def stepE (S : Nat → Int) (n0 n1 : Nat) : Int := if rightS S = false ∨ 64 ≤ n0 ∨ 64 ≤ n1 then 1 else if S 0 = 1073741824 then 5 else 0
theorem gStep_no {S : Nat → Int} {n0 n1 : Nat} {w : World} (h : stepE S n0 n1 ≠ 0) : Calls Tryz.prog 55 #[.agg (stCells S).toArray, .agg #[.int .u8 n0, .int .u8 n1]] w fun e w' => e = .returned (.tuple #[.agg (stCells zeroT).toArray, .slice none 0 0, .int .i64 (stepE S n0 n1)]) ∧ Below w.heap.size w w' := by
  unfold stepE at h ⊢
  cases hr : rightS S
  · rw [if_pos (.inl rfl)]
    exact gStep_a _ (Lib.hid rfl) hr
  · by_cases h0 : 64 ≤ n0
    · rw [if_pos (.inr (.inl h0))]
      exact gStep_b _ (Lib.hid rfl) hr h0
    · by_cases h1 : 64 ≤ n1
      · rw [if_pos (.inr (.inr h1))]
        exact gStep_c _ (Lib.hid rfl) hr (by omega) h1
      · have hn : ¬ (true = false ∨ 64 ≤ n0 ∨ 64 ≤ n1) := by simp; omega
        rw [hr] at h
        rw [if_neg hn] at h ⊢
        by_cases hF : S 0 = 1073741824
        · rw [if_pos hF]
          exact gStep_d _ (Lib.hid rfl) hr (by omega) (by omega) hF
        · rw [if_neg hF] at h
          exact absurd rfl h
end Go.Proofs.YtibeihcpehikoaaGreat
