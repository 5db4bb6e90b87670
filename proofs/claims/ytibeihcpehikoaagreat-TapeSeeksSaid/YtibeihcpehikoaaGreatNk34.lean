/-
  The walk of a step that can not be.
-/
import Derived.Test.YtibeihcpehikoaaGreatNk33
namespace Go.Proofs.YtibeihcpehikoaaGreat
open Go.RowKit
set_option maxRecDepth 100000
set_option maxHeartbeats 8000000
section
def zeroT : Nat → Int := fun _ => 0
theorem built_zero : Tryz.prog.built 41 [] = some (stCells zeroT).toArray := by kernel_rfl
theorem u8_gt' {n : Nat} (h : 64 ≤ n) : decide ((63 : Int) < (n : Int)) = true := decide_eq_true (by omega)
section
variable {S : Nat → Int} {n0 n1 : Nat} {w : World}
theorem gStep_e (CZ : Array Value) (HCZ : Hid ((stCells zeroT).toArray = CZ)) (h : rightS S = false ∨ 64 ≤ n0 ∨ (n0 < 64 ∧ 64 ≤ n1)) : Calls Tryz.prog 55 #[.agg (stCells S).toArray, .agg #[.int .u8 n0, .int .u8 n1]] w fun e w' => e = .returned (.tuple #[.agg CZ, .slice none 0 0, .int .i64 1]) ∧ Below w.heap.size w w' := by
 obtain ⟨r, hr⟩ : ∃ r, rightS S = r := ⟨_, rfl⟩
 have HR := zz (fun W => (gRight_any S W).mono fun e w' ⟨he, hb⟩ => (⟨by rw [he, hr], hb⟩ : e = Ending.returned (.bool r) ∧ Below W.heap.size W w'))
 rw [hr] at h
 clear hr
 cases r
 case' true => rcases h with h | h0 | ⟨h0, h1⟩
 case' true.inl => cases h
 case' true.inr.inl => have g0 := u8_gt' h0
 case' true.inr.inr =>
  have g0 := u8_gt h0
  have g1 := u8_gt' h1
 all_goals
  go_enter Tryz.func55, Tryz.ntmps55
  go_upto_region 1 with fail
  refine named3 (F := fun W => Code.wp _ _ _ _ W) ?_
  intro w1 k0 k1 k2 hb1 hz1
  have HK0 := zz k0
  have HK1 := zz k1
  have HK2 := zz k2
  have HB1 := zz hb1
  clear k0 k1 k2 hb1 hz1
  go_upto_region 2 with (first | (refine wpList_load_mid rfl 41 (.tmp 2) rfl w.heap.size 0 rfl (stCells S) _ (Blk.range HK0.out) Tryz.underlying41 rfl (by kernel_rfl) ?_) | (go_at_call 119; refine (HR.out _).mono ?_; rintro e w2 ⟨rfl, hb2⟩; have HB2 := zz hb2; have HK12 := (HK1.out.on hb2); have i0 := HK12.cell 0; have i1 := HK12.cell 1; simp only [zA, zB, zC] at i0 i1; clear HK12))
  clear i0 i1
  have HK22 := zz (HK2.out.on HB2.out)
  have HTH : Hid (w2.there (w.heap.size + 1 + 1) 0 (stCells zeroT).toArray.size) := zz (by rw [show (stCells zeroT).toArray.size = 60 from by rw [zM, stCells_length]]; exact Blk.there HK22.out (by decide))
  have hrg := World.rangeAt_setCells_same w2 (w.heap.size + 1 + 1) 0 (stCells zeroT) (by have := HTH.out; rwa [zM] at this)
  have HRES := zz (run_loadVar_mid (P := Tryz.prog) _ _ _ 41 (stCells zeroT) _ hrg Tryz.underlying41 rfl (by kernel_rfl))
  have HBZ := zz (bSetCells (bTrans HB1.out HB2.out) (show w.heap.size ≤ w.heap.size + 1 + 1 by omega) 0 (stCells zeroT))
  have hcz := HCZ.out
  have hbz := built_zero
  rw [hcz] at hbz HRES HTH
  have HBT := zz hbz
  have h1c : CZ.all (·.oneCell') = true := by rw [← hcz]; exact all_oneCell_toArray (int_one zeroT)
  have H1C := zz h1c
  have HSZ : Hid ((Tryz.prog.info? 41).map (·.size) = some CZ.size) := zz (by rw [← hcz, show (stCells zeroT).toArray.size = 60 from by rw [zM, stCells_length]]; kernel_rfl)
  obtain ⟨Wz, hWz⟩ : ∃ Wz, w2.setCells (w.heap.size + 1 + 1) 0 (stCells zeroT) = Wz := ⟨_, rfl⟩
  have hWz2 : w2.setCells (w.heap.size + 1 + 1) 0 CZ.toList = Wz := by rw [← hcz]; exact hWz
  rw [hWz] at HBZ HRES
  have HWZ := zz hWz2
  clear hrg hbz hcz h1c hWz hWz2
  go_wp2_with (first | (refine wpList_built rfl 41 [] rfl CZ [] rfl HBT.out ?_) | (refine wpList_store_mid rfl 41 (.tmp 4) (.tmp 27) rfl (w.heap.size + 1 + 1) 0 CZ rfl rfl HTH.out HSZ.out H1C.out ?_; rw [HWZ.out]))
  have hres := HRES.out
  refine bodyPost_ret (results_c2 (a := 4) (t := 41) (x := 5) (y := 6) rfl rfl hres) rfl ⟨rfl, HBZ.out⟩
end
end
end Go.Proofs.YtibeihcpehikoaaGreat
