/-
  The document's game: a player as it begins, and the beginning.
-/
import Derived.Test.YtnaclkaapicelaaBeg
import Derived.Test.YtnaclkaapicelaaBot5
import Derived.Test.YtnaclkaapicelaaName
import Derived.Test.YtnaclkaapicelaaGuard
namespace Go.Proofs.Ytnaclkaapicelaa
open Go.RowKit
set_option maxRecDepth 100000
set_option linter.unusedSimpArgs false
set_option maxHeartbeats 2000000 in
theorem r12Fresh_0 (w : World) : Calls Try.prog 59 #[.int .i64 0] w fun e w' => e = .returned (.agg #[.int .i32 (-2097152), .int .i32 0, .int .i32 0, .int .i32 0, .int .i64 0, .int .i64 3, .int .i64 0, .int .i64 0, .int .i64 0, .int .i64 0]) ∧ Below w.heap.size w w' := by
  have HV : Hid (∀ W, Calls Try.prog 97 #[.int .i64 (-32), .int .i64 0] W fun e w' => e = .returned (.agg #[.int .i32 (-2097152), .int .i32 0]) ∧ Below W.heap.size W w') := Lib.hid (fun W => r12Vec_any (-32) 0 (by decide) (by decide) W)
  obtain ⟨CZ, hcz⟩ : ∃ CZ : Array Value, #[.int .i32 (-2097152), .int .i32 0, .int .i32 0, .int .i32 0, .int .i64 0, .int .i64 3, .int .i64 0, .int .i64 0, .int .i64 0, .int .i64 0] = CZ := ⟨_, rfl⟩
  have hbz : Try.prog.built 27 [(0, .agg #[.int .i32 (-2097152), .int .i32 0]), (3, .int .i64 3)] = some #[.int .i32 (-2097152), .int .i32 0, .int .i32 0, .int .i32 0, .int .i64 0, .int .i64 3, .int .i64 0, .int .i64 0, .int .i64 0, .int .i64 0] := by kernel_rfl
  have H1C : Hid (CZ.all (·.oneCell') = true) := Lib.hid (by rw [← hcz]; kernel_rfl)
  have HSI : Hid (CZ.size = 10) := Lib.hid (by rw [← hcz]; rfl)
  rw [hcz] at hbz ⊢
  have HBZ := Lib.hid hbz
  have HSZ : Hid ((Try.prog.info? 27).map (·.size) = some CZ.size) := Lib.hid (by rw [HSI.out]; kernel_rfl)
  have HCL : Hid (CZ.toList.length = 10) := Lib.hid (by rw [Array.length_toList]; exact HSI.out)
  clear hbz hcz
  go_enter Try.func59, Try.ntmps59
  go_upto_region 1 with fail
  refine named1 (F := fun W => Code.wp _ _ _ _ W) ?_
  intro w1 k0 hb1 hz1
  have HK0 := Lib.hid k0
  have HB1 := Lib.hid hb1
  clear k0 hb1 hz1
  go_wp2_with fail
  refine (HV.out _).mono ?_
  rintro e w2 ⟨rfl, k1⟩
  have hk := HK0.out.on k1
  have hb := bTrans HB1.out k1
  have HTH : Hid (w2.there w.heap.size 0 CZ.size) := Lib.hid (by rw [HSI.out]; exact Blk.there hk (by show 0 + 10 ≤ 10; decide))
  have hrg := World.rangeAt_setCells_same w2 w.heap.size 0 CZ.toList (by rw [HCL.out, ← HSI.out]; exact HTH.out)
  have HRES := Lib.hid (run_loadVar_mid (P := Try.prog) _ _ _ 27 CZ.toList _ hrg Try.underlying27 rfl (by rw [HCL.out]; kernel_rfl))
  have HBW := Lib.hid (bSetCells hb (Nat.le_refl _) 0 CZ.toList)
  obtain ⟨wz, hwz⟩ : ∃ wz, w2.setCells w.heap.size 0 CZ.toList = wz := ⟨_, rfl⟩
  rw [hwz] at HRES HBW
  have HWZ := Lib.hid hwz
  clear k1 hk hb hrg hwz
  go_wp2_with (first
    | (refine wpList_built rfl 27 [(0, .tmp 5), (3, .const (.int .i64 3))] rfl CZ _ rfl HBZ.out ?_)
    | (refine wpList_store_mid rfl 27 (.tmp 2) (.tmp 6) rfl w.heap.size 0 CZ rfl rfl HTH.out HSZ.out H1C.out ?_; rw [HWZ.out]))
  have hres := HRES.out
  refine bodyPost_ret (results_c0 (a := 2) (t := 27) rfl rfl hres) rfl ⟨rfl, HBW.out⟩
set_option maxHeartbeats 2000000 in
theorem r12Fresh_1 (w : World) : Calls Try.prog 59 #[.int .i64 1] w fun e w' => e = .returned (.agg #[.int .i32 2097152, .int .i32 0, .int .i32 0, .int .i32 0, .int .i64 32768, .int .i64 3, .int .i64 0, .int .i64 0, .int .i64 0, .int .i64 0]) ∧ Below w.heap.size w w' := by
  have HV : Hid (∀ W, Calls Try.prog 97 #[.int .i64 (32), .int .i64 0] W fun e w' => e = .returned (.agg #[.int .i32 2097152, .int .i32 0]) ∧ Below W.heap.size W w') := Lib.hid (fun W => r12Vec_any (32) 0 (by decide) (by decide) W)
  obtain ⟨CZ, hcz⟩ : ∃ CZ : Array Value, #[.int .i32 2097152, .int .i32 0, .int .i32 0, .int .i32 0, .int .i64 32768, .int .i64 3, .int .i64 0, .int .i64 0, .int .i64 0, .int .i64 0] = CZ := ⟨_, rfl⟩
  have hbz : Try.prog.built 27 [(0, .agg #[.int .i32 2097152, .int .i32 0]), (2, .int .i64 32768), (3, .int .i64 3)] = some #[.int .i32 2097152, .int .i32 0, .int .i32 0, .int .i32 0, .int .i64 32768, .int .i64 3, .int .i64 0, .int .i64 0, .int .i64 0, .int .i64 0] := by kernel_rfl
  have H1C : Hid (CZ.all (·.oneCell') = true) := Lib.hid (by rw [← hcz]; kernel_rfl)
  have HSI : Hid (CZ.size = 10) := Lib.hid (by rw [← hcz]; rfl)
  rw [hcz] at hbz ⊢
  have HBZ := Lib.hid hbz
  have HSZ : Hid ((Try.prog.info? 27).map (·.size) = some CZ.size) := Lib.hid (by rw [HSI.out]; kernel_rfl)
  have HCL : Hid (CZ.toList.length = 10) := Lib.hid (by rw [Array.length_toList]; exact HSI.out)
  clear hbz hcz
  go_enter Try.func59, Try.ntmps59
  go_upto_region 1 with fail
  refine named1 (F := fun W => Code.wp _ _ _ _ W) ?_
  intro w1 k0 hb1 hz1
  have HK0 := Lib.hid k0
  have HB1 := Lib.hid hb1
  clear k0 hb1 hz1
  go_wp2_with fail
  refine (HV.out _).mono ?_
  rintro e w2 ⟨rfl, k1⟩
  have hk := HK0.out.on k1
  have hb := bTrans HB1.out k1
  have HTH : Hid (w2.there w.heap.size 0 CZ.size) := Lib.hid (by rw [HSI.out]; exact Blk.there hk (by show 0 + 10 ≤ 10; decide))
  have hrg := World.rangeAt_setCells_same w2 w.heap.size 0 CZ.toList (by rw [HCL.out, ← HSI.out]; exact HTH.out)
  have HRES := Lib.hid (run_loadVar_mid (P := Try.prog) _ _ _ 27 CZ.toList _ hrg Try.underlying27 rfl (by rw [HCL.out]; kernel_rfl))
  have HBW := Lib.hid (bSetCells hb (Nat.le_refl _) 0 CZ.toList)
  obtain ⟨wz, hwz⟩ : ∃ wz, w2.setCells w.heap.size 0 CZ.toList = wz := ⟨_, rfl⟩
  rw [hwz] at HRES HBW
  have HWZ := Lib.hid hwz
  clear k1 hk hb hrg hwz
  go_wp2_with (first
    | (refine wpList_built rfl 27 [(0, .tmp 7), (2, .const (.int .i64 32768)), (3, .const (.int .i64 3))] rfl CZ _ rfl HBZ.out ?_)
    | (refine wpList_store_mid rfl 27 (.tmp 2) (.tmp 8) rfl w.heap.size 0 CZ rfl rfl HTH.out HSZ.out H1C.out ?_; rw [HWZ.out]))
  have hres := HRES.out
  refine bodyPost_ret (results_c0 (a := 2) (t := 27) rfl rfl hres) rfl ⟨rfl, HBW.out⟩
set_option maxHeartbeats 1000000 in
theorem r12Begin_any (seed : Int) (w : World) : Calls Try.prog 20 #[.int .u32 seed] w fun e w' => e = .returned (.agg (stCells (beginS seed)).toArray) ∧ Below w.heap.size w w' := by
  obtain ⟨CZ, hcz⟩ : ∃ CZ : Array Value, (stCells (beginS seed)).toArray = CZ := ⟨_, rfl⟩
  have hbz := built_begin seed
  rw [hcz] at hbz ⊢
  obtain ⟨CB, hcb⟩ : ∃ CB : Array Value, freshBoth.toArray = CB := ⟨_, rfl⟩
  have hbb := built_both
  rw [hcb] at hbz hbb
  have HBZ := Lib.hid hbz
  have HBB := Lib.hid hbb
  have hsz : CZ.size = 60 := by rw [← hcz, List.size_toArray, stCells_length]
  have H1C : Hid (CZ.all (·.oneCell') = true) := Lib.hid (by rw [← hcz]; exact all_oneCell_toArray (int_one _))
  have HSZ : Hid ((Try.prog.info? 33).map (·.size) = some CZ.size) := Lib.hid (by rw [hsz]; kernel_rfl)
  have hcl : CZ.toList.length = 60 := by rw [← hsz]; simp
  have HSI := Lib.hid hsz
  have HCL := Lib.hid hcl
  clear hbz hbb hcz hcb hsz hcl
  go_enter Try.func20, Try.ntmps20
  go_upto_region 1 with fail
  refine named1 (F := fun W => Code.wp _ _ _ _ W) ?_
  intro w1 k0 hb1 hz1
  have hl1 := k0.lt
  have HK0 := Lib.hid k0
  have HB1 := Lib.hid hb1
  clear k0 hb1 hz1
  go_wp2_with fail
  refine (r12Fresh_0 _).mono ?_
  rintro e w2 ⟨rfl, k2⟩
  have HB2 := Lib.hid (bTrans HB1.out k2)
  have HK2 := Lib.hid (HK0.out.on k2)
  clear k2
  go_wp2_with fail
  refine (r12Fresh_1 _).mono ?_
  rintro e w3 ⟨rfl, k3⟩
  have HB3 := Lib.hid (bTrans HB2.out k3)
  have hk3 := HK2.out.on k3
  have HTH : Hid (w3.there w.heap.size 0 CZ.size) := Lib.hid (by rw [HSI.out]; exact Blk.there hk3 (by decide))
  have hrg := World.rangeAt_setCells_same w3 w.heap.size 0 CZ.toList (by rw [HCL.out, ← HSI.out]; exact HTH.out)
  have HRES := Lib.hid (run_loadVar_mid (P := Try.prog) _ _ _ 33 CZ.toList _ hrg Try.underlying33 rfl (by rw [HCL.out]; kernel_rfl))
  have HBW := Lib.hid (bSetCells HB3.out (Nat.le_refl _) 0 CZ.toList)
  obtain ⟨wz, hwz⟩ : ∃ wz, w3.setCells w.heap.size 0 CZ.toList = wz := ⟨_, rfl⟩
  rw [hwz] at HRES HBW
  have HWZ := Lib.hid hwz
  clear k3 hk3 hrg hwz
  go_wp2_with (first
    | (refine wpList_built rfl 28 [(0, .tmp 4), (1, .tmp 5)] rfl CB _ rfl HBB.out ?_)
    | (refine wpList_built rfl 33 [(1, .tmp 3), (3, .const (.int .i64 600)), (4, .tmp 6)] rfl CZ _ rfl HBZ.out ?_)
    | (refine wpList_store_mid rfl 33 (.tmp 2) (.tmp 7) rfl w.heap.size 0 CZ rfl rfl HTH.out HSZ.out H1C.out ?_; rw [HWZ.out]))
  have hres := HRES.out
  refine bodyPost_ret (results_c0 (a := 2) (t := 33) rfl rfl hres) rfl ⟨rfl, HBW.out⟩
end Go.Proofs.Ytnaclkaapicelaa
