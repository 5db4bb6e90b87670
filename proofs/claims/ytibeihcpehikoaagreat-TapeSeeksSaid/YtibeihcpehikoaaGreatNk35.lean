/-
  The walks beneath: GameE, Bot1, Bot2.
-/
import Derived.Test.YtibeihcpehikoaaGreatNk34
namespace Go.Proofs.YtibeihcpehikoaaGreat
open Go.RowKit
set_option maxRecDepth 100000
set_option maxHeartbeats 1000000
section
theorem begin_ok {seed : Int} (h : U32 seed) : StOk (beginS seed) := by
 have hp0 : ∀ j, j < 10 → getP (beginS seed) 0 j = freshP 0 j := fun j hj => by
  unfold beginS getP
  rw [upd_other _ _ _ _ (by omega), putP_other _ _ _ _ (by omega)]
  exact putP_at _ 0 _ j hj
 have hp1 : ∀ j, j < 10 → getP (beginS seed) 1 j = freshP 1 j := fun j hj => by
  unfold beginS getP
  rw [upd_other _ _ _ _ (by omega)]
  exact putP_at _ 1 _ j hj
 have s0 : beginS seed 13 = 0 := hp0 9 (by decide)
 have s1 : beginS seed 23 = 0 := hp1 9 (by decide)
 refine ⟨⟨two_cases ((fresh_m 0).congr hp0) ((fresh_m 1).congr hp1), two_cases (.inl ?_) (.inl ?_), fun k hk => zero_m.congr fun j hj => ?_, ?_, ?_, ?_, ?_⟩, two_cases ?_ ?_⟩
 ·show beginS seed 13 ≤ 2; rw [s0]; decide
 ·show beginS seed 23 ≤ 2; rw [s1]; decide
 ·unfold getS beginS
  rw [upd_other _ _ _ _ (by omega), putP_other _ _ _ _ (by omega), putP_other _ _ _ _ (by omega), upd_other _ _ _ _ (by omega)]; rfl
 ·exact h
 ·exact ⟨Int.le_refl _, by show (0 : Int) ≤ _; decide⟩
 ·exact ⟨Int.le_refl _, by show (0 : Int) ≤ _; decide⟩
 ·show 1 ≤ (600 : Int) ∧ (600 : Int) ≤ 600; decide
 ·show beginS seed 13 ≤ 2; rw [s0]; decide
 ·show beginS seed 23 ≤ 2; rw [s1]; decide
theorem gBegin_any (seed : Int) (w : World) : Calls Tryz.prog 53 #[.int .u32 seed] w fun e w' => e = .returned (.agg (stCells (beginS seed)).toArray) ∧ Below w.heap.size w w' := by
 obtain ⟨CZ, hcz⟩ : ∃ CZ : Array Value, (stCells (beginS seed)).toArray = CZ := ⟨_, rfl⟩
 have hbz := built_begin seed
 rw [hcz] at hbz ⊢
 obtain ⟨CB, hcb⟩ : ∃ CB : Array Value, freshBoth.toArray = CB := ⟨_, rfl⟩
 have hbb := built_both
 rw [hcb] at hbz hbb
 have HBZ := zz hbz
 have HBB := zz hbb
 have hsz : CZ.size = 60 := by rw [← hcz, zM, stCells_length]
 have H1C : Hid (CZ.all (·.oneCell') = true) := zz (by rw [← hcz]; exact all_oneCell_toArray (int_one _))
 have HSZ : Hid ((Tryz.prog.info? 41).map (·.size) = some CZ.size) := zz (by rw [hsz]; kernel_rfl)
 have hcl : CZ.toList.length = 60 := by rw [← hsz]; simp
 have HSI := zz hsz
 have HCL := zz hcl
 clear hbz hbb hcz hcb hsz hcl
 go_enter Tryz.func53, Tryz.ntmps53
 go_upto_region 1 with fail
 refine named1 (F := fun W => Code.wp _ _ _ _ W) ?_
 intro w1 k0 hb1 hz1
 have hl1 := k0.lt
 have HK0 := zz k0
 have HB1 := zz hb1
 clear k0 hb1 hz1
 go_wp2_with fail
 refine (gfresh_0 _).mono ?_
 rintro e w2 ⟨rfl, k2⟩
 have HB2 := zz (bTrans HB1.out k2)
 have HK2 := zz (HK0.out.on k2)
 clear k2
 go_wp2_with fail
 refine (gfresh_1 _).mono ?_
 rintro e w3 ⟨rfl, k3⟩
 have HB3 := zz (bTrans HB2.out k3)
 have hk3 := HK2.out.on k3
 have HTH : Hid (w3.there w.heap.size 0 CZ.size) := zz (by rw [HSI.out]; exact Blk.there hk3 (by decide))
 have hrg := World.rangeAt_setCells_same w3 w.heap.size 0 CZ.toList (by rw [HCL.out, ← HSI.out]; exact HTH.out)
 have HRES := zz (run_loadVar_mid (P := Tryz.prog) _ _ _ 41 CZ.toList _ hrg Tryz.underlying41 rfl (by rw [HCL.out]; kernel_rfl))
 have HBW := zz (bSetCells HB3.out (zL _) 0 CZ.toList)
 obtain ⟨wz, hwz⟩ : ∃ wz, w3.setCells w.heap.size 0 CZ.toList = wz := ⟨_, rfl⟩
 rw [hwz] at HRES HBW
 have HWZ := zz hwz
 clear k3 hk3 hrg hwz
 go_wp2_with (first
  | (refine wpList_built rfl 36 [(0, .tmp 4), (1, .tmp 5)] rfl CB _ rfl HBB.out ?_)
  | (refine wpList_built rfl 41 [(1, .tmp 3), (3, .const (.int .i64 600)), (4, .tmp 6)] rfl CZ _ rfl HBZ.out ?_)
  | (refine wpList_store_mid rfl 41 (.tmp 2) (.tmp 7) rfl w.heap.size 0 CZ rfl rfl HTH.out HSZ.out H1C.out ?_; rw [HWZ.out]))
 have hres := HRES.out
 refine bodyPost_ret (results_c0 (a := 2) (t := 41) rfl rfl hres) rfl ⟨rfl, HBW.out⟩
end
end Go.Proofs.YtibeihcpehikoaaGreat
