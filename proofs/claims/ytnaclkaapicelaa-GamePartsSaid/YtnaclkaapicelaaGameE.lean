/-
  The beginning of a game, and the chapter's example.
-/
import Derived.Test.YtnaclkaapicelaaGameD
import Derived.Test.YtnaclkaapicelaaMix
namespace Go.Proofs.Ytnaclkaapicelaa
open Go.RowKit
set_option maxRecDepth 100000
def beginS (seed : Int) : Nat → Int := upd (putP (putP (upd (fun _ => 0) 3 600) 0 (freshP 0)) 1 (freshP 1)) 1 seed
theorem begin_ok {seed : Int} (h : U32 seed) : StOk (beginS seed) := by
  have hp0 : ∀ j, j < 10 → getP (beginS seed) 0 j = freshP 0 j := fun j hj => by
    unfold beginS getP
    rw [upd_other _ _ _ _ (by omega), putP_other _ _ _ _ (by omega)]
    exact putP_at _ 0 _ j hj
  have hp1 : ∀ j, j < 10 → getP (beginS seed) 1 j = freshP 1 j := fun j hj => by
    unfold beginS getP
    rw [upd_other _ _ _ _ (by omega)]
    exact putP_at _ 1 _ j hj
  have s0 : beginS seed 13 = 0 := hp0 9 (by decide)
  have s1 : beginS seed 23 = 0 := hp1 9 (by decide)
  refine ⟨⟨two_cases ((fresh_m 0).congr hp0) ((fresh_m 1).congr hp1), two_cases (.inl ?_) (.inl ?_), fun k hk => zero_m.congr fun j hj => ?_, ?_, ?_, ?_, ?_⟩, two_cases ?_ ?_⟩
  · show beginS seed 13 ≤ 2; rw [s0]; decide
  · show beginS seed 23 ≤ 2; rw [s1]; decide
  · unfold getS beginS
    rw [upd_other _ _ _ _ (by omega), putP_other _ _ _ _ (by omega), putP_other _ _ _ _ (by omega), upd_other _ _ _ _ (by omega)]; rfl
  · exact h
  · exact ⟨Int.le_refl _, by show (0 : Int) ≤ _; decide⟩
  · exact ⟨Int.le_refl _, by show (0 : Int) ≤ _; decide⟩
  · show 1 ≤ (600 : Int) ∧ (600 : Int) ≤ 600; decide
  · show beginS seed 13 ≤ 2; rw [s0]; decide
  · show beginS seed 23 ≤ 2; rw [s1]; decide
theorem built_both : Try.prog.built 28 [(0, .agg #[.int .i32 (-2097152), .int .i32 0, .int .i32 0, .int .i32 0, .int .i64 0, .int .i64 3, .int .i64 0, .int .i64 0, .int .i64 0, .int .i64 0]), (1, .agg #[.int .i32 2097152, .int .i32 0, .int .i32 0, .int .i32 0, .int .i64 32768, .int .i64 3, .int .i64 0, .int .i64 0, .int .i64 0, .int .i64 0])] = some freshBoth.toArray := by kernel_rfl
theorem built_begin (seed : Int) : Try.prog.built 33 [(1, .int .u32 seed), (3, .int .i64 600), (4, .agg freshBoth.toArray)] = some (stCells (beginS seed)).toArray := by kernel_rfl
set_option maxHeartbeats 1000000 in
theorem gBegin_any (seed : Int) (w : World) : Calls Try.prog 13 #[.int .u32 seed] w fun e w' => e = .returned (.agg (stCells (beginS seed)).toArray) ∧ Below w.heap.size w w' := by
  obtain ⟨CZ, hcz⟩ : ∃ CZ : Array Value, (stCells (beginS seed)).toArray = CZ := ⟨_, rfl⟩
  have hbz := built_begin seed
  rw [hcz] at hbz ⊢
  obtain ⟨CB, hcb⟩ : ∃ CB : Array Value, freshBoth.toArray = CB := ⟨_, rfl⟩
  have hbb := built_both
  rw [hcb] at hbz hbb
  have HBZ := Lib.hid hbz
  have HBB := Lib.hid hbb
  have hsz : CZ.size = 60 := by rw [← hcz, List.size_toArray, stCells_length]
  have H1C : Hid (CZ.all (·.oneCell') = true) := Lib.hid (by rw [← hcz]; exact all_oneCell_toArray (int_one _))
  have HSZ : Hid ((Try.prog.info? 33).map (·.size) = some CZ.size) := Lib.hid (by rw [hsz]; kernel_rfl)
  have hcl : CZ.toList.length = 60 := by rw [← hsz]; simp
  have HSI := Lib.hid hsz
  have HCL := Lib.hid hcl
  clear hbz hbb hcz hcb hsz hcl
  go_enter Try.func13, Try.ntmps13
  go_upto_region 1 with fail
  refine named1 (F := fun W => Code.wp _ _ _ _ W) ?_
  intro w1 k0 hb1 hz1
  have hl1 := k0.lt
  have HK0 := Lib.hid k0
  have HB1 := Lib.hid hb1
  clear k0 hb1 hz1
  go_wp2_with fail
  refine (gfresh_0 _).mono ?_
  rintro e w2 ⟨rfl, k2⟩
  have HB2 := Lib.hid (bTrans HB1.out k2)
  have HK2 := Lib.hid (HK0.out.on k2)
  clear k2
  go_wp2_with fail
  refine (gfresh_1 _).mono ?_
  rintro e w3 ⟨rfl, k3⟩
  have HB3 := Lib.hid (bTrans HB2.out k3)
  have hk3 := HK2.out.on k3
  have HTH : Hid (w3.there w.heap.size 0 CZ.size) := Lib.hid (by rw [HSI.out]; exact Blk.there hk3 (by decide))
  have hrg := World.rangeAt_setCells_same w3 w.heap.size 0 CZ.toList (by rw [HCL.out, ← HSI.out]; exact HTH.out)
  have HRES := Lib.hid (run_loadVar_mid (P := Try.prog) _ _ _ 33 CZ.toList _ hrg Try.underlying33 rfl (by rw [HCL.out]; kernel_rfl))
  have HBW := Lib.hid (bSetCells HB3.out (Nat.le_refl _) 0 CZ.toList)
  obtain ⟨wz, hwz⟩ : ∃ wz, w3.setCells w.heap.size 0 CZ.toList = wz := ⟨_, rfl⟩
  rw [hwz] at HRES HBW
  have HWZ := Lib.hid hwz
  clear k3 hk3 hrg hwz
  go_wp2_with (first
    | (refine wpList_built rfl 28 [(0, .tmp 4), (1, .tmp 5)] rfl CB _ rfl HBB.out ?_)
    | (refine wpList_built rfl 33 [(1, .tmp 3), (3, .const (.int .i64 600)), (4, .tmp 6)] rfl CZ _ rfl HBZ.out ?_)
    | (refine wpList_store_mid rfl 33 (.tmp 2) (.tmp 7) rfl w.heap.size 0 CZ rfl rfl HTH.out HSZ.out H1C.out ?_; rw [HWZ.out]))
  have hres := HRES.out
  refine bodyPost_ret (results_c0 (a := 2) (t := 33) rfl rfl hres) rfl ⟨rfl, HBW.out⟩
theorem aw_len : (stepS 4 4 (beginS 7)).2.length = 2 := by decide +kernel
theorem aw_kind : ((stepS 4 4 (beginS 7)).2.map Ev.kind).head? = some 8 := by decide +kernel
theorem aw_st : (stepS 4 4 (beginS 7)).1 0 = 1 ∧ -2097152 < (stepS 4 4 (beginS 7)).1 4 ∧ (stepS 4 4 (beginS 7)).1 14 < 2097152 := by decide +kernel
set_option maxHeartbeats 2000000 in
theorem awake12_any (w : World) : Calls Try.prog 9 #[] w fun e w' => e = .returned (.bool true) ∧ Below w.heap.size w w' := by
  have hst := fun W => gStep_yes (S := beginS 7) (n0 := 4) (n1 := 4) (w := W) (begin_ok (by unfold U32; omega)) (by decide) (by decide) (by decide)
  have hal := aw_len
  have hak := aw_kind
  have has := aw_st
  obtain ⟨T, L, hTL⟩ : ∃ T L, stepS 4 4 (beginS 7) = (T, L) := ⟨_, _, rfl⟩
  rw [hTL] at hal hak has
  simp only [hTL] at hst
  have HST := Lib.hid hst
  obtain ⟨CZ, hcz⟩ : ∃ CZ : Array Value, (stCells T).toArray = CZ := ⟨_, rfl⟩
  have HCZ := Lib.hid hcz
  obtain ⟨s0, s4, s14⟩ := has
  have HL := Lib.hid hal
  have HAK := Lib.hid hak
  have HS0 := Lib.hid s0
  have HS4 := Lib.hid s4
  have HS14 := Lib.hid s14
  have hsz : CZ.size = 60 := by rw [← hcz, List.size_toArray, stCells_length]
  have H1C : Hid (CZ.all (·.oneCell') = true) := Lib.hid (by rw [← hcz]; exact all_oneCell_toArray (int_one _))
  have HSZ : Hid ((Try.prog.info? 33).map (·.size) = some CZ.size) := Lib.hid (by rw [hsz]; kernel_rfl)
  have HSI := Lib.hid hsz
  clear hst hal hak s0 s4 s14 hTL hcz hsz
  go_enter Try.func9, Try.ntmps9
  go_upto_region 2 with (first
    | (refine wpList_store_mid rfl 33 (.tmp 1) (.tmp 8) rfl w2.heap.size 0 CZ rfl rfl (there_new _ _ _ (by rw [HSI.out]; rfl)) HSZ.out H1C.out ?_)
    | (go_at_call 13; refine (gBegin_any 7 _).mono ?_; rintro e w1 ⟨rfl, hb1⟩)
    | (go_at_call 11; refine (HST.out _).mono ?_; rintro e w2 ⟨A, c, rfl, ho, hb2⟩; rw [HCZ.out, HL.out]; have HO := Lib.hid ho; have HB := Lib.hid (bTrans hb1 hb2); clear ho hb2))
  refine named_put (F := fun W => Code.wp _ _ _ _ W) (by rw [Array.length_toList, HSI.out]; rfl) ?_
  intro w3 hk3 hb3 hz3
  rw [Array.toArray_toList, ← HCZ.out] at hk3
  have c0 : w3.cell? ⟨w2.heap.size, 0, none⟩ = some (.int .i64 (T 0)) := st_cell hk3 0 (by decide)
  have c4 : w3.cell? ⟨w2.heap.size, 4, none⟩ = some (.int .i32 (T 4)) := st_cell hk3 4 (by decide)
  have c14 : w3.cell? ⟨w2.heap.size, 14, none⟩ = some (.int .i32 (T 14)) := st_cell hk3 14 (by decide)
  have ho3 := HO.out.below hb3
  match L, HL, HAK, ho3 with
  | x :: y :: L', HL, HAK, ho3 =>
    obtain ⟨b, off, hA, hb, h0, h1, h2, -⟩ := ho3.rd.ev (k := 0) (by simp)
    subst hA
    have hx : (x :: y :: L')[0].kind = 8 := by have := HAK.out; simpa using this
    rw [hx] at h2
    have HBW := Lib.hid (bTrans HB.out hb3)
    have e0 := HS0.out
    have e4 : decide (-2097152 < T 4) = true := decide_eq_true HS4.out
    have e14 : decide (T 14 < 2097152) = true := decide_eq_true HS14.out
    rw [e0] at c0
    clear hk3 hb3 hz3 h0 h1 hx ho3 HO e0
    go_wp2
    go_ret
    exact ⟨rfl, HBW.out⟩
end Go.Proofs.Ytnaclkaapicelaa
