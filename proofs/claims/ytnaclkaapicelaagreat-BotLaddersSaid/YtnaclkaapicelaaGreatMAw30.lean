/-
  The chapter's thirtieth: awake.
-/
import Derived.Test.YtnaclkaapicelaaGreatBot4
import Derived.Test.YtnaclkaapicelaaGreatMa5
import Derived.Test.YtnaclkaapicelaaGreatMa3
import Derived.Test.YtnaclkaapicelaaGreatGuard
namespace Go.Proofs.YtnaclkaapicelaaGreat
open Go.RowKit
set_option maxRecDepth 100000
set_option linter.unusedSimpArgs false
theorem begin1_fit : FitS (beginS 1) := by
  have : ∀ i : Fin 60, (Lit.int (kdS i.1) (beginS 1 i.1)).wf = true := by decide +kernel
  exact fun i hi => this ⟨i, hi⟩
theorem begin1_see : dotZ (beginS 1) 0 = 4194304 ∧ crossZ (beginS 1) 0 = 0 ∧ pressZ (beginS 1) 0 1 = 4 := by decide +kernel
set_option maxHeartbeats 4000000 in
theorem awake30_any (w : World) : Calls Tryz.prog 17 #[] w fun e w' => e = .returned (.bool true) ∧ Below w.heap.size w w' := by
  obtain ⟨S, hS⟩ : ∃ S, beginS 1 = S := ⟨_, rfl⟩
  have hsee := begin1_see
  have hfit := begin1_fit
  rw [hS] at hsee hfit
  obtain ⟨h1, h2, h3⟩ := hsee
  have HSI : Hid (∀ W, Calls Tryz.prog 45 #[.agg (stCells S).toArray, .int .i64 0] W fun e w' => e = .returned (.tuple #[.int .i32 4194304, .int .i32 0]) ∧ Below W.heap.size W w') := Lib.hid (fun W => by
    have := sight_any S 0 W (by decide) hfit
    rw [h1, h2] at this
    exact this)
  have HPR : Hid (∀ W, Calls Tryz.prog 46 #[.agg (stCells S).toArray, .int .i64 0, .int .i64 1] W fun e w' => e = .returned (.int .u8 4) ∧ Below W.heap.size W w') := Lib.hid (fun W => by
    have := press_any S W 0 1 hfit
    rw [h3] at this
    exact this)
  have HBG : Hid (∀ W, Calls Tryz.prog 12 #[.int .u32 1] W fun e w' => e = .returned (.agg (stCells S).toArray) ∧ Below W.heap.size W w') := Lib.hid (fun W => by rw [← hS]; exact r12Begin_any 1 W)
  have HSZ : Hid ((stCells S).toArray.size = 60) := Lib.hid (by rw [List.size_toArray, stCells_length])
  clear h1 h2 h3 hS hfit
  go_enter Tryz.func17, Tryz.ntmps17
  go_upto_region 2 with (first
    | (go_at_call 12; refine (HBG.out _).mono ?_; rintro e w1 ⟨rfl, hb1⟩; have HB1 := Lib.hid hb1; clear hb1)
    | (refine wpList_store_mid rfl 33 (.tmp 1) (.tmp 4) rfl w1.heap.size 0 (stCells S).toArray rfl rfl (there_new _ _ _ (by rw [HSZ.out]; rfl)) (by kernel_rfl) (all_oneCell_toArray (int_one _)) ?_))
  refine named_put (F := fun W => Code.wp _ _ _ _ W) (by rw [Array.length_toList, List.size_toArray, stCells_length]; rfl) ?_
  intro w2 hk2 hb2 hz2
  rw [Array.toArray_toList] at hk2
  have HK2 := Lib.hid hk2
  have HB2 := Lib.hid (bTrans HB1.out hb2)
  have hl2 := hk2.lt
  clear hk2 hb2 hz2 HB1
  go_wp2_with (first
    | (refine wpList_load_mid rfl 33 (.tmp 1) rfl w1.heap.size 0 rfl (stCells S) _ (Blk.range HK2.out) Tryz.underlying33 rfl (by kernel_rfl) ?_)
    | (refine wpList_load_midG rfl 33 (.tmp 1) rfl w1.heap.size 0 rfl (stCells S) _ (Blk.range HK3.out) Tryz.underlying33 rfl (by kernel_rfl) ?_)
    | (go_at_call 45; refine (HSI.out _).mono ?_; rintro e w3 ⟨rfl, k3⟩; have HK3 := Lib.hid (HK2.out.on k3); have HB3 := Lib.hid (bTrans HB2.out k3); clear k3)
    | (go_at_call 46; refine (HPR.out _).mono ?_; rintro e w4 ⟨rfl, k4⟩; have HB4 := Lib.hid (bTrans HB3.out k4); clear k4))
  go_ret
  exact ⟨rfl, HB4.out⟩
end Go.Proofs.YtnaclkaapicelaaGreat
