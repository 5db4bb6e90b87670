/-
  The walk of a clash.
-/
import Derived.Test.YtnaclkaapicelaaGameS
import Derived.Test.YtnaclkaapicelaaMild
import Derived.BigRegion
namespace Go.Proofs.Ytnaclkaapicelaa
open Go.RowKit
set_option maxRecDepth 100000
theorem bSetB9 {base : Nat} {w w' : World} {g : Nat} (h : Below base w w') (hg : base ≤ g) (o : Nat) (u : Value) : Below base w (w'.setCell ⟨g, o, none⟩ u) := h.setCell (p := ⟨g, o, none⟩) hg u
theorem Stg.mild {w w' : World} {g gp base : Nat} {S : Nat → Int} {F : Int} {L : List Ev} (h : Stg w g gp base S F L) (k : Below w.heap.size w w') : Stg w' g gp base S F L := h.on k
section
variable {g gp base : Nat} {S : Nat → Int} {F : Int} {L : List Ev} {w : World}
set_option maxHeartbeats 4000000 in
theorem gclash_any (h : Stg w g gp base S F L) (hF : 0 ≤ F ∧ F ≤ 1073741824) (h12 : 0 ≤ S 12) (h22 : 0 ≤ S 22) (f4 : F32 (S 4)) (f5 : F32 (S 5)) (f14 : F32 (S 14)) (f15 : F32 (S 15)) (hL : L.length ≤ 14) :
    Calls Try.prog 33 #[.pointer (some ⟨g, 0, none⟩)] w fun e w' => e = .returned (.tuple #[]) ∧ Stg w' g gp base (clashS F (S, L)).1 F (clashS F (S, L)).2 ∧ Below base w w' := by
  have H := Lib.hid h
  have hlt := h.lt
  have hbg := h.bg
  have HT := Lib.hid (fun W => sTouch_any f4 f5 (show F32 262144 by unfold F32; omega) f14 f15 (show F32 262144 by unfold F32; omega) W)
  clear h f4 f5 f14 f15
  by_cases d0 : 0 < S 12
  · have HE := Lib.hid (show clashS F (S, L) = (S, L) by unfold clashS clashB; rw [decide_eq_false (show ¬ S 12 = 0 by omega)]; rfl)
    go_enter Try.func33, Try.ntmps33
    go_wp2_with fail
    refine wp_region_mild (by kernel_rfl) (by kernel_rfl) ?_
    repeat (go_big_quiet_step ((fail)))
    refine wpQuiet_nil ?_
    intro w1 hw'
    obtain ⟨⟨wq, k1⟩, hw''⟩ := hw'
    subst hw''
    have h1 := H.out.mild k1
    have hb1 : Below base w w1 := k1.mono H.out.bw
    have c12 : w1.cell? ⟨g, 12, none⟩ = some (.int .i64 (S 12)) := h1.st.cell 12 (by decide)
    have c22 : w1.cell? ⟨g, 22, none⟩ = some (.int .i64 (S 22)) := h1.st.cell 22 (by decide)
    have c4 : w1.cell? ⟨g, 4, none⟩ = some (.int .i32 (S 4)) := h1.st.cell 4 (by decide)
    have c5 : w1.cell? ⟨g, 5, none⟩ = some (.int .i32 (S 5)) := h1.st.cell 5 (by decide)
    have c14 : w1.cell? ⟨g, 14, none⟩ = some (.int .i32 (S 14)) := h1.st.cell 14 (by decide)
    have c15 : w1.cell? ⟨g, 15, none⟩ = some (.int .i32 (S 15)) := h1.st.cell 15 (by decide)
    have hl1 := h1.lt
    have H1 := Lib.hid h1
    have HB1 := Lib.hid hb1
    clear h1 hb1 k1
    go_wp2_with fail
    refine wp_region_mild (by kernel_rfl) (by kernel_rfl) ?_
    repeat (go_big_quiet_step ((fail)))
    refine wpQuiet_nil ?_
    intro w2 hw'
    obtain ⟨⟨wq, k2⟩, hw''⟩ := hw'
    subst hw''
    go_wp2
    refine bodyPost_ret (results_none rfl _ _ _) rfl ⟨rfl, ?_, HB1.out.trans (k2.mono H1.out.bw)⟩
    rw [HE.out]
    exact H1.out.mild k2
  · by_cases d1 : 0 < S 22
    · have HE := Lib.hid (show clashS F (S, L) = (S, L) by unfold clashS clashB; rw [decide_eq_false (show ¬ S 22 = 0 by omega), Bool.false_and, Bool.and_false]; rfl)
      have d0' : decide (0 < S 12) = false := decide_eq_false d0
      clear d0
      go_enter Try.func33, Try.ntmps33
      go_wp2_with fail
      refine wp_region_mild (by kernel_rfl) (by kernel_rfl) ?_
      repeat (go_big_quiet_step ((fail)))
      refine wpQuiet_nil ?_
      intro w1 hw'
      obtain ⟨⟨wq, k1⟩, hw''⟩ := hw'
      subst hw''
      have h1 := H.out.mild k1
      have hb1 : Below base w w1 := k1.mono H.out.bw
      have c12 : w1.cell? ⟨g, 12, none⟩ = some (.int .i64 (S 12)) := h1.st.cell 12 (by decide)
      have c22 : w1.cell? ⟨g, 22, none⟩ = some (.int .i64 (S 22)) := h1.st.cell 22 (by decide)
      have c4 : w1.cell? ⟨g, 4, none⟩ = some (.int .i32 (S 4)) := h1.st.cell 4 (by decide)
      have c5 : w1.cell? ⟨g, 5, none⟩ = some (.int .i32 (S 5)) := h1.st.cell 5 (by decide)
      have c14 : w1.cell? ⟨g, 14, none⟩ = some (.int .i32 (S 14)) := h1.st.cell 14 (by decide)
      have c15 : w1.cell? ⟨g, 15, none⟩ = some (.int .i32 (S 15)) := h1.st.cell 15 (by decide)
      have hl1 := h1.lt
      have H1 := Lib.hid h1
      have HB1 := Lib.hid hb1
      clear h1 hb1 k1
      go_wp2_with fail
      refine wp_region_mild (by kernel_rfl) (by kernel_rfl) ?_
      repeat (go_big_quiet_step ((fail)))
      refine wpQuiet_nil ?_
      intro w2 hw'
      obtain ⟨⟨wq, k2⟩, hw''⟩ := hw'
      subst hw''
      go_wp2
      refine bodyPost_ret (results_none rfl _ _ _) rfl ⟨rfl, ?_, HB1.out.trans (k2.mono H1.out.bw)⟩
      rw [HE.out]
      exact H1.out.mild k2
    · obtain ⟨b, hb⟩ : ∃ b, touchB (S 4) (S 5) 262144 (S 14) (S 15) 262144 = b := ⟨_, rfl⟩
      have HE := Lib.hid (show clashS F (S, L) = if b then (upd (upd (upd (upd S 6 (S 16)) 7 (S 17)) 16 (S 6)) 17 (S 7), addE F L (evT 0 4 4 16384 6 0 0)) else (S, L) by
        unfold clashS clashB
        simp only [hb, decide_eq_true (show S 12 = 0 by omega), decide_eq_true (show S 22 = 0 by omega), Bool.true_and])
      rw [hb] at HT
      have d0' : decide (0 < S 12) = false := decide_eq_false d0
      have d1' : decide (0 < S 22) = false := decide_eq_false d1
      clear hb d0 d1
      go_enter Try.func33, Try.ntmps33
      go_wp2_with fail
      refine wp_region_mild (by kernel_rfl) (by kernel_rfl) ?_
      repeat (go_big_quiet_step ((fail)))
      refine wpQuiet_nil ?_
      intro w1 hw'
      obtain ⟨⟨wq, k1⟩, hw''⟩ := hw'
      subst hw''
      have h1 := H.out.mild k1
      have hb1 : Below base w w1 := k1.mono H.out.bw
      have c12 : w1.cell? ⟨g, 12, none⟩ = some (.int .i64 (S 12)) := h1.st.cell 12 (by decide)
      have c22 : w1.cell? ⟨g, 22, none⟩ = some (.int .i64 (S 22)) := h1.st.cell 22 (by decide)
      have c4 : w1.cell? ⟨g, 4, none⟩ = some (.int .i32 (S 4)) := h1.st.cell 4 (by decide)
      have c5 : w1.cell? ⟨g, 5, none⟩ = some (.int .i32 (S 5)) := h1.st.cell 5 (by decide)
      have c14 : w1.cell? ⟨g, 14, none⟩ = some (.int .i32 (S 14)) := h1.st.cell 14 (by decide)
      have c15 : w1.cell? ⟨g, 15, none⟩ = some (.int .i32 (S 15)) := h1.st.cell 15 (by decide)
      have hl1 := h1.lt
      have H1 := Lib.hid h1
      have HB1 := Lib.hid hb1
      clear h1 hb1 k1
      go_wp2_with fail
      refine wp_region_mild (by kernel_rfl) (by kernel_rfl) ?_
      repeat (go_big_quiet_step ((go_at_call 79; exact mild_of (HT.out _))))
      refine wpQuiet_nil ?_
      intro w2 hw'
      obtain ⟨⟨wq, k2⟩, hw''⟩ := hw'
      subst hw''
      have h2 := H1.out.mild k2
      have hb2 : Below base w w2 := HB1.out.trans (k2.mono H1.out.bw)
      cases b
      · have HE2 := Lib.hid (HE.out.trans (if_neg (by decide)))
        go_wp2
        refine bodyPost_ret (results_none rfl _ _ _) rfl ⟨rfl, ?_, hb2⟩
        rw [HE2.out]
        exact h2
      · have HE2 := Lib.hid (HE.out.trans (if_pos rfl))
        have e6 : w2.cell? ⟨g, 6, none⟩ = some (.int .i32 (S 6)) := h2.st.cell 6 (by decide)
        have e7 : w2.cell? ⟨g, 7, none⟩ = some (.int .i32 (S 7)) := h2.st.cell 7 (by decide)
        have e16 : w2.cell? ⟨g, 16, none⟩ = some (.int .i32 (S 16)) := h2.st.cell 16 (by decide)
        have e17 : w2.cell? ⟨g, 17, none⟩ = some (.int .i32 (S 17)) := h2.st.cell 17 (by decide)
        have y6 := h2.st.frozen 6
        have y7 := h2.st.frozen 7
        have y16 := h2.st.frozen 16
        have y17 := h2.st.frozen 17
        have H3 := Lib.hid ((((h2.set 6 (by decide) (k := .i32) rfl (S 16)).set 7 (by decide) (k := .i32) rfl (S 17)).set 16 (by decide) (k := .i32) rfl (S 6)).set 17 (by decide) (k := .i32) rfl (S 7)).drew
        have HB3 := Lib.hid (bSetB9 (bSetB9 (bSetB9 (bSetB9 hb2 hbg 6 (.int .i32 (S 16))) hbg 7 (.int .i32 (S 17))) hbg 16 (.int .i32 (S 6))) hbg 17 (.int .i32 (S 7))).drew
        clear h2 hb2 c12 c22 c4 c5 c14 c15 k2
        go_wp2_with fail
        go_big_region
        all_goals
          obtain ⟨w3, hw3⟩ : ∃ w3, ((((w2.setCell ⟨g, 6, none⟩ (.int .i32 (S 16))).setCell ⟨g, 7, none⟩ (.int .i32 (S 17))).setCell ⟨g, 16, none⟩ (.int .i32 (S 6))).setCell ⟨g, 17, none⟩ (.int .i32 (S 7))).drew = w3 := ⟨_, rfl⟩
          rw [hw3] at H3 HB3 ⊢
          clear hw3
          have hl3 := H3.out.lt
          go_wp2_with fail
          refine (gtell_any 0 4 4 16384 6 0 0 H3.out (by unfold F32; omega) (evT_ok F _ _ _ _ _ _ _ hF (by decide) (by decide) (by decide) (by decide) (by decide) (by decide) 0 (by decide)) (by omega) (Nat.le_trans (cntE_le _ _ _) (by omega))).mono ?_
          rintro e w4 ⟨rfl, h4, k4⟩
          have H4 := Lib.hid h4
          have HB4 := Lib.hid (HB3.out.trans k4)
          clear h4 k4
          go_wp2
          go_end0
          rw [HE2.out]
          exact ⟨rfl, H4.out, HB4.out⟩
end
end Go.Proofs.Ytnaclkaapicelaa
