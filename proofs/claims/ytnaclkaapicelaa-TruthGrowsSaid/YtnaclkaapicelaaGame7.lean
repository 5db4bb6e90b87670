/-
  The walk of a hit.
-/
import Derived.Test.YtnaclkaapicelaaGameS
import Derived.Test.YtnaclkaapicelaaMild
import Derived.Outline
import Derived.BigRegion
namespace Go.Proofs.Ytnaclkaapicelaa
open Go.RowKit
set_option maxRecDepth 100000
theorem cntE_add (F : Int) (L : List Ev) (x : Ev) (em kd : Int) : cntE (addE F L x) em kd = cntE L em kd + if sameK em kd x then 1 else 0 := cntE_ins L _ _ em kd
theorem bSetB7 {base : Nat} {w w' : World} {g : Nat} (h : Below base w w') (hg : base ≤ g) (o : Nat) (u : Value) : Below base w (w'.setCell ⟨g, o, none⟩ u) := h.setCell (p := ⟨g, o, none⟩) hg u
theorem upd_get (S : Nat → Int) (i j : Nat) (v : Int) (hj : j < 10) : putP S i (upd (getP S i) j v) = upd S (4 + i * 10 + j) v := by
  rw [← upd_putP _ _ _ _ _ hj, putP_get]
section
variable {g gp base : Nat} {S : Nat → Int} {F : Int} {L : List Ev} {w : World}
theorem hitS_up (i : Nat) (S : Nat → Int) (h : 0 < getP S i 5 - 1) : hitS i F (S, L) = (putP S i (upd (getP S i) 5 (getP S i 5 - 1)), addE F L (evT ((i : Int) + 1) 2 2 32768 8 0 (getP S i 0))) := by
  unfold hitS; exact if_pos h
theorem hitS_dn (i : Nat) (S : Nat → Int) (h : ¬ 0 < getP S i 5 - 1) : hitS i F (S, L) = (upd (putP S i (upd (upd (getP S i) 5 (getP S i 5 - 1)) 8 30)) (4 + (1 - i) * 10 + 9) (S (4 + (1 - i) * 10 + 9) + 1), addE F (addE F L (evT ((i : Int) + 1) 2 2 32768 8 0 (getP S i 0))) (evT ((i : Int) + 1) 5 5 32768 10 0 (getP S i 0))) := by
  unfold hitS; exact if_neg h

theorem hitS_0_up (S : Nat → Int) (h : 0 < S 9 - 1) : hitS 0 F (S, L) = (upd S 9 (S 9 - 1), addE F L (evT 1 2 2 32768 8 0 (S 4))) := by
  refine (hitS_up 0 S h).trans ?_
  rw [upd_get S 0 5 _ (by decide)]
  rfl
theorem hitS_0_dn (S : Nat → Int) (h : ¬ 0 < S 9 - 1) : hitS 0 F (S, L) = (upd (upd (upd S 9 (S 9 - 1)) 12 30) 23 (S 23 + 1), addE F (addE F L (evT 1 2 2 32768 8 0 (S 4))) (evT 1 5 5 32768 10 0 (S 4))) := by
  refine (hitS_dn 0 S h).trans ?_
  rw [← upd_putP _ 0 _ 8 _ (by decide), upd_get S 0 5 _ (by decide)]
  rfl
set_option maxHeartbeats 4000000 in
theorem ghit_0 (h : Stg w g gp base S F L) (hF : 0 ≤ F ∧ F ≤ 1073741824) (hx : F32 (S 4)) (h5 : 1 ≤ S 9 ∧ S 9 ≤ 3) (h9 : 0 ≤ S 23 ∧ S 23 ≤ 100) (hL : L.length < 63) (hc2 : cntE L 1 2 ≤ 15) (hc5 : cntE L 1 5 ≤ 15) :
    Calls Try.prog 82 #[.pointer (some ⟨g, 0, none⟩), .int .i64 0] w fun e w' => e = .returned (.tuple #[]) ∧ Stg w' g gp base (hitS 0 F (S, L)).1 F (hitS 0 F (S, L)).2 ∧ Below base w w' := by
  have H := Lib.hid h
  have HX := Lib.hid hx
  have hbg := h.bg
  have hlt := h.lt
  have a0 : w.cell? ⟨g, 4, none⟩ = some (.int .i32 (S 4)) := h.st.cell 4 (by decide)
  have a5 : w.cell? ⟨g, 9, none⟩ = some (.int .i64 (S 9)) := h.st.cell 9 (by decide)
  have a8 : w.cell? ⟨g, 12, none⟩ = some (.int .i64 (S 12)) := h.st.cell 12 (by decide)
  have a9 : w.cell? ⟨g, 23, none⟩ = some (.int .i64 (S 23)) := h.st.cell 23 (by decide)
  have z5 := h.st.frozen 9
  obtain ⟨h5a, h5b⟩ := h5
  obtain ⟨h9a, h9b⟩ := h9
  have H1 := Lib.hid (h.set 9 (by decide) (k := .i64) rfl (S 9 - 1))
  have HB1 := Lib.hid (bSetB7 (Below.refl base w) hbg 9 (.int .i64 (S 9 - 1)))
  have HOK2 := Lib.hid (evT_ok F 1 2 2 32768 8 0 (S 4) hF (by decide) (by decide) (by decide) (by decide) (by decide) (by decide) 0 (by decide))
  have HOK5 := Lib.hid (evT_ok F 1 5 5 32768 10 0 (S 4) hF (by decide) (by decide) (by decide) (by decide) (by decide) (by decide) 0 (by decide))
  have HC2 := Lib.hid hc2
  have HC5 := Lib.hid (show cntE (addE F L (evT 1 2 2 32768 8 0 (S 4))) 1 5 ≤ 15 by
    rw [cntE_add, if_neg (by simp [sameK, evT])]
    exact hc5)
  have hln := addE_length F L (evT 1 2 2 32768 8 0 (S 4))
  have HLN := Lib.hid hln
  obtain ⟨v, hv⟩ : ∃ v, S 9 - 1 = v := ⟨_, rfl⟩
  have hv0 : 0 ≤ v := by omega
  have hv3 : v ≤ 2 := by omega
  clear h hx hc2 hc5 hln
  by_cases hup : 0 < v
  · have HE := Lib.hid (hitS_0_up (F := F) (L := L) S (by rw [hv]; exact hup))
    rw [hv] at H1 HB1 HE
    have HV := Lib.hid hv
    have hsub : IntKind.i64.wrap (S 9 - 1) = S 9 - 1 := by simp only [IntKind.wrap_i64]; omega
    rw [hv] at hsub
    clear hv hsub
    go_enter Try.func82, Try.ntmps82
    go_wp2_with fail
    rw [HV.out]
    refine (gtell_any 1 2 2 32768 8 0 (S 4) H1.out HX.out HOK2.out (by omega) HC2.out).mono ?_
    rintro e w2 ⟨rfl, h2, k2⟩
    have b5 : w2.cell? ⟨g, 9, none⟩ = some (.int .i64 v) := h2.st.cell 9 (by decide)
    have hl2 := h2.lt
    have H2 := Lib.hid h2
    have HB2 := Lib.hid (HB1.out.trans k2)
    clear h2 k2
    go_wp2
    refine bodyPost_ret (results_none rfl _ _ _) rfl ⟨rfl, ?_, HB2.out⟩
    rw [HE.out]
    exact H2.out
  · have HE := Lib.hid (hitS_0_dn (F := F) (L := L) S (by rw [hv]; exact hup))
    rw [hv] at H1 HB1 HE
    have HV := Lib.hid hv
    clear hv
    have hle : v ≤ 0 := by omega
    clear hup
    go_enter Try.func82, Try.ntmps82
    go_wp2_with fail
    rw [HV.out]
    refine (gtell_any 1 2 2 32768 8 0 (S 4) H1.out HX.out HOK2.out (by omega) HC2.out).mono ?_
    rintro e w2 ⟨rfl, h2, k2⟩
    have b0 : w2.cell? ⟨g, 4, none⟩ = some (.int .i32 (S 4)) := h2.st.cell 4 (by decide)
    have b5 : w2.cell? ⟨g, 9, none⟩ = some (.int .i64 v) := h2.st.cell 9 (by decide)
    have b8 : w2.cell? ⟨g, 12, none⟩ = some (.int .i64 (S 12)) := h2.st.cell 12 (by decide)
    have b9 : w2.cell? ⟨g, 23, none⟩ = some (.int .i64 (S 23)) := h2.st.cell 23 (by decide)
    have y8 := h2.st.frozen 12
    have y9 := h2.st.frozen 23
    have hl2 := h2.lt
    have H3 := Lib.hid ((h2.set 12 (by decide) (k := .i64) rfl 30).set 23 (by decide) (k := .i64) rfl (S 23 + 1)).drew
    have HB3 := Lib.hid (bSetB7 (bSetB7 (HB1.out.trans k2) hbg 12 (.int .i64 30)) hbg 23 (.int .i64 (S 23 + 1))).drew
    clear h2 k2
    go_wp2
    go_big_region
    obtain ⟨w3, hw3⟩ : ∃ w3, ((w2.setCell ⟨g, 12, none⟩ (.int .i64 30)).setCell ⟨g, 23, none⟩ (.int .i64 (S 23 + 1))).drew = w3 := ⟨_, rfl⟩
    rw [hw3] at H3 HB3 ⊢
    clear hw3
    have d0 : w3.cell? ⟨g, 4, none⟩ = some (.int .i32 (S 4)) := H3.out.st.cell 4 (by decide)
    have hl3 := H3.out.lt
    go_wp2_with fail
    refine (gtell_any 1 5 5 32768 10 0 (S 4) H3.out HX.out HOK5.out (by rw [HLN.out]; omega) HC5.out).mono ?_
    rintro e w4 ⟨rfl, h4, k4⟩
    have H4 := Lib.hid h4
    have HB4 := Lib.hid (HB3.out.trans k4)
    clear h4 k4
    go_wp2
    go_end0
    rw [HE.out]
    exact ⟨rfl, H4.out, HB4.out⟩

theorem hitS_1_up (S : Nat → Int) (h : 0 < S 19 - 1) : hitS 1 F (S, L) = (upd S 19 (S 19 - 1), addE F L (evT 2 2 2 32768 8 0 (S 14))) := by
  refine (hitS_up 1 S h).trans ?_
  rw [upd_get S 1 5 _ (by decide)]
  rfl
theorem hitS_1_dn (S : Nat → Int) (h : ¬ 0 < S 19 - 1) : hitS 1 F (S, L) = (upd (upd (upd S 19 (S 19 - 1)) 22 30) 13 (S 13 + 1), addE F (addE F L (evT 2 2 2 32768 8 0 (S 14))) (evT 2 5 5 32768 10 0 (S 14))) := by
  refine (hitS_dn 1 S h).trans ?_
  rw [← upd_putP _ 1 _ 8 _ (by decide), upd_get S 1 5 _ (by decide)]
  rfl
set_option maxHeartbeats 4000000 in
theorem ghit_1 (h : Stg w g gp base S F L) (hF : 0 ≤ F ∧ F ≤ 1073741824) (hx : F32 (S 14)) (h5 : 1 ≤ S 19 ∧ S 19 ≤ 3) (h9 : 0 ≤ S 13 ∧ S 13 ≤ 100) (hL : L.length < 63) (hc2 : cntE L 2 2 ≤ 15) (hc5 : cntE L 2 5 ≤ 15) :
    Calls Try.prog 82 #[.pointer (some ⟨g, 0, none⟩), .int .i64 1] w fun e w' => e = .returned (.tuple #[]) ∧ Stg w' g gp base (hitS 1 F (S, L)).1 F (hitS 1 F (S, L)).2 ∧ Below base w w' := by
  have H := Lib.hid h
  have HX := Lib.hid hx
  have hbg := h.bg
  have hlt := h.lt
  have a0 : w.cell? ⟨g, 14, none⟩ = some (.int .i32 (S 14)) := h.st.cell 14 (by decide)
  have a5 : w.cell? ⟨g, 19, none⟩ = some (.int .i64 (S 19)) := h.st.cell 19 (by decide)
  have a8 : w.cell? ⟨g, 22, none⟩ = some (.int .i64 (S 22)) := h.st.cell 22 (by decide)
  have a9 : w.cell? ⟨g, 13, none⟩ = some (.int .i64 (S 13)) := h.st.cell 13 (by decide)
  have z5 := h.st.frozen 19
  obtain ⟨h5a, h5b⟩ := h5
  obtain ⟨h9a, h9b⟩ := h9
  have H1 := Lib.hid (h.set 19 (by decide) (k := .i64) rfl (S 19 - 1))
  have HB1 := Lib.hid (bSetB7 (Below.refl base w) hbg 19 (.int .i64 (S 19 - 1)))
  have HOK2 := Lib.hid (evT_ok F 2 2 2 32768 8 0 (S 14) hF (by decide) (by decide) (by decide) (by decide) (by decide) (by decide) 0 (by decide))
  have HOK5 := Lib.hid (evT_ok F 2 5 5 32768 10 0 (S 14) hF (by decide) (by decide) (by decide) (by decide) (by decide) (by decide) 0 (by decide))
  have HC2 := Lib.hid hc2
  have HC5 := Lib.hid (show cntE (addE F L (evT 2 2 2 32768 8 0 (S 14))) 2 5 ≤ 15 by
    rw [cntE_add, if_neg (by simp [sameK, evT])]
    exact hc5)
  have hln := addE_length F L (evT 2 2 2 32768 8 0 (S 14))
  have HLN := Lib.hid hln
  obtain ⟨v, hv⟩ : ∃ v, S 19 - 1 = v := ⟨_, rfl⟩
  have hv0 : 0 ≤ v := by omega
  have hv3 : v ≤ 2 := by omega
  clear h hx hc2 hc5 hln
  by_cases hup : 0 < v
  · have HE := Lib.hid (hitS_1_up (F := F) (L := L) S (by rw [hv]; exact hup))
    rw [hv] at H1 HB1 HE
    have HV := Lib.hid hv
    have hsub : IntKind.i64.wrap (S 19 - 1) = S 19 - 1 := by simp only [IntKind.wrap_i64]; omega
    rw [hv] at hsub
    clear hv hsub
    go_enter Try.func82, Try.ntmps82
    go_wp2_with fail
    rw [HV.out]
    refine (gtell_any 2 2 2 32768 8 0 (S 14) H1.out HX.out HOK2.out (by omega) HC2.out).mono ?_
    rintro e w2 ⟨rfl, h2, k2⟩
    have b5 : w2.cell? ⟨g, 19, none⟩ = some (.int .i64 v) := h2.st.cell 19 (by decide)
    have hl2 := h2.lt
    have H2 := Lib.hid h2
    have HB2 := Lib.hid (HB1.out.trans k2)
    clear h2 k2
    go_wp2
    refine bodyPost_ret (results_none rfl _ _ _) rfl ⟨rfl, ?_, HB2.out⟩
    rw [HE.out]
    exact H2.out
  · have HE := Lib.hid (hitS_1_dn (F := F) (L := L) S (by rw [hv]; exact hup))
    rw [hv] at H1 HB1 HE
    have HV := Lib.hid hv
    clear hv
    have hle : v ≤ 0 := by omega
    clear hup
    go_enter Try.func82, Try.ntmps82
    go_wp2_with fail
    rw [HV.out]
    refine (gtell_any 2 2 2 32768 8 0 (S 14) H1.out HX.out HOK2.out (by omega) HC2.out).mono ?_
    rintro e w2 ⟨rfl, h2, k2⟩
    have b0 : w2.cell? ⟨g, 14, none⟩ = some (.int .i32 (S 14)) := h2.st.cell 14 (by decide)
    have b5 : w2.cell? ⟨g, 19, none⟩ = some (.int .i64 v) := h2.st.cell 19 (by decide)
    have b8 : w2.cell? ⟨g, 22, none⟩ = some (.int .i64 (S 22)) := h2.st.cell 22 (by decide)
    have b9 : w2.cell? ⟨g, 13, none⟩ = some (.int .i64 (S 13)) := h2.st.cell 13 (by decide)
    have y8 := h2.st.frozen 22
    have y9 := h2.st.frozen 13
    have hl2 := h2.lt
    have H3 := Lib.hid ((h2.set 22 (by decide) (k := .i64) rfl 30).set 13 (by decide) (k := .i64) rfl (S 13 + 1)).drew
    have HB3 := Lib.hid (bSetB7 (bSetB7 (HB1.out.trans k2) hbg 22 (.int .i64 30)) hbg 13 (.int .i64 (S 13 + 1))).drew
    clear h2 k2
    go_wp2
    go_big_region
    obtain ⟨w3, hw3⟩ : ∃ w3, ((w2.setCell ⟨g, 22, none⟩ (.int .i64 30)).setCell ⟨g, 13, none⟩ (.int .i64 (S 13 + 1))).drew = w3 := ⟨_, rfl⟩
    rw [hw3] at H3 HB3 ⊢
    clear hw3
    have d0 : w3.cell? ⟨g, 14, none⟩ = some (.int .i32 (S 14)) := H3.out.st.cell 14 (by decide)
    have hl3 := H3.out.lt
    go_wp2_with fail
    refine (gtell_any 2 5 5 32768 10 0 (S 14) H3.out HX.out HOK5.out (by rw [HLN.out]; omega) HC5.out).mono ?_
    rintro e w4 ⟨rfl, h4, k4⟩
    have H4 := Lib.hid h4
    have HB4 := Lib.hid (HB3.out.trans k4)
    clear h4 k4
    go_wp2
    go_end0
    rw [HE.out]
    exact ⟨rfl, H4.out, HB4.out⟩

end
end Go.Proofs.Ytnaclkaapicelaa
