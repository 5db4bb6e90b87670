/-
  The walks beneath: Game7, GameT.
-/
import Derived.Test.YtibeihcpehikoaaGreatNk23
namespace Go.Proofs.YtibeihcpehikoaaGreat
open Go.RowKit
set_option maxRecDepth 100000
set_option maxHeartbeats 4000000
section
theorem cntE_add (F : Int) (L : List Ev) (x : Ev) (em kd : Int) : cntE (addE F L x) em kd = cntE L em kd + if sameK em kd x then 1 else 0 := cntE_ins L _ _ em kd
theorem bSetB7 {base : Nat} {w w' : World} {g : Nat} (h : Below base w w') (hg : base ≤ g) (o : Nat) (u : Value) : Below base w (w'.setCell ⟨g, o, none⟩ u) := h.setCell (p := ⟨g, o, none⟩) hg u
theorem upd_get (S : Nat → Int) (i j : Nat) (v : Int) (hj : j < 10) : putP S i (upd (getP S i) j v) = upd S (4 + i * 10 + j) v := by
 rw [← upd_putP _ _ _ _ _ hj, putP_get]
section
variable {g gp base : Nat} {S : Nat → Int} {F : Int} {L : List Ev} {w : World}
theorem hitS_up (i : Nat) (S : Nat → Int) (h : 0 < getP S i 5 - 1) : hitS i F (S, L) = (putP S i (upd (getP S i) 5 (getP S i 5 - 1)), addE F L (evT ((i : Int) + 1) 2 2 32768 8 0 (getP S i 0))) := by
 unfold hitS; exact if_pos h
theorem hitS_dn (i : Nat) (S : Nat → Int) (h : ¬ 0 < getP S i 5 - 1) : hitS i F (S, L) = (upd (putP S i (upd (upd (getP S i) 5 (getP S i 5 - 1)) 8 30)) (4 + (1 - i) * 10 + 9) (S (4 + (1 - i) * 10 + 9) + 1), addE F (addE F L (evT ((i : Int) + 1) 2 2 32768 8 0 (getP S i 0))) (evT ((i : Int) + 1) 5 5 32768 10 0 (getP S i 0))) := by
 unfold hitS; exact if_neg h
theorem hitS_0_up (S : Nat → Int) (h : 0 < S 9 - 1) : hitS 0 F (S, L) = (upd S 9 (S 9 - 1), addE F L (evT 1 2 2 32768 8 0 (S 4))) := by
 refine (hitS_up 0 S h).trans ?_
 rw [upd_get S 0 5 _ (by decide)]
 rfl
theorem hitS_0_dn (S : Nat → Int) (h : ¬ 0 < S 9 - 1) : hitS 0 F (S, L) = (upd (upd (upd S 9 (S 9 - 1)) 12 30) 23 (S 23 + 1), addE F (addE F L (evT 1 2 2 32768 8 0 (S 4))) (evT 1 5 5 32768 10 0 (S 4))) := by
 refine (hitS_dn 0 S h).trans ?_
 rw [← upd_putP _ 0 _ 8 _ (by decide), upd_get S 0 5 _ (by decide)]
 rfl
theorem ghit_0 (h : Stg w g gp base S F L) (hF : 0 ≤ F ∧ F ≤ 1073741824) (hx : F32 (S 4)) (h5 : 1 ≤ S 9 ∧ S 9 ≤ 3) (h9 : 0 ≤ S 23 ∧ S 23 ≤ 100) (hL : L.length < 63) (hc2 : cntE L 1 2 ≤ 15) (hc5 : cntE L 1 5 ≤ 15) :
  Calls Tryz.prog 197 #[.pointer (some ⟨g, 0, none⟩), .int .i64 0] w fun e w' => e = .returned (.tuple #[]) ∧ Stg w' g gp base (hitS 0 F (S, L)).1 F (hitS 0 F (S, L)).2 ∧ Below base w w' := by
 have H := zz h
 have HX := zz hx
 have hbg := h.bg
 have hlt := h.lt
 have a0 : w.cell? ⟨g, 4, none⟩ = some (.int .i32 (S 4)) := h.st.cell 4 (by decide)
 have a5 : w.cell? ⟨g, 9, none⟩ = some (.int .i64 (S 9)) := h.st.cell 9 (by decide)
 have a8 : w.cell? ⟨g, 12, none⟩ = some (.int .i64 (S 12)) := h.st.cell 12 (by decide)
 have a9 : w.cell? ⟨g, 23, none⟩ = some (.int .i64 (S 23)) := h.st.cell 23 (by decide)
 have z5 := h.st.frozen 9
 obtain ⟨h5a, h5b⟩ := h5
 obtain ⟨h9a, h9b⟩ := h9
 have H1 := zz (h.set 9 (by decide) (k := .i64) rfl (S 9 - 1))
 have HB1 := zz (bSetB7 (Below.refl base w) hbg 9 (.int .i64 (S 9 - 1)))
 have HOK2 := zz (evT_ok F 1 2 2 32768 8 0 (S 4) hF (by decide) (by decide) (by decide) (by decide) (by decide) (by decide) 0 (by decide))
 have HOK5 := zz (evT_ok F 1 5 5 32768 10 0 (S 4) hF (by decide) (by decide) (by decide) (by decide) (by decide) (by decide) 0 (by decide))
 have HC2 := zz hc2
 have HC5 := zz (show cntE (addE F L (evT 1 2 2 32768 8 0 (S 4))) 1 5 ≤ 15 by
  rw [cntE_add, if_neg (by simp [sameK, evT])]
  exact hc5)
 have hln := addE_length F L (evT 1 2 2 32768 8 0 (S 4))
 have HLN := zz hln
 obtain ⟨v, hv⟩ : ∃ v, S 9 - 1 = v := ⟨_, rfl⟩
 have hv0 : 0 ≤ v := by omega
 have hv3 : v ≤ 2 := by omega
 clear h hx hc2 hc5 hln
 by_cases hup : 0 < v
 ·have HE := zz (hitS_0_up (F := F) (L := L) S (by rw [hv]; exact hup))
  rw [hv] at H1 HB1 HE
  have HV := zz hv
  have hsub : IntKind.i64.wrap (S 9 - 1) = S 9 - 1 := by simp only [IntKind.wrap_i64]; omega
  rw [hv] at hsub
  clear hv hsub
  go_enter Tryz.func197, Tryz.ntmps197
  go_wp2_with fail
  rw [HV.out]
  refine (gtell_any 1 2 2 32768 8 0 (S 4) H1.out HX.out HOK2.out (by omega) HC2.out).mono ?_
  rintro e w2 ⟨rfl, h2, k2⟩
  have b5 : w2.cell? ⟨g, 9, none⟩ = some (.int .i64 v) := h2.st.cell 9 (by decide)
  have hl2 := h2.lt
  have H2 := zz h2
  have HB2 := zz (HB1.out.trans k2)
  clear h2 k2
  go_wp2
  refine bodyPost_ret (results_none rfl _ _ _) rfl ⟨rfl, ?_, HB2.out⟩
  rw [HE.out]
  exact H2.out
 ·have HE := zz (hitS_0_dn (F := F) (L := L) S (by rw [hv]; exact hup))
  rw [hv] at H1 HB1 HE
  have HV := zz hv
  clear hv
  have hle : v ≤ 0 := by omega
  clear hup
  go_enter Tryz.func197, Tryz.ntmps197
  go_wp2_with fail
  rw [HV.out]
  refine (gtell_any 1 2 2 32768 8 0 (S 4) H1.out HX.out HOK2.out (by omega) HC2.out).mono ?_
  rintro e w2 ⟨rfl, h2, k2⟩
  have b0 : w2.cell? ⟨g, 4, none⟩ = some (.int .i32 (S 4)) := h2.st.cell 4 (by decide)
  have b5 : w2.cell? ⟨g, 9, none⟩ = some (.int .i64 v) := h2.st.cell 9 (by decide)
  have b8 : w2.cell? ⟨g, 12, none⟩ = some (.int .i64 (S 12)) := h2.st.cell 12 (by decide)
  have b9 : w2.cell? ⟨g, 23, none⟩ = some (.int .i64 (S 23)) := h2.st.cell 23 (by decide)
  have y8 := h2.st.frozen 12
  have y9 := h2.st.frozen 23
  have hl2 := h2.lt
  have H3 := zz ((h2.set 12 (by decide) (k := .i64) rfl 30).set 23 (by decide) (k := .i64) rfl (S 23 + 1)).drew
  have HB3 := zz (bSetB7 (bSetB7 (HB1.out.trans k2) hbg 12 (.int .i64 30)) hbg 23 (.int .i64 (S 23 + 1))).drew
  clear h2 k2
  go_wp2
  go_big_region
  obtain ⟨w3, hw3⟩ : ∃ w3, ((w2.setCell ⟨g, 12, none⟩ (.int .i64 30)).setCell ⟨g, 23, none⟩ (.int .i64 (S 23 + 1))).drew = w3 := ⟨_, rfl⟩
  rw [hw3] at H3 HB3 ⊢
  clear hw3
  have d0 : w3.cell? ⟨g, 4, none⟩ = some (.int .i32 (S 4)) := H3.out.st.cell 4 (by decide)
  have hl3 := H3.out.lt
  go_wp2_with fail
  refine (gtell_any 1 5 5 32768 10 0 (S 4) H3.out HX.out HOK5.out (by rw [HLN.out]; omega) HC5.out).mono ?_
  rintro e w4 ⟨rfl, h4, k4⟩
  have H4 := zz h4
  have HB4 := zz (HB3.out.trans k4)
  clear h4 k4
  go_wp2
  go_end0
  rw [HE.out]
  exact ⟨rfl, H4.out, HB4.out⟩
theorem hitS_1_up (S : Nat → Int) (h : 0 < S 19 - 1) : hitS 1 F (S, L) = (upd S 19 (S 19 - 1), addE F L (evT 2 2 2 32768 8 0 (S 14))) := by
 refine (hitS_up 1 S h).trans ?_
 rw [upd_get S 1 5 _ (by decide)]
 rfl
theorem hitS_1_dn (S : Nat → Int) (h : ¬ 0 < S 19 - 1) : hitS 1 F (S, L) = (upd (upd (upd S 19 (S 19 - 1)) 22 30) 13 (S 13 + 1), addE F (addE F L (evT 2 2 2 32768 8 0 (S 14))) (evT 2 5 5 32768 10 0 (S 14))) := by
 refine (hitS_dn 1 S h).trans ?_
 rw [← upd_putP _ 1 _ 8 _ (by decide), upd_get S 1 5 _ (by decide)]
 rfl
theorem ghit_1 (h : Stg w g gp base S F L) (hF : 0 ≤ F ∧ F ≤ 1073741824) (hx : F32 (S 14)) (h5 : 1 ≤ S 19 ∧ S 19 ≤ 3) (h9 : 0 ≤ S 13 ∧ S 13 ≤ 100) (hL : L.length < 63) (hc2 : cntE L 2 2 ≤ 15) (hc5 : cntE L 2 5 ≤ 15) :
  Calls Tryz.prog 197 #[.pointer (some ⟨g, 0, none⟩), .int .i64 1] w fun e w' => e = .returned (.tuple #[]) ∧ Stg w' g gp base (hitS 1 F (S, L)).1 F (hitS 1 F (S, L)).2 ∧ Below base w w' := by
 have H := zz h
 have HX := zz hx
 have hbg := h.bg
 have hlt := h.lt
 have a0 : w.cell? ⟨g, 14, none⟩ = some (.int .i32 (S 14)) := h.st.cell 14 (by decide)
 have a5 : w.cell? ⟨g, 19, none⟩ = some (.int .i64 (S 19)) := h.st.cell 19 (by decide)
 have a8 : w.cell? ⟨g, 22, none⟩ = some (.int .i64 (S 22)) := h.st.cell 22 (by decide)
 have a9 : w.cell? ⟨g, 13, none⟩ = some (.int .i64 (S 13)) := h.st.cell 13 (by decide)
 have z5 := h.st.frozen 19
 obtain ⟨h5a, h5b⟩ := h5
 obtain ⟨h9a, h9b⟩ := h9
 have H1 := zz (h.set 19 (by decide) (k := .i64) rfl (S 19 - 1))
 have HB1 := zz (bSetB7 (Below.refl base w) hbg 19 (.int .i64 (S 19 - 1)))
 have HOK2 := zz (evT_ok F 2 2 2 32768 8 0 (S 14) hF (by decide) (by decide) (by decide) (by decide) (by decide) (by decide) 0 (by decide))
 have HOK5 := zz (evT_ok F 2 5 5 32768 10 0 (S 14) hF (by decide) (by decide) (by decide) (by decide) (by decide) (by decide) 0 (by decide))
 have HC2 := zz hc2
 have HC5 := zz (show cntE (addE F L (evT 2 2 2 32768 8 0 (S 14))) 2 5 ≤ 15 by
  rw [cntE_add, if_neg (by simp [sameK, evT])]
  exact hc5)
 have hln := addE_length F L (evT 2 2 2 32768 8 0 (S 14))
 have HLN := zz hln
 obtain ⟨v, hv⟩ : ∃ v, S 19 - 1 = v := ⟨_, rfl⟩
 have hv0 : 0 ≤ v := by omega
 have hv3 : v ≤ 2 := by omega
 clear h hx hc2 hc5 hln
 by_cases hup : 0 < v
 ·have HE := zz (hitS_1_up (F := F) (L := L) S (by rw [hv]; exact hup))
  rw [hv] at H1 HB1 HE
  have HV := zz hv
  have hsub : IntKind.i64.wrap (S 19 - 1) = S 19 - 1 := by simp only [IntKind.wrap_i64]; omega
  rw [hv] at hsub
  clear hv hsub
  go_enter Tryz.func197, Tryz.ntmps197
  go_wp2_with fail
  rw [HV.out]
  refine (gtell_any 2 2 2 32768 8 0 (S 14) H1.out HX.out HOK2.out (by omega) HC2.out).mono ?_
  rintro e w2 ⟨rfl, h2, k2⟩
  have b5 : w2.cell? ⟨g, 19, none⟩ = some (.int .i64 v) := h2.st.cell 19 (by decide)
  have hl2 := h2.lt
  have H2 := zz h2
  have HB2 := zz (HB1.out.trans k2)
  clear h2 k2
  go_wp2
  refine bodyPost_ret (results_none rfl _ _ _) rfl ⟨rfl, ?_, HB2.out⟩
  rw [HE.out]
  exact H2.out
 ·have HE := zz (hitS_1_dn (F := F) (L := L) S (by rw [hv]; exact hup))
  rw [hv] at H1 HB1 HE
  have HV := zz hv
  clear hv
  have hle : v ≤ 0 := by omega
  clear hup
  go_enter Tryz.func197, Tryz.ntmps197
  go_wp2_with fail
  rw [HV.out]
  refine (gtell_any 2 2 2 32768 8 0 (S 14) H1.out HX.out HOK2.out (by omega) HC2.out).mono ?_
  rintro e w2 ⟨rfl, h2, k2⟩
  have b0 : w2.cell? ⟨g, 14, none⟩ = some (.int .i32 (S 14)) := h2.st.cell 14 (by decide)
  have b5 : w2.cell? ⟨g, 19, none⟩ = some (.int .i64 v) := h2.st.cell 19 (by decide)
  have b8 : w2.cell? ⟨g, 22, none⟩ = some (.int .i64 (S 22)) := h2.st.cell 22 (by decide)
  have b9 : w2.cell? ⟨g, 13, none⟩ = some (.int .i64 (S 13)) := h2.st.cell 13 (by decide)
  have y8 := h2.st.frozen 22
  have y9 := h2.st.frozen 13
  have hl2 := h2.lt
  have H3 := zz ((h2.set 22 (by decide) (k := .i64) rfl 30).set 13 (by decide) (k := .i64) rfl (S 13 + 1)).drew
  have HB3 := zz (bSetB7 (bSetB7 (HB1.out.trans k2) hbg 22 (.int .i64 30)) hbg 13 (.int .i64 (S 13 + 1))).drew
  clear h2 k2
  go_wp2
  go_big_region
  obtain ⟨w3, hw3⟩ : ∃ w3, ((w2.setCell ⟨g, 22, none⟩ (.int .i64 30)).setCell ⟨g, 13, none⟩ (.int .i64 (S 13 + 1))).drew = w3 := ⟨_, rfl⟩
  rw [hw3] at H3 HB3 ⊢
  clear hw3
  have d0 : w3.cell? ⟨g, 14, none⟩ = some (.int .i32 (S 14)) := H3.out.st.cell 14 (by decide)
  have hl3 := H3.out.lt
  go_wp2_with fail
  refine (gtell_any 2 5 5 32768 10 0 (S 14) H3.out HX.out HOK5.out (by rw [HLN.out]; omega) HC5.out).mono ?_
  rintro e w4 ⟨rfl, h4, k4⟩
  have H4 := zz h4
  have HB4 := zz (HB3.out.trans k4)
  clear h4 k4
  go_wp2
  go_end0
  rw [HE.out]
  exact ⟨rfl, H4.out, HB4.out⟩
end
end
section
structure PlM (p : Nat → Int) : Prop where
 ax : -3932160 ≤ p 0 ∧ p 0 ≤ 3932160
 ay : -3932160 ≤ p 1 ∧ p 1 ≤ 3932160
 wx : F32 (p 2)
 wy : F32 (p 3)
 fc : 0 ≤ p 4 ∧ p 4 ≤ 65535
 hp : 0 ≤ p 5 ∧ p 5 ≤ 3
 cl : 0 ≤ p 6 ∧ p 6 ≤ 8
 wd : 0 ≤ p 7 ∧ p 7 ≤ 20
 dn : 0 ≤ p 8 ∧ p 8 ≤ 30
 sc : 0 ≤ p 9 ∧ p 9 ≤ 3
 up : 0 < p 5 ↔ p 8 = 0
structure ShM (x : Nat → Int) : Prop where
 ax : -4194304 ≤ x 0 ∧ x 0 ≤ 4194304
 ay : -4194304 ≤ x 1 ∧ x 1 ≤ 4194304
 wx : F32 (x 2)
 wy : F32 (x 3)
 ow : 0 ≤ x 4 ∧ x 4 ≤ 2
 lf : 0 ≤ x 5 ∧ x 5 ≤ 40
 no : x 4 = 0 → shotZ x = true
 on : x 4 ≠ 0 → 1 ≤ x 5
structure StM (S : Nat → Int) : Prop where
 pl : ∀ i, i < 2 → PlM (getP S i)
 sc : ∀ i, i < 2 → S (4 + i * 10 + 9) ≤ 2 ∨ 0 < S (4 + (1 - i) * 10 + 8)
 sh : ∀ k, k < 6 → ShM (getS S k)
 dc : U32 (S 1)
 fr : 0 ≤ S 0 ∧ S 0 ≤ 1073741824
 rd : 0 ≤ S 2 ∧ S 2 ≤ 1073741824
 lf : 1 ≤ S 3 ∧ S 3 ≤ 600
theorem PlM.b {p : Nat → Int} (h : PlM p) (hs : p 9 ≤ 2) : PlB p :=
 ⟨⟨by have := h.ax; omega, by have := h.ax; omega⟩, ⟨by have := h.ay; omega, by have := h.ay; omega⟩, h.wx, h.wy, h.fc, h.hp, h.cl, h.wd, h.dn, ⟨h.sc.1, hs⟩⟩
theorem inB_iff (n lo hi : Int) : inB n lo hi = true ↔ lo ≤ n ∧ n ≤ hi := by unfold inB; simp
theorem playerB_iff (p : Nat → Int) : playerB p = true ↔ (0 ≤ p 4 ∧ p 4 ≤ 65535) ∧ (0 ≤ p 5 ∧ p 5 ≤ 3) ∧ (0 ≤ p 6 ∧ p 6 ≤ 8) ∧ (0 ≤ p 7 ∧ p 7 ≤ 20) ∧ (0 ≤ p 8 ∧ p 8 ≤ 30) ∧ (0 ≤ p 9 ∧ p 9 ≤ 2) ∧
  (-3932160 ≤ p 0 ∧ p 0 ≤ 3932160 ∧ -3932160 ≤ p 1 ∧ p 1 ≤ 3932160) ∧ (0 < p 5 ↔ p 8 = 0) := by
 have e : (decide (0 < p 5) = (p 8 == 0)) ↔ (0 < p 5 ↔ p 8 = 0) := by rw [Bool.eq_iff_iff]; simp
 unfold playerB insideB
 simp only [Bool.and_eq_true, inB_iff, decide_eq_true_eq, beq_iff_eq, e]
theorem PlM.right {p : Nat → Int} (h : PlM p) (hs : p 9 ≤ 2) : playerB p = true :=
 (playerB_iff p).2 ⟨h.fc, h.hp, h.cl, h.wd, h.dn, ⟨h.sc.1, hs⟩, ⟨h.ax.1, h.ax.2, h.ay.1, h.ay.2⟩, h.up⟩
theorem ShM.right {x : Nat → Int} (h : ShM x) : shotB x = true := by
 unfold shotB arenaB insideB
 simp only [Bool.or_eq_true, Bool.and_eq_true, inB_iff, decide_eq_true_eq]
 by_cases h4 : x 4 = 0
 ·exact .inl (h.no h4)
 ·have := h.ow
  have := h.on h4
  exact .inr ⟨by omega, ⟨this, h.lf.2⟩, h.ax.1, h.ax.2, h.ay.1, h.ay.2⟩
theorem rightS_iff (S : Nat → Int) : rightS S = true ↔ (∀ k, k < 6 → shotB (getS S k) = true) ∧ playerB (getP S 0) = true ∧ playerB (getP S 1) = true ∧ (0 ≤ S 0 ∧ S 0 ≤ 1073741824) ∧ (0 ≤ S 2 ∧ S 2 ≤ 1073741824) ∧ (1 ≤ S 3 ∧ S 3 ≤ 600) := by
 unfold rightS rightT
 simp only [Bool.and_eq_true, List.all_eq_true, List.mem_range, inB_iff]
structure StOk (S : Nat → Int) : Prop where
 m : StM S
 two : ∀ i, i < 2 → S (4 + i * 10 + 9) ≤ 2
theorem two_cases {q : Nat → Prop} (h0 : q 0) (h1 : q 1) : ∀ i, i < 2 → q i := fun i hi => by
 have : i = 0 ∨ i = 1 := by omega
 rcases this with rfl | rfl
 ·exact h0
 ·exact h1
theorem StOk.right {S : Nat → Int} (h : StOk S) : rightS S = true :=
 (rightS_iff S).2 ⟨fun k hk => (h.m.sh k hk).right, (h.m.pl 0 (by decide)).right (h.two 0 (by decide)), (h.m.pl 1 (by decide)).right (h.two 1 (by decide)), h.m.fr, h.m.rd, h.m.lf⟩
theorem PlM.congr {p q : Nat → Int} (h : PlM p) (e : ∀ j, j < 10 → q j = p j) : PlM q := by
 obtain ⟨a, b, c, d, f, g, i, j, k, l, m⟩ := h
 refine ⟨?_, ?_, ?_, ?_, ?_, ?_, ?_, ?_, ?_, ?_, ?_⟩ <;> simp only [e _ (by decide : 0 < 10), e _ (by decide : 1 < 10), e _ (by decide : 2 < 10), e _ (by decide : 3 < 10), e _ (by decide : 4 < 10), e _ (by decide : 5 < 10), e _ (by decide : 6 < 10), e _ (by decide : 7 < 10), e _ (by decide : 8 < 10), e _ (by decide : 9 < 10)] <;> assumption
theorem ShM.congr {p q : Nat → Int} (h : ShM p) (e : ∀ j, j < 6 → q j = p j) : ShM q := by
 obtain ⟨a, b, c, d, f, g, i, j⟩ := h
 have hz : shotZ q = shotZ p := by unfold shotZ; rw [e 0 (by decide), e 1 (by decide), e 2 (by decide), e 3 (by decide), e 4 (by decide), e 5 (by decide)]
 refine ⟨?_, ?_, ?_, ?_, ?_, ?_, ?_, ?_⟩ <;> simp only [hz, e _ (by decide : 0 < 6), e _ (by decide : 1 < 6), e _ (by decide : 2 < 6), e _ (by decide : 3 < 6), e _ (by decide : 4 < 6), e _ (by decide : 5 < 6)] <;> assumption
theorem StM.sput {S x : Nat → Int} (h : StM S) {k : Nat} (hk : k < 6) (hx : ShM x) : StM (putS S k x) := by
 have hlow : ∀ j, j < 24 → putS S k x j = S j := fun j hj => putS_other S k x j (.inl (by omega))
 refine ⟨fun i hi => (h.pl i hi).congr fun j hj => getP_putS S i k hi x j hj, fun i hi => ?_, fun m hm => ?_, ?_, ?_, ?_, ?_⟩
 ·rw [hlow _ (by omega), hlow _ (by omega)]; exact h.sc i hi
 ·by_cases e : k = m
  ·subst e; exact hx.congr fun j hj => getS_putS S k x j hj
  ·exact (h.sh m hm).congr fun j hj => getS_putS_ne S k m e x j hj
 ·rw [hlow 1 (by decide)]; exact h.dc
 ·rw [hlow 0 (by decide)]; exact h.fr
 ·rw [hlow 2 (by decide)]; exact h.rd
 ·rw [hlow 3 (by decide)]; exact h.lf
theorem StOk.sput {S x : Nat → Int} (h : StOk S) {k : Nat} (hk : k < 6) (hx : ShM x) : StOk (putS S k x) :=
 ⟨h.m.sput hk hx, fun i hi => by rw [putS_other S k x _ (.inl (by omega))]; exact h.two i hi⟩
theorem StM.pput {S p : Nat → Int} (h : StM S) {i : Nat} (hi : i < 2) (hp : PlM p) (h9 : p 9 ≤ 2 ∨ 0 < S (4 + (1 - i) * 10 + 8)) (h8 : S (4 + (1 - i) * 10 + 9) ≤ 2 ∨ 0 < p 8) : StM (putP S i p) := by
 have hother : ∀ m j, m < 2 → m ≠ i → j < 10 → putP S i p (4 + m * 10 + j) = S (4 + m * 10 + j) := fun m j hm hne hj => putP_other S i p _ (by omega)
 refine ⟨fun m hm => ?_, fun m hm => ?_, fun m hm => ?_, ?_, ?_, ?_, ?_⟩
 ·by_cases e : i = m
  ·subst e; exact hp.congr fun j hj => getP_putP S i p j hj
  ·exact (h.pl m hm).congr fun j hj => getP_putP_ne S i m e p j hj
 ·by_cases e : m = i
  ·subst e
   rw [putP_at S m p 9 (by decide), hother (1 - m) 8 (by omega) (by omega) (by decide)]
   exact h9
  ·have e1 : 1 - m = i := by omega
   have e2 : m = 1 - i := by omega
   rw [e1, putP_at S i p 8 (by decide), hother m 9 hm e (by decide), e2]
   exact h8
 ·rw [getS_putP S i m hi]; exact h.sh m hm
 ·rw [putP_other S i p 1 (by omega)]; exact h.dc
 ·rw [putP_other S i p 0 (by omega)]; exact h.fr
 ·rw [putP_other S i p 2 (by omega)]; exact h.rd
 ·rw [putP_other S i p 3 (by omega)]; exact h.lf
theorem StOk.pput {S p : Nat → Int} (h : StOk S) {i : Nat} (hi : i < 2) (hp : PlM p) (h9 : p 9 ≤ 2) : StOk (putP S i p) := by
 refine ⟨h.m.pput hi hp (.inl h9) (.inl (h.two _ (by omega))), fun m hm => ?_⟩
 by_cases e : m = i
 ·subst e; rw [putP_at S m p 9 (by decide)]; exact h9
 ·rw [putP_other S i p _ (by omega)]; exact h.two m hm
theorem StM.head {S : Nat → Int} (h : StM S) {j : Nat} {v : Int} (hj : j < 4) (hd : j = 1 → U32 v) (h0 : j = 0 → 0 ≤ v ∧ v ≤ 1073741824) (h2 : j = 2 → 0 ≤ v ∧ v ≤ 1073741824) (h3 : j = 3 → 1 ≤ v ∧ v ≤ 600) : StM (upd S j v) := by
 have ho : ∀ m, 4 ≤ m → upd S j v m = S m := fun m hm => upd_other _ _ _ _ (by omega)
 refine ⟨fun i hi => (h.pl i hi).congr fun m hm => ho _ (by omega), fun i hi => by rw [ho _ (by omega), ho _ (by omega)]; exact h.sc i hi, fun k hk => (h.sh k hk).congr fun m hm => ho _ (by omega), ?_, ?_, ?_, ?_⟩
 ·by_cases e : j = 1
  ·subst e; rw [upd_same]; exact hd rfl
  ·rw [upd_other _ _ _ _ (fun x => e x.symm)]; exact h.dc
 ·by_cases e : j = 0
  ·subst e; rw [upd_same]; exact h0 rfl
  ·rw [upd_other _ _ _ _ (fun x => e x.symm)]; exact h.fr
 ·by_cases e : j = 2
  ·subst e; rw [upd_same]; exact h2 rfl
  ·rw [upd_other _ _ _ _ (fun x => e x.symm)]; exact h.rd
 ·by_cases e : j = 3
  ·subst e; rw [upd_same]; exact h3 rfl
  ·rw [upd_other _ _ _ _ (fun x => e x.symm)]; exact h.lf
theorem StOk.head {S : Nat → Int} (h : StOk S) {j : Nat} {v : Int} (hj : j < 4) (hd : j = 1 → U32 v) (h0 : j = 0 → 0 ≤ v ∧ v ≤ 1073741824) (h2 : j = 2 → 0 ≤ v ∧ v ≤ 1073741824) (h3 : j = 3 → 1 ≤ v ∧ v ≤ 600) : StOk (upd S j v) :=
 ⟨h.m.head hj hd h0 h2 h3, fun i hi => by rw [upd_other _ _ _ _ (by omega)]; exact h.two i hi⟩
structure EvN (L : List Ev) (a b : Nat) : Prop where
 len : L.length ≤ a
 cnt : ∀ em kd, kd = 2 ∨ kd = 5 → cntE L em kd ≤ b
theorem EvN.nil : EvN [] 0 0 := ⟨by simp, fun _ _ _ => by simp [cntE]⟩
theorem EvN.more {L : List Ev} {a b a' b' : Nat} (h : EvN L a b) (ha : a ≤ a') (hb : b ≤ b') : EvN L a' b' := ⟨Nat.le_trans h.len ha, fun em kd hk => Nat.le_trans (h.cnt em kd hk) hb⟩
theorem cntE_addE (F : Int) (L : List Ev) (x : Ev) (em kd : Int) : cntE (addE F L x) em kd = cntE L em kd + if sameK em kd x then 1 else 0 := cntE_ins L _ _ em kd
theorem EvN.add {L : List Ev} {a b : Nat} (h : EvN L a b) (F : Int) (x : Ev) (h2 : x.kind ≠ 2) (h5 : x.kind ≠ 5) : EvN (addE F L x) (a + 1) b :=
 ⟨by rw [addE_length]; have := h.len; omega, fun em kd hk => by
  rw [cntE_addE, if_neg]
  ·exact h.cnt em kd hk
  ·unfold sameK
   rw [decide_eq_false (show ¬ x.kind = kd by rintro rfl; rcases hk with e | e <;> contradiction)]
   simp⟩
theorem EvN.hit {L : List Ev} {a b : Nat} (h : EvN L a b) (F : Int) (x : Ev) : EvN (addE F L x) (a + 1) (b + 1) :=
 ⟨by rw [addE_length]; have := h.len; omega, fun em kd hk => by
  rw [cntE_addE]
  have := h.cnt em kd hk
  split <;> omega⟩
theorem EvN.hits {L : List Ev} {a b : Nat} (h : EvN L a b) (F : Int) (x y : Ev) (hx : x.kind = 2) (hy : y.kind = 5) : EvN (addE F (addE F L x) y) (a + 2) (b + 1) :=
 ⟨by rw [addE_length, addE_length]; have := h.len; omega, fun em kd hk => by
  rw [cntE_addE, cntE_addE]
  have := h.cnt em kd hk
  unfold sameK
  rw [hx, hy]
  rcases hk with rfl | rfl
  ·rw [decide_eq_false (show ¬ (5 : Int) = 2 by decide)]
   simp
   split <;> omega
  ·rw [decide_eq_false (show ¬ (2 : Int) = 5 by decide)]
   simp
   split <;> omega⟩
end
end Go.Proofs.YtibeihcpehikoaaGreat
