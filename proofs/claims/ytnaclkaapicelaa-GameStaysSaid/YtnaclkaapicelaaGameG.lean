/-
  GameStays: the law's walk.
-/
import Derived.Test.YtnaclkaapicelaaGameF
import Derived.Outline
namespace Go.Proofs.Ytnaclkaapicelaa
open Go.RowKit
set_option maxRecDepth 100000
set_option linter.unusedSimpArgs false
theorem len_gt {n k : Nat} (h : k < n) : decide ((k : Int) < (n : Int)) = true := decide_eq_true (by omega)
theorem len_ngt {n k : Nat} (h : ¬ k < n) : decide ((k : Int) < (n : Int)) = false := decide_eq_false (by omega)
/-- What a step answers, told ahead. -/
def stepTold (w : World) (T : Nat → Int) (L : List Ev) : Told :=
  ⟨fun v => ∃ A c, v = .tuple #[.agg (stCells T).toArray, .slice A L.length c, .int .i64 0], fun v W => ∀ A c, v = .tuple #[.agg (stCells T).toArray, .slice A L.length c, .int .i64 0] → OwnL W w.heap.size 45 9 (.slice A L.length c) Ev.cells L⟩
theorem stepTold_st {w : World} {T : Nat → Int} {L : List Ev} : ∀ v W U, (stepTold w T L).R v W → Grown W U → (stepTold w T L).R v U := fun _ _ _ h k A c hv => (h A c hv).below k
theorem stepTold_of {w W : World} {S T : Nat → Int} {L : List Ev} {n0 n1 : Nat} (hW : Grown w W) (hok : StOk S) (hF : S 0 < 1073741824) (h0 : n0 < 64) (h1 : n1 < 64) (hTL : stepS n0 n1 S = (T, L)) :
    Calls Try.prog 11 #[.agg (stCells S).toArray, .agg #[.int .u8 n0, .int .u8 n1]] W fun e w' => ∃ v, e = .returned v ∧ ((stepTold w T L).S v ∧ (stepTold w T L).R v w') ∧ Grown W w' := by
  have := gStep_yes (w := W) hok hF h0 h1
  rw [hTL] at this
  refine this.mono ?_
  rintro e w' ⟨A, c, rfl, ho, hb⟩
  refine ⟨_, rfl, ⟨⟨A, c, rfl⟩, fun A' c' hv => ?_⟩, hb⟩
  simp only [Value.tuple.injEq, Array.mk.injEq, List.cons.injEq, Value.slice.injEq, true_and, and_true] at hv
  obtain ⟨rfl, rfl⟩ := hv
  exact ho.more (Below.size hW)
section
variable {S : Nat → Int} {A : Option Addr} {c : Nat} {l : List (Nat × Nat)} {w : World}
set_option maxHeartbeats 4000000 in
theorem stays_1 (hn : 100 < l.length) : Calls Try.prog 3 #[.agg (stCells S).toArray, .slice A l.length c] w fun e w' => e = .returned (.bool true) ∧ Below w.heap.size w w' := by
  obtain ⟨n, hl⟩ : ∃ n, l.length = n := ⟨_, rfl⟩
  rw [hl] at hn ⊢
  have g1 : decide ((100 : Int) < (n : Int)) = true := len_gt hn
  clear hl
  go_enter Try.func3, Try.ntmps3
  go_upto_region 1 with fail
  refine named1 (F := fun W => Code.wp _ _ _ _ W) ?_
  intro w1 k0 hb1 hz1
  have HK0 := Lib.hid k0
  have HB1 := Lib.hid hb1
  clear k0 hb1 hz1
  go_upto_region 3 with (first | (go_at_call 9; refine (awake12_any _).mono ?_; rintro e w2 ⟨rfl, hb2⟩))
  have HK2 := Lib.hid (HK0.out.on hb2)
  have HB2 := Lib.hid (bTrans HB1.out hb2)
  clear hb2 HK0 HB1
  go_wp2_with fail
  go_ret
  exact ⟨rfl, HB2.out⟩
set_option maxHeartbeats 4000000 in
theorem stays_2 (hn : ¬ 100 < l.length) (hr : rightS S = false) : Calls Try.prog 3 #[.agg (stCells S).toArray, .slice A l.length c] w fun e w' => e = .returned (.bool true) ∧ Below w.heap.size w w' := by
  obtain ⟨n, hl⟩ : ∃ n, l.length = n := ⟨_, rfl⟩
  rw [hl] at hn ⊢
  have g1 : decide ((100 : Int) < (n : Int)) = false := len_ngt hn
  have HR := Lib.hid (fun W => (gRight_any S W).mono fun e w' ⟨he, hb⟩ => (⟨by rw [he, hr], hb⟩ : e = Ending.returned (.bool false) ∧ Below W.heap.size W w'))
  clear hl hr
  go_enter Try.func3, Try.ntmps3
  go_upto_region 1 with fail
  refine named1 (F := fun W => Code.wp _ _ _ _ W) ?_
  intro w1 k0 hb1 hz1
  have HK0 := Lib.hid k0
  have HB1 := Lib.hid hb1
  clear k0 hb1 hz1
  go_upto_region 3 with (first | (go_at_call 9; refine (awake12_any _).mono ?_; rintro e w2 ⟨rfl, hb2⟩))
  have HK2 := Lib.hid (HK0.out.on hb2)
  have HB2 := Lib.hid (bTrans HB1.out hb2)
  clear hb2 HK0 HB1
  go_wp2_with (first | (refine wpList_load_midG rfl 33 (.tmp 2) rfl w.heap.size 0 rfl (stCells S) _ (Blk.range HK2.out) Try.underlying33 rfl (by kernel_rfl) ?_) | (go_at_call 10; refine (HR.out _).mono ?_; rintro e w3 ⟨rfl, hb3⟩; have HK3 := HK2.out.on hb3; have e2 : w3.cell? ⟨w.heap.size, 2, none⟩ = some (.int .i64 (S 2)) := st_cell HK3 2 (by decide); have e0 : w3.cell? ⟨w.heap.size, 0, none⟩ = some (.int .i64 (S 0)) := st_cell HK3 0 (by decide); have hl3 := HK3.lt; have HK3 := Lib.hid HK3; have HB3 := Lib.hid (bTrans HB2.out hb3); clear hb3))
  go_ret
  exact ⟨rfl, HB3.out⟩
set_option maxHeartbeats 4000000 in
theorem stays_3 (hn : ¬ 100 < l.length) (hr : rightS S = true) (h2 : 1000000 < S 2) : Calls Try.prog 3 #[.agg (stCells S).toArray, .slice A l.length c] w fun e w' => e = .returned (.bool true) ∧ Below w.heap.size w w' := by
  obtain ⟨n, hl⟩ : ∃ n, l.length = n := ⟨_, rfl⟩
  rw [hl] at hn ⊢
  have g1 : decide ((100 : Int) < (n : Int)) = false := len_ngt hn
  have HR := Lib.hid (fun W => (gRight_any S W).mono fun e w' ⟨he, hb⟩ => (⟨by rw [he, hr], hb⟩ : e = Ending.returned (.bool true) ∧ Below W.heap.size W w'))
  have g2 : decide (1000000 < S 2) = true := decide_eq_true h2
  clear hl hr h2
  go_enter Try.func3, Try.ntmps3
  go_upto_region 1 with fail
  refine named1 (F := fun W => Code.wp _ _ _ _ W) ?_
  intro w1 k0 hb1 hz1
  have HK0 := Lib.hid k0
  have HB1 := Lib.hid hb1
  clear k0 hb1 hz1
  go_upto_region 3 with (first | (go_at_call 9; refine (awake12_any _).mono ?_; rintro e w2 ⟨rfl, hb2⟩))
  have HK2 := Lib.hid (HK0.out.on hb2)
  have HB2 := Lib.hid (bTrans HB1.out hb2)
  clear hb2 HK0 HB1
  go_wp2_with (first | (refine wpList_load_midG rfl 33 (.tmp 2) rfl w.heap.size 0 rfl (stCells S) _ (Blk.range HK2.out) Try.underlying33 rfl (by kernel_rfl) ?_) | (go_at_call 10; refine (HR.out _).mono ?_; rintro e w3 ⟨rfl, hb3⟩; have HK3 := HK2.out.on hb3; have e2 : w3.cell? ⟨w.heap.size, 2, none⟩ = some (.int .i64 (S 2)) := st_cell HK3 2 (by decide); have e0 : w3.cell? ⟨w.heap.size, 0, none⟩ = some (.int .i64 (S 0)) := st_cell HK3 0 (by decide); have hl3 := HK3.lt; have HK3 := Lib.hid HK3; have HB3 := Lib.hid (bTrans HB2.out hb3); clear hb3))
  go_ret
  exact ⟨rfl, HB3.out⟩
set_option maxHeartbeats 4000000 in
theorem stays_4 (hn : ¬ 100 < l.length) (hr : rightS S = true) (h2 : ¬ 1000000 < S 2) (h0 : 1000000 < S 0) : Calls Try.prog 3 #[.agg (stCells S).toArray, .slice A l.length c] w fun e w' => e = .returned (.bool true) ∧ Below w.heap.size w w' := by
  obtain ⟨n, hl⟩ : ∃ n, l.length = n := ⟨_, rfl⟩
  rw [hl] at hn ⊢
  have g1 : decide ((100 : Int) < (n : Int)) = false := len_ngt hn
  have HR := Lib.hid (fun W => (gRight_any S W).mono fun e w' ⟨he, hb⟩ => (⟨by rw [he, hr], hb⟩ : e = Ending.returned (.bool true) ∧ Below W.heap.size W w'))
  have g2 : decide (1000000 < S 2) = false := decide_eq_false h2
  have g3 : decide (1000000 < S 0) = true := decide_eq_true h0
  clear hl hr h2 h0
  go_enter Try.func3, Try.ntmps3
  go_upto_region 1 with fail
  refine named1 (F := fun W => Code.wp _ _ _ _ W) ?_
  intro w1 k0 hb1 hz1
  have HK0 := Lib.hid k0
  have HB1 := Lib.hid hb1
  clear k0 hb1 hz1
  go_upto_region 3 with (first | (go_at_call 9; refine (awake12_any _).mono ?_; rintro e w2 ⟨rfl, hb2⟩))
  have HK2 := Lib.hid (HK0.out.on hb2)
  have HB2 := Lib.hid (bTrans HB1.out hb2)
  clear hb2 HK0 HB1
  go_wp2_with (first | (refine wpList_load_midG rfl 33 (.tmp 2) rfl w.heap.size 0 rfl (stCells S) _ (Blk.range HK2.out) Try.underlying33 rfl (by kernel_rfl) ?_) | (go_at_call 10; refine (HR.out _).mono ?_; rintro e w3 ⟨rfl, hb3⟩; have HK3 := HK2.out.on hb3; have e2 : w3.cell? ⟨w.heap.size, 2, none⟩ = some (.int .i64 (S 2)) := st_cell HK3 2 (by decide); have e0 : w3.cell? ⟨w.heap.size, 0, none⟩ = some (.int .i64 (S 0)) := st_cell HK3 0 (by decide); have hl3 := HK3.lt; have HK3 := Lib.hid HK3; have HB3 := Lib.hid (bTrans HB2.out hb3); clear hb3))
  go_ret
  exact ⟨rfl, HB3.out⟩
theorem Rd.pb {w : World} {B : Nat} {A : Option Addr} {l : List (Nat × Nat)} (h : Rd w B A (l.flatMap pbCells)) {k : Nat} (hk : k < l.length) :
    ∃ b off, A = some ⟨b, off, none⟩ ∧ b < B ∧ w.cell? ⟨b, off + k * 2, none⟩ = some (.int .u8 l[k].1) ∧ w.cell? ⟨b, off + k * 2 + 1, none⟩ = some (.int .u8 l[k].2) := by
  obtain ⟨b, off, hA, hb, hat⟩ := h.at_ pbCells_length (by omega) hk
  exact ⟨b, off, hA, hb, hat 0 _ rfl, hat 1 _ rfl⟩
set_option maxHeartbeats 8000000 in
theorem stays_5 (hfit : FitS S) (hn : ¬ 100 < l.length) (hr : rightS S = true) (h2 : ¬ 1000000 < S 2) (h0 : ¬ 1000000 < S 0) (hrd : Rd w w.heap.size A (l.flatMap pbCells)) (hb : ∀ q ∈ l, q.1 < 256 ∧ q.2 < 256) :
    Calls Try.prog 3 #[.agg (stCells S).toArray, .slice A l.length c] w fun e w' => e = .returned (.bool true) ∧ Below w.heap.size w w' := by
  have HOK := Lib.hid (StOk.of hfit hr)
  obtain ⟨n, hl⟩ : ∃ n, l.length = n := ⟨_, rfl⟩
  rw [hl] at hn ⊢
  have g1 : decide ((100 : Int) < (n : Int)) = false := len_ngt hn
  have HR := Lib.hid (fun W => (gRight_any S W).mono fun e w' ⟨he, hb⟩ => (⟨by rw [he, hr], hb⟩ : e = Ending.returned (.bool true) ∧ Below W.heap.size W w'))
  have g2 : decide (1000000 < S 2) = false := decide_eq_false h2
  have g3 : decide (1000000 < S 0) = false := decide_eq_false h0
  have HN := Lib.hid hl
  have H2 := Lib.hid h2
  have H0 := Lib.hid h0
  have HRD := Lib.hid hrd
  have HB := Lib.hid hb
  have hn100 : n ≤ 100 := by omega
  clear hl hr h2 h0 hfit hn hrd hb
  go_enter Try.func3, Try.ntmps3
  go_upto_region 1 with fail
  refine named1 (F := fun W => Code.wp _ _ _ _ W) ?_
  intro w1 k0 hb1 hz1
  have HK0 := Lib.hid k0
  have HB1 := Lib.hid hb1
  clear k0 hb1 hz1
  go_upto_region 3 with (first | (go_at_call 9; refine (awake12_any _).mono ?_; rintro e w2 ⟨rfl, hb2⟩))
  have HK2 := Lib.hid (HK0.out.on hb2)
  have HB2 := Lib.hid (bTrans HB1.out hb2)
  clear hb2 HK0 HB1
  go_wp2_with (first | (refine wpList_load_midG rfl 33 (.tmp 2) rfl w.heap.size 0 rfl (stCells S) _ (Blk.range HK2.out) Try.underlying33 rfl (by kernel_rfl) ?_) | (go_at_call 10; refine (HR.out _).mono ?_; rintro e w3 ⟨rfl, hb3⟩; have HK3 := HK2.out.on hb3; have e2 : w3.cell? ⟨w.heap.size, 2, none⟩ = some (.int .i64 (S 2)) := st_cell HK3 2 (by decide); have e0 : w3.cell? ⟨w.heap.size, 0, none⟩ = some (.int .i64 (S 0)) := st_cell HK3 0 (by decide); have hl3 := HK3.lt; have HK3 := Lib.hid HK3; have HB3 := Lib.hid (bTrans HB2.out hb3); clear hb3))
  go_loopw [5] (fun v wr => ∃ (i : Nat) (T : Nat → Int), i ≤ n ∧ v = .int .i64 i ∧ Hid (StOk T) ∧ Hid (T 0 = S 0 + i) ∧ Hid (T 2 ≤ S 2 + i) ∧ Hid (Blk wr w.heap.size 33 (stCells T).toArray) ∧ Hid (Below w.heap.size w wr)) (fun v _ => n - (intOf v).toNat)
  case atStart => exact ⟨0, S, Nat.zero_le _, rfl, HOK, Lib.hid (by simp), Lib.hid (by simp), HK3, HB3⟩
  case round =>
    obtain ⟨i, T, hi, rfl, HT, HT0, HT2, HBT, HBB⟩ := hrel
    have hlg := HBT.out.lt
    by_cases hlt : i < n
    · have hil : i < l.length := by rw [HN.out]; exact hlt
      obtain ⟨b, off, hA, hbl, p0, p1⟩ := (HRD.out.below HBB.out (Nat.le_refl _)).pb hil
      obtain ⟨hx1, hy1⟩ := HB.out l[i] (List.getElem_mem hil)
      obtain ⟨x, hx⟩ : ∃ x, l[i].1 = x := ⟨_, rfl⟩
      obtain ⟨y, hy⟩ : ∃ y, l[i].2 = y := ⟨_, rfl⟩
      rw [hx] at p0 hx1
      rw [hy] at p1 hy1
      have hbw : b < wr.heap.size := Nat.lt_trans hbl hlg
      have hmx : ((x % 64 : Nat) : Int) = (x : Int) % 64 := by omega
      have hmy : ((y % 64 : Nat) : Int) = (y : Int) % 64 := by omega
      obtain ⟨T', L', hTL⟩ : ∃ T' L', stepS (x % 64) (y % 64) T = (T', L') := ⟨_, _, rfl⟩
      have hF : T 0 < 1073741824 := by have h1 := HT0.out; have h2 := H0.out; omega
      have hR : T 2 < 1073741824 := by have h1 := HT2.out; have h2 := H2.out; omega
      obtain ⟨k1, k2, k3, k4, k5⟩ := stepS_ok (x % 64) (y % 64) HT.out hF hR
      have kf := stepS_fr (x % 64) (y % 64) T
      rw [hTL] at k1 k2 k3 k4 k5 kf
      have HSTEP : Hid (∀ W, Grown wr W → Calls Try.prog 11 #[.agg (stCells T).toArray, .agg #[.int .u8 ((x : Int) % 64), .int .u8 ((y : Int) % 64)]] W fun e w' => ∃ v, e = .returned v ∧ ((stepTold wr T' L').S v ∧ (stepTold wr T' L').R v w') ∧ Grown W w') := Lib.hid (fun W hW => by
        rw [← hmx, ← hmy]
        exact stepTold_of hW HT.out hF (Nat.mod_lt _ (by decide)) (Nat.mod_lt _ (by decide)) hTL)
      have HT' := Lib.hid k1
      have HLL := Lib.hid (show L'.length ≤ 22 from k2)
      have HT0' := Lib.hid (show T' 0 = T 0 + 1 from k3)
      have HT2' := Lib.hid (show T' 2 ≤ T 2 + 1 from k5)
      have HFL := Lib.hid kf
      clear k1 k2 k3 k4 k5 kf hTL hmx hmy hF hR hx hy hil
      have hxi : (0 : Int) ≤ x := by omega
      have hyi : (0 : Int) ≤ y := by omega
      subst hA
      have hKp := Keeps.base wr
      go_upto_region 8 with fail
      refine wp_region_mixed [.held, .pure, .pure, .pure, .pure, .held, .pure, .pure, .pure, .pure, .pure, .held, .pure, .pure, .make, .pure, .pure, .pure, .pure, .make, .tail, .pure, .pure] (fun | 14 => stepTold wr T' L' | _ => newTold wr 33 (stCells zeroT).toArray) (by kernel_rfl) (by kernel_rfl) ?_
      refine mix_load rfl rfl (by assumption) 33 (.tmp 2) rfl w.heap.size 0 rfl (stCells T) _ hlg (Blk.range HBT.out) Try.underlying33 rfl (by kernel_rfl) ?_
      simp only [Act.put, List.setIfInBounds_toArray, List.set_cons_zero, List.set_cons_succ]
      repeat (first | (refine mix_pure rfl rfl rfl (fun K hK => ?_); go_big_quiet_op; refine hK _ ?_; clear hK K) | (refine mix_held rfl rfl rfl (by assumption) (fun K hK => ?_); go_big_quiet_op; refine hK _ ?_; clear hK K))
      refine mix_make rfl rfl (by assumption) stepTold_st (fun W hW => ?_) ?_
      · have HS2 := Lib.hid (HSTEP.out W hW)
        go_simp
        exact HS2.out
      rintro v ⟨A', c', rfl⟩ hKp2
      simp only [Act.put, List.setIfInBounds_toArray, List.set_cons_zero, List.set_cons_succ]
      repeat (first | (refine mix_pure rfl rfl rfl (fun K hK => ?_); go_big_quiet_op; refine hK _ ?_; clear hK K) | (refine mix_held rfl rfl rfl (by assumption) (fun K hK => ?_); go_big_quiet_op; refine hK _ ?_; clear hK K))
      refine mix_make rfl rfl (by assumption) newTold_st (newTold_makes rfl zero_state rfl) ?_
      rintro v ⟨g, rfl⟩ hKp3
      simp only [Act.put, List.setIfInBounds_toArray, List.set_cons_zero, List.set_cons_succ]
      refine mix_store rfl rfl 33 (.tmp 6) (.tmp 52) rfl g 0 (stCells T').toArray rfl rfl (fun W hW => ?_) (by kernel_rfl) (all_oneCell_toArray (int_one T')) ?_
      · have := (hW.2 g rfl).2
        exact Blk.there this (by rw [List.size_toArray, List.size_toArray, stCells_length, stCells_length]; decide)
      simp only [Act.put, List.setIfInBounds_toArray, List.set_cons_zero, List.set_cons_succ]
      repeat (first | (refine mix_pure rfl rfl rfl (fun K hK => ?_); go_big_quiet_op; refine hK _ ?_; clear hK K) | (refine mix_held rfl rfl rfl (by assumption) (fun K hK => ?_); go_big_quiet_op; refine hK _ ?_; clear hK K))
      refine mix_nil ?_
      rintro W' ⟨W, ⟨⟨hg, hR1⟩, hR2⟩, rfl⟩
      obtain ⟨hge, hBg⟩ := hR2 g rfl
      have ho := hR1 A' c' rfl
      have hsz : (stCells T').toArray.toList.length = (stCells zeroT).toArray.size := by rw [List.size_toArray, stCells_length]; exact stCells_length T'
      have hBg' := hBg.whole (stCells T').toArray.toList hsz
      have ho' := OwnL.kept (row := some g) ho (oSetCells (World.grownBy.refl W g) 0 (stCells T').toArray.toList) (.inr (Blk.apart hBg ho (by decide)))
      have hB0 := (HBT.out.on hg).farC (show w.heap.size ≠ g by omega) 0 (stCells T').toArray.toList
      have hbw5 := bSetCells (HBB.out.trans (Below.mono hg (Nat.le_of_lt hlg))) (show w.heap.size ≤ g by omega) 0 (stCells T').toArray.toList
      obtain ⟨W5, hW5⟩ : ∃ W5, W.setCells g 0 (stCells T').toArray.toList = W5 := ⟨_, rfl⟩
      rw [hW5] at hBg' ho' hB0 hbw5 ⊢
      rw [Array.toArray_toList] at hBg'
      have HG5 := Lib.hid hBg'
      have HO5 := Lib.hid ho'
      have HS5 := Lib.hid hB0
      have HB5 := Lib.hid hbw5
      clear hW5 hBg ho hsz hBg' ho' hB0 hbw5 hR1 hR2 hg hKp hKp2 hKp3 HSTEP HBT HBB p0 p1 hbw hxi hyi hx1 hy1 hbl
      have hgl := HG5.out.lt
      have hsl := HS5.out.lt
      have e0 : W5.cell? ⟨g, 0, none⟩ = some (.int .i64 (T' 0)) := st_cell HG5.out 0 (by decide)
      have e1 : W5.cell? ⟨w.heap.size, 0, none⟩ = some (.int .i64 (T 0)) := st_cell HS5.out 0 (by decide)
      have hlo : 0 ≤ T 0 := HT.out.m.fr.1
      have hhi : T 0 ≤ 1000100 := by have h1 := HT0.out; have h2 := H0.out; omega
      have hq : (T' 0 != T 0 + 1) = false := by rw [HT0'.out]; simp
      have HR2 := Lib.hid (fun V => (gRight_any T' V).mono fun e w' ⟨he, hb⟩ => (⟨by rw [he, HT'.out.right], hb⟩ : e = Ending.returned (.bool true) ∧ Below V.heap.size V w'))
      go_wp2_with (first
        | (refine wpList_load_midG rfl 33 (.tmp 6) rfl g 0 rfl (stCells T') _ (Blk.range HG5.out) Try.underlying33 rfl (by kernel_rfl) ?_)
        | (go_at_call 10; refine (HR2.out _).mono ?_; rintro e W6 ⟨rfl, hb6⟩; have e0' : W6.cell? ⟨g, 0, none⟩ = some (.int .i64 (T' 0)) := st_cell (HG5.out.on hb6) 0 (by decide); have e1' : W6.cell? ⟨w.heap.size, 0, none⟩ = some (.int .i64 (T 0)) := st_cell (HS5.out.on hb6) 0 (by decide); have HB6 := Lib.hid hb6; clear hb6))
      have HG6 := Lib.hid (HG5.out.on HB6.out)
      have HS6 := Lib.hid (HS5.out.on HB6.out)
      have HO6 := Lib.hid (HO5.out.below HB6.out)
      have HBW6 := Lib.hid (bTrans HB5.out HB6.out)
      clear e0 e1 e0' e1' hq HG5 HS5 HO5 HB5 HB6
      obtain ⟨m, hm⟩ : ∃ m, L'.length = m := ⟨_, rfl⟩
      rw [hm] at HO6 ⊢
      have HM := Lib.hid hm
      have hm22 : m ≤ 22 := by rw [← hm]; exact HLL.out
      clear hm HLL
      go_loopw [9] (fun v wr2 => ∃ j : Nat, j ≤ m ∧ v = .int .i64 j ∧ Hid (Grown W6 wr2)) (fun v _ => m - (intOf v).toNat)
      case atStart => exact ⟨0, Nat.zero_le _, rfl, Lib.hid (Grown.refl _)⟩
      case round =>
        obtain ⟨j, hj, rfl, HGR⟩ := hrel
        by_cases hjl : j < m
        · have hjL : j < L'.length := by rw [HM.out]; exact hjl
          obtain ⟨b2, off2, hA2, hb2, q0, -⟩ := (HO6.out.below HGR.out).rd.ev hjL
          rw [HFL.out _ (List.getElem_mem hjL)] at q0
          have e1 : wr.cell? ⟨w.heap.size, 0, none⟩ = some (.int .i64 (T 0)) := st_cell (HS6.out.on HGR.out) 0 (by decide)
          have hsl2 := (HS6.out.on HGR.out).lt
          subst hA2
          go_wp2_with fail
          go_quiet (fail)
          go_wp2
          go_roundw
          case rel => exact ⟨j + 1, by omega, by go_num, Lib.hid (below_drewN HGR.out _)⟩
          case measure => simp [intOf]; omega
        · obtain rfl : j = m := by omega
          have HGJ := Lib.hid (HG6.out.on HGR.out)
          have hsj := HS6.out.on HGR.out
          have HTH := Lib.hid (Blk.there hsj (o := 0) (n := (stCells T').toArray.size) (by rw [List.size_toArray, List.size_toArray, stCells_length, stCells_length]; decide))
          have hsl2 := hsj.lt
          have hgl2 := HGJ.out.lt
          have HSN := Lib.hid (hsj.whole (stCells T').toArray.toList (by rw [List.size_toArray, stCells_length]; exact stCells_length T'))
          have HBN := Lib.hid (bSetCells (bTrans HBW6.out HGR.out) (Nat.le_refl w.heap.size) 0 (stCells T').toArray.toList)
          clear hsj
          go_upto_region 7 with (first
            | (refine wpList_load_mid rfl 33 (.tmp 6) rfl g 0 rfl (stCells T') _ (Blk.range HGJ.out) Try.underlying33 rfl (by kernel_rfl) ?_)
            | (refine wpList_store_mid rfl 33 (.tmp 2) (.tmp 85) rfl w.heap.size 0 (stCells T').toArray rfl rfl HTH.out (by kernel_rfl) (all_oneCell_toArray (int_one T')) ?_))
          obtain ⟨W8, hW8⟩ : ∃ W8, wr.setCells w.heap.size 0 (stCells T').toArray.toList = W8 := ⟨_, rfl⟩
          rw [hW8] at HSN HBN ⊢
          rw [Array.toArray_toList] at HSN
          clear hW8 HTH
          go_wp2_with fail
          go_roundw
          case rel => exact ⟨i + 1, T', by omega, by go_num, HT', Lib.hid (by have h1 := HT0'.out; have h2 := HT0.out; omega), Lib.hid (by have h1 := HT2'.out; have h2 := HT2.out; omega), HSN, HBN⟩
          case measure => simp [intOf]; omega
    · go_wp2_with fail
      go_ret
      exact ⟨rfl, HBB.out⟩
end
end Go.Proofs.Ytnaclkaapicelaa
