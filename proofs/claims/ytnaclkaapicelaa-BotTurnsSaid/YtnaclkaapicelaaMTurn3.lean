/-
  BotTurns, walked.
-/
import Derived.Outline
import Derived.Test.YtnaclkaapicelaaMa8
import Derived.Test.YtnaclkaapicelaaMa7
namespace Go.Proofs.Ytnaclkaapicelaa
open Go.RowKit
set_option maxRecDepth 100000
set_option linter.unusedSimpArgs false
theorem soon_step {a b : Int} {n : Nat} {t : Int} (h : SoonT a b n t) (h0 : turnT (dotT a b t) (crossT a b t) ≠ 0) : ∃ m, n = m + 1 ∧ SoonT a b m (nextT a b t) := by
  cases n with
  | zero => exact absurd h h0
  | succ m =>
    rcases h with h | ⟨-, h⟩
    · exact absurd h h0
    · exact ⟨m, rfl, h⟩
theorem turn_val (d c : Int) : turnT d c = 0 ∨ turnT d c = 1 ∨ turnT d c = 2 := by
  unfold turnT
  split
  · exact .inl rfl
  · split
    · exact .inr (.inl rfl)
    · split
      · exact .inr (.inr rfl)
      · exact .inl rfl
theorem tmod_bd (x : Int) : -49 ≤ x.tmod 50 ∧ x.tmod 50 ≤ 49 := by
  rcases Int.le_total 0 x with h | h
  · rw [Int.tmod_eq_emod_of_nonneg h]; omega
  · have e : x.tmod 50 = -((-x).tmod 50) := by rw [Int.neg_tmod, Int.neg_neg]
    rw [e, Int.tmod_eq_emod_of_nonneg (show 0 ≤ -x by omega)]; omega
theorem near_or {a b : Int} (h : ¬ (-10 < a ∧ a < 10 ∧ -10 < b ∧ b < 10)) : (10 ≤ a ∨ a ≤ -10) ∨ (10 ≤ b ∨ b ≤ -10) := by omega
section
variable {f x y : Int} {w : World}
set_option maxHeartbeats 16000000 in
theorem turns_walk (hf : 0 ≤ f ∧ f ≤ 65535) (hx : -128 ≤ x ∧ x ≤ 127) (hy : -128 ≤ y ∧ y ≤ 127) :
    Calls Try.prog 6 #[.int .u16 f, .int .i8 x, .int .i8 y] w fun e w' => e = .returned (.bool true) ∧ Below w.heap.size w w' := by
  have ha := tmod_bd x
  have hb := tmod_bd y
  obtain ⟨a, hax⟩ : ∃ a, x.tmod 50 = a := ⟨_, rfl⟩
  obtain ⟨b, hby⟩ : ∃ b, y.tmod 50 = b := ⟨_, rfl⟩
  rw [hax] at ha
  rw [hby] at hb
  obtain ⟨T0, hT0⟩ : ∃ T0, beginS 1 = T0 := ⟨_, rfl⟩
  have hbeg := fun W => r12Begin_any 1 W
  have hbg := TB_begin f a b
  rw [hT0] at hbeg hbg
  obtain ⟨C0, hC0⟩ : ∃ C0 : Array Value, (stCells T0).toArray = C0 := ⟨_, rfl⟩
  rw [hC0] at hbeg
  have hsz : C0.size = 60 := by rw [← hC0, List.size_toArray, stCells_length]
  have H1C : Hid (C0.all (·.oneCell') = true) := Lib.hid (by rw [← hC0]; exact all_oneCell_toArray (int_one _))
  have HSZ : Hid ((Try.prog.info? 33).map (·.size) = some C0.size) := Lib.hid (by rw [hsz]; kernel_rfl)
  have HSI := Lib.hid hsz
  have HC0 := Lib.hid hC0
  have HBEG := Lib.hid hbeg
  have HBG := Lib.hid hbg
  obtain ⟨a1, a2⟩ := ha
  obtain ⟨b1, b2⟩ := hb
  clear hbeg hbg hsz hC0 hT0
  go_enter Try.func6, Try.ntmps6
  go_upto_region 4 with (first
    | (go_at_call 15; refine (awake30_any _).mono ?_; rintro e w2 ⟨rfl, hb2⟩; have HB2 := Lib.hid hb2; clear hb2)
    | (go_at_call 20; refine (HBEG.out _).mono ?_; rintro e w3 ⟨rfl, hb3⟩; have HB3 := Lib.hid (bTrans HB2.out hb3); clear hb3)
    | (refine wpList_store_mid rfl 33 (.tmp 7) (.tmp 18) rfl w3.heap.size 0 C0 rfl rfl (there_new _ _ _ (by rw [HSI.out]; rfl)) HSZ.out H1C.out ?_))
  refine named_put (F := fun W => Code.wp _ _ _ _ W) (by rw [Array.length_toList, HSI.out]; rfl) ?_
  intro w4 hk4 hb4 hz4
  rw [Array.toArray_toList, ← HC0.out] at hk4
  have HK4 := Lib.hid hk4
  have HB4 := Lib.hid (bTrans HB3.out hb4)
  have hgs4 : w.heap.size ≤ w3.heap.size := Below.size HB3.out
  have hl4 := hk4.lt
  obtain ⟨gs, hgs⟩ : ∃ gs, w3.heap.size = gs := ⟨_, rfl⟩
  rw [hgs] at HK4 hl4 hgs4 ⊢
  have y4 := HK4.out.frozen 4
  have y5 := HK4.out.frozen 5
  have y8 := HK4.out.frozen 8
  have y14 := HK4.out.frozen 14
  have y15 := HK4.out.frozen 15
  rw [hgs] at hk4
  clear hb4 hz4 hgs HB2 HB3 HBEG H1C HSZ
  have e4 : w4.cell? ⟨gs, 4, none⟩ = some (.int .i32 (T0 4)) := st_cell hk4 4 (by decide)
  have e5 : w4.cell? ⟨gs, 5, none⟩ = some (.int .i32 (T0 5)) := st_cell hk4 5 (by decide)
  have e8 : w4.cell? ⟨gs, 8, none⟩ = some (.int .i64 (T0 8)) := st_cell hk4 8 (by decide)
  have e14 : w4.cell? ⟨gs, 14, none⟩ = some (.int .i32 (T0 14)) := st_cell hk4 14 (by decide)
  have e15 : w4.cell? ⟨gs, 15, none⟩ = some (.int .i32 (T0 15)) := st_cell hk4 15 (by decide)
  clear hk4
  have h5 := st_set (st_set (st_set (st_set (st_set HK4.out 4 (by decide) (k := .i32) rfl 0) 5 (by decide) (k := .i32) rfl 0) 8 (by decide) (k := .i64) rfl f) 14 (by decide) (k := .i32) rfl (a * 65536)) 15 (by decide) (k := .i32) rfl (b * 65536)
  rw [HBG.out] at h5
  have hb5 := ((((HB4.out.setCell (p := ⟨gs, 4, none⟩) hgs4 (.int .i32 0)).setCell (p := ⟨gs, 5, none⟩) hgs4 (.int .i32 0)).setCell (p := ⟨gs, 8, none⟩) hgs4 (.int .i64 f)).setCell (p := ⟨gs, 14, none⟩) hgs4 (.int .i32 (a * 65536))).setCell (p := ⟨gs, 15, none⟩) hgs4 (.int .i32 (b * 65536))
  go_upto_region 8 with fail
  obtain ⟨w5, hw5⟩ : ∃ w5, ((((w4.setCell ⟨gs, 4, none⟩ (.int .i32 0)).setCell ⟨gs, 5, none⟩ (.int .i32 0)).setCell ⟨gs, 8, none⟩ (.int .i64 f)).setCell ⟨gs, 14, none⟩ (.int .i32 (a * 65536))).setCell ⟨gs, 15, none⟩ (.int .i32 (b * 65536)) = w5 := ⟨_, rfl⟩
  rw [hw5] at h5 hb5 ⊢
  have H5 := Lib.hid h5
  have HB5 := Lib.hid hb5
  clear hw5 h5 hb5 HK4 HB4 y4 y5 y8 y14 y15 e4 e5 e8 e14 e15 hl4 HBG HC0 HSI hax hby
  by_cases hnear : -10 < a ∧ a < 10 ∧ -10 < b ∧ b < 10
  · as_aux_lemma =>
      obtain ⟨n1, n2, n3, n4⟩ := hnear
      go_wp2_with fail
      go_ret
      exact ⟨rfl, HB5.out⟩
  · have hfar := near_or hnear
    have hab : a ≠ 0 ∨ b ≠ 0 := by omega
    have HSO := Lib.hid (soon_all a b f hab)
    go_cut [57] (fun v wx => v = .bool false ∧ w5 = wx)
    case first => as_aux_lemma =>
      by_cases n1 : -10 < a
      · by_cases n2 : a < 10
        · by_cases n3 : -10 < b
          · have n4 : ¬ b < 10 := fun h => hnear ⟨n1, n2, n3, h⟩
            have g1 : decide (-10 < a) = true := decide_eq_true n1
            have g2 : decide (a < 10) = true := decide_eq_true n2
            have g3 : decide (-10 < b) = true := decide_eq_true n3
            have g4 : decide (b < 10) = false := decide_eq_false n4
            clear n1 n2 n3 n4 hnear hfar hab
            go_wp2_with fail
            go_meet
            exact ⟨rfl, rfl⟩
          · have g1 : decide (-10 < a) = true := decide_eq_true n1
            have g2 : decide (a < 10) = true := decide_eq_true n2
            have g3 : decide (-10 < b) = false := decide_eq_false n3
            clear n1 n2 n3 hnear hfar hab
            go_wp2_with fail
            go_meet
            exact ⟨rfl, rfl⟩
        · have g1 : decide (-10 < a) = true := decide_eq_true n1
          have g2 : decide (a < 10) = false := decide_eq_false n2
          clear n1 n2 hnear hfar hab
          go_wp2_with fail
          go_meet
          exact ⟨rfl, rfl⟩
      · have g1 : decide (-10 < a) = false := decide_eq_false n1
        clear n1 hnear hfar hab
        go_wp2_with fail
        go_meet
        exact ⟨rfl, rfl⟩
    case rest => as_aux_lemma =>
    obtain ⟨rfl, rfl⟩ := hcut
    clear hnear
    go_wp2_with fail
    go_loopw [10] (fun v wr => ∃ (k : Nat) (g : Int), k ≤ 33 ∧ v = .int .i64 k ∧ (0 ≤ g ∧ g ≤ 65535) ∧ Hid (SoonT a b (33 - k) g) ∧ Hid (Blk wr gs 33 (stCells (TB a b g k)).toArray) ∧ Hid (Below w.heap.size w wr)) (fun v _ => 34 - (intOf v).toNat)
    case atStart => exact ⟨0, f, by decide, rfl, hf, HSO, H5, HB5⟩
    case round =>
    obtain ⟨k, g, hk, rfl, hg, HS, HK, HB⟩ := hrel
    clear H5 HB5 HSO hf
    have hki : (0 : Int) ≤ (k : Int) ∧ (k : Int) ≤ 100 := by omega
    have hpr := TB_press (i := (k : Int)) ⟨a1, a2⟩ ⟨b1, b2⟩ hki hg
    have hfit := TB_fit (i := (k : Int)) ⟨a1, a2⟩ ⟨b1, b2⟩ hki hg
    have hok := TB_ok (i := (k : Int)) ⟨a1, a2⟩ ⟨b1, b2⟩ hki hg
    have hsee := TB_see (i := (k : Int)) (f := g) ⟨a1, a2⟩ ⟨b1, b2⟩
    have hstep := fun n g' h => step_turn (f := g) (n := n) (g := g') hfar ⟨a1, a2⟩ ⟨b1, b2⟩ (i := (k : Int)) ⟨hki.1, by omega⟩ h
    obtain ⟨T, hT⟩ : ∃ T, TB a b g k = T := ⟨_, rfl⟩
    rw [hT] at hpr hfit hok hsee hstep HK
    obtain ⟨t, ht⟩ : ∃ t, turnT (dotT a b g) (crossT a b g) = t := ⟨_, rfl⟩
    rw [ht] at hpr
    have hval := turn_val (dotT a b g) (crossT a b g)
    rw [ht] at hval
    have HPR : Hid (∀ W, Calls Try.prog 18 #[.agg (stCells T).toArray, .int .i64 0, .int .i64 0] W fun e w' => e = .returned (.int .u8 t) ∧ Below W.heap.size W w') := Lib.hid (fun W => by
      have := press_any T W 0 0 hfit
      rw [hpr] at this
      exact this)
    have hlk := HK.out.lt
    by_cases ht0 : t = 0
    · as_aux_lemma =>
        subst ht0
        have hwell := well_eighth hab ht
        obtain ⟨h1, h2, h3⟩ := hsee
        obtain ⟨d, hd⟩ : ∃ d, dotT a b g = d := ⟨_, rfl⟩
        obtain ⟨c, hc⟩ : ∃ c, crossT a b g = c := ⟨_, rfl⟩
        rw [hd] at h1 hwell
        rw [hc] at h2 h3 hwell
        have HSI : Hid (∀ W, Calls Try.prog 16 #[.agg (stCells T).toArray, .int .i64 0] W fun e w' => e = .returned (.tuple #[.int .i32 d, .int .i32 c]) ∧ Below W.heap.size W w') := Lib.hid (fun W => by
          have := sight_any T 0 W (by decide) hfit
          rw [h1, h2] at this
          exact this)
        obtain ⟨q1, q2, q3⟩ := hwell
        have ed : d.tdiv 8 = d / 8 := Int.tdiv_eq_ediv_of_nonneg (by omega)
        have g1 : decide (0 < d) = true := decide_eq_true q1
        have hd32 : F32 d := by rw [← h1]; exact sat_bd _
        have ew : wrap32 (d / 8) = d / 8 := IntWalk.wrap32_in (d / 8) (by unfold F32 at hd32; omega)
        have g2 : decide (c < wrap32 (d / 8)) = true := by rw [ew]; exact decide_eq_true q2
        have g3 : decide (-c < wrap32 (d / 8)) = true := by rw [ew]; exact decide_eq_true q3
        obtain ⟨c1, c2⟩ := h3
        clear h1 h2 hd hc ht hval hpr hfit hok hstep HS hfar hab hT ew hd32
        go_wp2_with (first
          | (refine wpList_load_mid rfl 33 (.tmp 7) rfl gs 0 rfl (stCells T) _ (Blk.range HK.out) Try.underlying33 rfl (by kernel_rfl) ?_)
          | (go_at_call 18; refine (HPR.out _).mono ?_; rintro e w6 ⟨rfl, hb6⟩; have HK6 := Lib.hid (HK.out.on hb6); have HB6 := Lib.hid (bTrans HB.out hb6); have hl6 := HK6.out.lt; clear hb6)
          | (refine wpList_load_mid rfl 33 (.tmp 7) rfl gs 0 rfl (stCells T) _ (Blk.range HK6.out) Try.underlying33 rfl (by kernel_rfl) ?_)
          | (go_at_call 16; refine (HSI.out _).mono ?_; rintro e w7 ⟨rfl, hb7⟩; have HB7 := Lib.hid (bTrans HB6.out hb7); clear hb7))
        go_ret
        exact ⟨rfl, HB7.out⟩
    · as_aux_lemma =>
        obtain ⟨m, hm, hsm⟩ := soon_step HS.out (by rw [ht]; exact ht0)
        have hnm : 33 - (k + 1) = m := by omega
        obtain ⟨g', hg'⟩ : ∃ g', nextT a b g = g' := ⟨_, rfl⟩
        rw [hg'] at hsm
        have hg2 : 0 ≤ g' ∧ g' ≤ 65535 := by
          rw [← hg']; unfold nextT; split <;> omega
        obtain ⟨n, hn⟩ : ∃ n : Nat, t = (n : Int) := ⟨t.toNat, by omega⟩
        have hn12 : n = 1 ∧ g' = (g - 1024) % 65536 ∨ n = 2 ∧ g' = (g + 1024) % 65536 := by
          rw [← hg']
          unfold nextT
          rw [ht]
          rcases hval with h | h | h
          · exact absurd h ht0
          · left; exact ⟨by omega, by rw [if_pos h]⟩
          · right; exact ⟨by omega, by rw [if_neg (by omega)]⟩
        have hst := hstep n g' hn12
        obtain ⟨T', hT'⟩ : ∃ T', TB a b g' ((k : Int) + 1) = T' := ⟨_, rfl⟩
        rw [hT'] at hst
        have hrs := fun W => r12Step_any (w := W) hok (by omega) (by decide) T' [] hst
        subst hn
        obtain ⟨C, hC⟩ : ∃ C : Array Value, (stCells T').toArray = C := ⟨_, rfl⟩
        rw [hC] at hrs
        have hsz : C.size = 60 := by rw [← hC, List.size_toArray, stCells_length]
        have H1C : Hid (C.all (·.oneCell') = true) := Lib.hid (by rw [← hC]; exact all_oneCell_toArray (int_one _))
        have HSZ : Hid ((Try.prog.info? 33).map (·.size) = some C.size) := Lib.hid (by rw [hsz]; kernel_rfl)
        have HSI := Lib.hid hsz
        have HC := Lib.hid hC
        have HRS : Hid (∀ W : World, Calls Try.prog 21 #[.agg (stCells T).toArray, .agg #[.int .u8 n, .int .u8 0]] W fun e w' => ∃ A n c, e = .returned (.tuple #[.agg C, .slice A n c]) ∧ OwnL w' W.heap.size 45 9 (.slice A n c) Ev.cells [] ∧ Below W.heap.size W w') := Lib.hid hrs
        have HT' : Hid (TB a b g' ((k + 1 : Nat) : Int) = T') := Lib.hid (by rw [← hT']; congr 1)
        have HSM : Hid (SoonT a b (33 - (k + 1)) g') := Lib.hid (by rw [hnm]; exact hsm)
        have hk33 : k < 33 := by omega
        have gz : ((n : Int) == 0) = false := by simpa using ht0
        have hn0 : n = 1 ∨ n = 2 := by omega
        clear hm hsm hnm hg' hn12 hst hT' hrs hC hsz hstep hok hfit hpr hsee hval ht hT HS ht0
        go_upto_region 14 with (first
          | (refine wpList_load_mid rfl 33 (.tmp 7) rfl gs 0 rfl (stCells T) _ (Blk.range HK.out) Try.underlying33 rfl (by kernel_rfl) ?_)
          | (go_at_call 18; refine (HPR.out _).mono ?_; rintro e w6 ⟨rfl, hb6⟩; have HK6 := Lib.hid (HK.out.on hb6); have HB6 := Lib.hid (bTrans HB.out hb6); have hl6 := HK6.out.lt; clear hb6))
        clear HK HB hlk HPR
        rcases hn0 with rfl | rfl
        · skip
          go_upto_region 20 with (first
            | (refine wpList_load_mid rfl 33 (.tmp 7) rfl gs 0 rfl (stCells T) _ (Blk.range HK6.out) Try.underlying33 rfl (by kernel_rfl) ?_)
            | (go_at_call 21; refine (HRS.out _).mono ?_; rintro e w8 ⟨A8, n8, c8, rfl, -, hb8⟩; have HK8 := Lib.hid (HK6.out.on hb8); have HB8 := Lib.hid (bTrans HB6.out hb8); clear hb8)
            | (refine wpList_store_mid rfl 33 (.tmp 14) (.tmp 97) rfl w8.heap.size 0 C rfl rfl (there_new _ _ _ (by rw [HSI.out]; rfl)) HSZ.out H1C.out ?_))
          refine named_put (F := fun W => Code.wp _ _ _ _ W) (by rw [Array.length_toList, HSI.out]; rfl) ?_
          intro w9 hk9 hb9 hz9
          rw [Array.toArray_toList, ← HC.out] at hk9
          have HK9 := Lib.hid (HK8.out.on hb9)
          have HB9 := Lib.hid (bTrans HB8.out hb9)
          have HN9 := Lib.hid hk9
          have hl9 := hk9.lt
          obtain ⟨gn, hgn⟩ : ∃ gn, w8.heap.size = gn := ⟨_, rfl⟩
          rw [hgn] at HN9 hl9 ⊢
          clear hk9 hb9 hz9 hgn HK8 HB8 HK6 HB6 hl6 HRS
          have hs9 := HK9.out.lt
          have HTH := Lib.hid (Blk.there HK9.out (o := 0) (n := (stCells T').toArray.size) (by rw [List.size_toArray, List.size_toArray, stCells_length, stCells_length]; decide))
          have HMN := Lib.hid (HK9.out.whole (stCells T').toArray.toList (by rw [List.size_toArray, stCells_length]; exact stCells_length T'))
          have HBN := Lib.hid (bSetCells HB9.out hgs4 0 (stCells T').toArray.toList)
          go_upto_region 12 with (first
            | (refine wpList_load_mid rfl 33 (.tmp 14) rfl gn 0 rfl (stCells T') _ (Blk.range HN9.out) Try.underlying33 rfl (by kernel_rfl) ?_)
            | (refine wpList_store_mid rfl 33 (.tmp 7) (.tmp 99) rfl gs 0 (stCells T').toArray rfl rfl HTH.out (by kernel_rfl) (all_oneCell_toArray (int_one T')) ?_))
          obtain ⟨W10, hW10⟩ : ∃ W10, w9.setCells gs 0 (stCells T').toArray.toList = W10 := ⟨_, rfl⟩
          rw [hW10] at HMN HBN ⊢
          rw [Array.toArray_toList] at HMN
          clear hW10 HTH HN9 HK9 HB9 hl9 hs9
          go_wp2_with fail
          go_roundw
          case rel => exact ⟨k + 1, g', by omega, by go_num, hg2, HSM, by rw [HT'.out]; exact HMN, HBN⟩
          case measure => simp [intOf]; omega
        · skip
          go_upto_region 20 with (first
            | (refine wpList_load_mid rfl 33 (.tmp 7) rfl gs 0 rfl (stCells T) _ (Blk.range HK6.out) Try.underlying33 rfl (by kernel_rfl) ?_)
            | (go_at_call 21; refine (HRS.out _).mono ?_; rintro e w8 ⟨A8, n8, c8, rfl, -, hb8⟩; have HK8 := Lib.hid (HK6.out.on hb8); have HB8 := Lib.hid (bTrans HB6.out hb8); clear hb8)
            | (refine wpList_store_mid rfl 33 (.tmp 14) (.tmp 97) rfl w8.heap.size 0 C rfl rfl (there_new _ _ _ (by rw [HSI.out]; rfl)) HSZ.out H1C.out ?_))
          refine named_put (F := fun W => Code.wp _ _ _ _ W) (by rw [Array.length_toList, HSI.out]; rfl) ?_
          intro w9 hk9 hb9 hz9
          rw [Array.toArray_toList, ← HC.out] at hk9
          have HK9 := Lib.hid (HK8.out.on hb9)
          have HB9 := Lib.hid (bTrans HB8.out hb9)
          have HN9 := Lib.hid hk9
          have hl9 := hk9.lt
          obtain ⟨gn, hgn⟩ : ∃ gn, w8.heap.size = gn := ⟨_, rfl⟩
          rw [hgn] at HN9 hl9 ⊢
          clear hk9 hb9 hz9 hgn HK8 HB8 HK6 HB6 hl6 HRS
          have hs9 := HK9.out.lt
          have HTH := Lib.hid (Blk.there HK9.out (o := 0) (n := (stCells T').toArray.size) (by rw [List.size_toArray, List.size_toArray, stCells_length, stCells_length]; decide))
          have HMN := Lib.hid (HK9.out.whole (stCells T').toArray.toList (by rw [List.size_toArray, stCells_length]; exact stCells_length T'))
          have HBN := Lib.hid (bSetCells HB9.out hgs4 0 (stCells T').toArray.toList)
          go_upto_region 12 with (first
            | (refine wpList_load_mid rfl 33 (.tmp 14) rfl gn 0 rfl (stCells T') _ (Blk.range HN9.out) Try.underlying33 rfl (by kernel_rfl) ?_)
            | (refine wpList_store_mid rfl 33 (.tmp 7) (.tmp 99) rfl gs 0 (stCells T').toArray rfl rfl HTH.out (by kernel_rfl) (all_oneCell_toArray (int_one T')) ?_))
          obtain ⟨W10, hW10⟩ : ∃ W10, w9.setCells gs 0 (stCells T').toArray.toList = W10 := ⟨_, rfl⟩
          rw [hW10] at HMN HBN ⊢
          rw [Array.toArray_toList] at HMN
          clear hW10 HTH HN9 HK9 HB9 hl9 hs9
          go_wp2_with fail
          go_roundw
          case rel => exact ⟨k + 1, g', by omega, by go_num, hg2, HSM, by rw [HT'.out]; exact HMN, HBN⟩
          case measure => simp [intOf]; omega
end
end Go.Proofs.Ytnaclkaapicelaa
