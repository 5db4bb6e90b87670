/-
  LedgerSane: the walk.
-/
import Derived.Test.YteccmklacgpodaaMs2
import Derived.Test.YteccmklacgpodaaLRSan
namespace Go.Proofs.Yteccmklacgpodaa
open Go.RowKit
set_option maxRecDepth 100000
set_option linter.unusedSimpArgs false
theorem cm_ev_cell {c : Cm} {j : Nat} {v : Value} (h : c.e.cells[j]? = some v) : c.cells[j + 1]? = some v := by
  have h9 : j < 9 := by
    have := (List.getElem?_eq_some_iff.1 h).1
    simpa [Ev.cells] using this
  obtain rfl | rfl | rfl | rfl | rfl | rfl | rfl | rfl | rfl : j = 0 ∨ j = 1 ∨ j = 2 ∨ j = 3 ∨ j = 4 ∨ j = 5 ∨ j = 6 ∨ j = 7 ∨ j = 8 := by omega
  all_goals exact h
set_option maxHeartbeats 16000000 in
theorem sanes_any (size : Int) (A : Option Addr) (c : Nat) (l : List ActP) (w : World) (hr : Rd w w.heap.size A (l.flatMap ActP.cells)) (hin : ∀ a ∈ l, a.In w) : Calls Try.prog 7 #[.int .i64 size, .slice A l.length c] w fun e w' => e = .returned (.bool true) ∧ Below w.heap.size w w' := by
  have HR := Lib.hid hr
  have HIN := Lib.hid hin
  obtain ⟨m, hm⟩ : ∃ m, l.length = m := ⟨_, rfl⟩
  have HM := Lib.hid hm
  rw [hm]
  clear hr hin hm
  by_cases hsz : 1 ≤ size ∧ size ≤ 256
  · go_enter Try.func7, Try.ntmps7
    go_upto_region 7 with (first
      | (go_at_call 8; refine (awake_any _).mono ?_; rintro e w1 ⟨rfl, hb1⟩; have HN := Lib.hid (new_lgr size w1 hsz hb1); have HB1 := Lib.hid hb1; clear hb1)
      | (go_at_call 9; refine HN.out.mono ?_; rintro e w2 ⟨rfl, hg2⟩; have HG2 := Lib.hid hg2; clear hg2))
    obtain ⟨w3, hw3⟩ : ∃ w3, w3 = w2.alloc (.cells #[] 57) := ⟨_, rfl⟩
    have HO3 : Hid (OwnL w3 w.heap.size 57 12 (.slice (some ⟨w2.heap.size, 0, none⟩) 0 0) Cm.cells ([] : List Cm)) := Lib.hid (by
      rw [hw3]
      exact OwnL.lit (f := Cm.cells) (m := 12) (n := 0) (c := 0) [] #[] HG2.out.below.size (by simp [maxLen]) Cm.cells_length rfl rfl rfl)
    have HG3 := Lib.hid (HG2.out.on (bAlloc (Below.refl w2.heap.size w2) (.cells #[] 57)))
    rw [← hw3] at HG3
    rw [← hw3]
    obtain ⟨ga, hga⟩ : ∃ ga, w2.heap.size = ga := ⟨_, rfl⟩
    rw [hga] at HO3 ⊢
    obtain ⟨g, hg⟩ : ∃ g, w1.heap.size + 2 = g := ⟨_, rfl⟩
    obtain ⟨gt, hgt⟩ : ∃ gt, w1.heap.size + 1 = gt := ⟨_, rfl⟩
    obtain ⟨gl, hgl⟩ : ∃ gl, w1.heap.size = gl := ⟨_, rfl⟩
    rw [hg, hgt, hgl] at HG3
    rw [hg]
    have hs256 : size ≤ 256 := hsz.2
    have hs1 : 1 ≤ size := hsz.1
    clear hg hgt hgl HN HB1 HG2 hw3 hga hsz
    go_wp2_with fail
    go_loopw [7, 8] (fun u v wr => ∃ (i : Nat) (S : List Ev) (T : List TEnt) (com : Int) (halt : Bool) (all : List Cm), i ≤ m ∧ i ≤ 100 ∧ v = .int .i64 i ∧ ∃ A' n' c', u = .slice A' n' c' ∧ Hid (LgR w wr g gl gt size i S T com halt) ∧ Hid (OwnL wr w.heap.size 57 12 (.slice A' n' c') Cm.cells all) ∧ Hid (SanI i S T com halt all)) (fun _ v _ => m - (intOf v).toNat)
    case atStart => exact ⟨0, [], [], -1, false, [], Nat.zero_le _, by omega, rfl, some ⟨ga, 0, none⟩, 0, 0, rfl, HG3, HO3, Lib.hid sanI_nil⟩
    case round =>
      obtain ⟨i, S, T, com, halt, all, him, hi100, rfl, A', n', c', rfl, HG, HO, HI⟩ := hrel
      clear HG3 HO3
      by_cases hlt : i < m
      · by_cases h100 : i < 100
        · have hil : i < l.length := by rw [HM.out]; exact hlt
          obtain ⟨b, off, rfl, hbl, x0, x1, x2, x3⟩ := (HR.out.below HG.out.below (Nat.le_refl _)).act hil
          have hbw : b < wr.heap.size := Nat.lt_of_lt_of_le hbl HG.out.below.size
          have hai := HIN.out l[i] (List.getElem_mem hil)
          obtain ⟨a, ha⟩ : ∃ a, l[i] = a := ⟨_, rfl⟩
          rw [ha] at x0 x1 x2 x3 hai
          have HAI := Lib.hid hai
          obtain ⟨n, hn⟩ : ∃ n, a.evs.length = n := ⟨_, rfl⟩
          have HN := Lib.hid hn
          rw [hn] at x2
          clear ha hai hn hbl
          go_upto_region 11 with fail
          obtain ⟨w3, hw3⟩ : ∃ w3, w3 = wr.alloc (.cells #[.int .i64 a.kind, .int .i64 a.frame, .slice a.A n a.c, .int .i64 a.by_] 32) := ⟨_, rfl⟩
          have HA3 : Hid (Blk w3 wr.heap.size 32 #[.int .i64 a.kind, .int .i64 a.frame, .slice a.A n a.c, .int .i64 a.by_]) := Lib.hid (by rw [hw3]; exact Blk.new _ _ _)
          have HG3 : Hid (LgR w w3 g gl gt size i S T com halt) := Lib.hid (by rw [hw3]; exact HG.out.on (bAlloc (Below.refl _ _) _))
          have HO3 : Hid (OwnL w3 w.heap.size 57 12 (.slice A' n' c') Cm.cells all) := Lib.hid (by rw [hw3]; exact HO.out.alloc _)
          rw [← hw3]
          obtain ⟨gA, hgA⟩ : ∃ gA, wr.heap.size = gA := ⟨_, rfl⟩
          rw [hgA] at HA3 ⊢
          clear hw3 hgA x0 x1 x2 x3 hbw HG HO
          obtain ⟨a0, a1, a2, a3, la⟩ := HA3.out.four
          obtain ⟨d, hd⟩ : ∃ d, decide (farA a.frame a.by_ n) = d := ⟨_, rfl⟩
          have HF := Lib.hid (far_any a.kind a.frame a.by_ a.A n a.c w3)
          have HD := Lib.hid hd
          rw [hd] at HF
          clear hd
          cases d
          · have hfar : ¬ farA a.frame a.by_ n := by simpa using HD.out
            unfold farA at hfar
            go_upto_region 14 with (first | (go_at_call 10; refine HF.out.mono ?_; rintro e w4 ⟨rfl, hb4⟩; have HA4 := Lib.hid (HA3.out.on hb4); have HG4 := Lib.hid (HG3.out.on hb4); have HO4 := Lib.hid (HO3.out.below hb4); obtain ⟨a04, a14, a24, a34, la4⟩ := HA4.out.four; clear hb4))
            clear a0 a1 a2 a3 la HA3 HG3 HO3 HF HD
            have hcb := HG4.out.com
            have hl4 := HG4.out.len
            by_cases hk1 : a.kind = 1
            · have q1 : (a.kind == 1) = true := by simp [hk1]
              clear hk1
              have HRE : Hid (∀ W, Below w.heap.size w W → Rd W W.heap.size a.A (a.evs.flatMap Ev.cells)) := Lib.hid (fun W hW => (HAI.out.rows.below hW (Nat.le_refl _)).more hW.size)
              by_cases hE : fitsE halt com a.evs a.frame (a.frame + a.by_) = 0
              · have HTE := Lib.hid (tell_lgr HG4.out (by omega) (by omega) a.frame (a.frame + a.by_) a.A a.c a.evs (HRE.out _ HG4.out.below) hE)
                rw [HN.out] at HTE
                have HIT := Lib.hid (fun v => HI.out.tell (v := v) HG4.out.ok HG4.out.len hs256 hE)
                clear hE
                go_upto_region 33 with (first
                  | (go_at_call 14; refine HTE.out.mono ?_; rintro e w6 ⟨A6, n6, c6, v6, rfl, ho6, hg6, hk6⟩
                     have HG9 := Lib.hid hg6
                     have HM9 := Lib.hid ho6
                     have HO9 := Lib.hid (HG4.out.lg.ownX HO4.out (by decide) hk6 (by simp))
                     have HI9 := Lib.hid (HIT.out v6)
                     clear hg6 hk6 ho6))
                clear HG4 HO4 HTE HIT HRE a04 a14 a24 a34 la4 HA4 HI HAI
                have hb9 := HI9.out.len
                rw [List.length_append] at hb9
                go_wp2_with (first | (at_builtin; refine wpList_app_cm rfl (.tmp 121) (.tmp 122) rfl w.heap.size _ all _ HO9.out rfl _ _ _ _ HM9.out.len rfl HM9.out.rd (by omega) HG9.out.below.size ?_; intro A11 c11 n11 w11 hn11 ho11 hg11; have HO11 := Lib.hid ho11; have HG11 := Lib.hid hg11; clear ho11 hg11))
                go_roundw
                case rel => exact ⟨i + 1, _, _, _, _, _, by omega, by omega, by go_num, A11, n11, c11, rfl, Lib.hid (HG9.out.farR HO9.out (Nat.le_refl _) HG11.out (by decide) (by decide)), HO11, HI9⟩
                case measure => simp [intOf]; omega
              · have HTE := Lib.hid (tell_bad HG4.out.lg a.frame (a.frame + a.by_) a.A a.c a.evs (by have := HN.out; omega) (HRE.out _ HG4.out.below) hE)
                obtain ⟨E, hEE⟩ : ∃ E, fitsE halt com a.evs a.frame (a.frame + a.by_) = E := ⟨_, rfl⟩
                rw [hEE, HN.out] at HTE
                clear hEE hE
                go_upto_region 33 with (first
                  | (go_at_call 14; refine HTE.out.mono ?_; rintro e w6 ⟨rfl, hb6⟩
                     have HG9 := Lib.hid (HG4.out.on hb6).step
                     have HO9 := Lib.hid (HO4.out.below hb6)
                     have HM9 : Hid (OwnL w6 0 57 12 (.slice none 0 0) Cm.cells ([] : List Cm)) := Lib.hid OwnL.nil
                     clear hb6))
                have HI9 := Lib.hid HI.out.stay
                clear HG4 HO4 HTE HRE a04 a14 a24 a34 la4 HA4 HI HAI
                have hb9 := HI9.out.len
                rw [List.length_append] at hb9
                go_wp2_with (first | (at_builtin; refine wpList_app_cm rfl (.tmp 121) (.tmp 122) rfl w.heap.size _ all _ HO9.out rfl _ _ _ _ HM9.out.len rfl HM9.out.rd (by omega) HG9.out.below.size ?_; intro A11 c11 n11 w11 hn11 ho11 hg11; have HO11 := Lib.hid ho11; have HG11 := Lib.hid hg11; clear ho11 hg11))
                go_roundw
                case rel => exact ⟨i + 1, _, _, _, _, _, by omega, by omega, by go_num, A11, n11, c11, rfl, Lib.hid (HG9.out.farR HO9.out (Nat.le_refl _) HG11.out (by decide) (by decide)), HO11, HI9⟩
                case measure => simp [intOf]; omega
            · have q1 : (a.kind == 1) = false := by simp [hk1]
              by_cases hk2 : a.kind = 2
              · have q2 : (a.kind == 2) = true := by simp [hk2]
                clear hk1 hk2
                clear a04 a14 a24 a34 la4 HA4 HAI
                have HCM := Lib.hid (committed_any HG4.out.lg)
                have HTO := Lib.hid (told_any HG4.out.lg HG4.out.told (com + 1) (wf_of (by omega) (by omega)))
                cases halt
                · obtain ⟨hic, hmap⟩ := HI.out.commit HG4.out.ok HG4.out.told
                  have HIC := Lib.hid hic
                  have hdl : (commitF (toldAt T (com + 1)) S).2.length = (toldAt T (com + 1)).length := by have := congrArg List.length hmap; rwa [List.length_map] at this
                  have hE64 := (toldAt_ok HG4.out.told (com + 1)).2
                  have HMAP := Lib.hid hmap
                  go_upto_region 20 with (first
                    | (go_at_call 12; refine HCM.out.mono ?_; rintro e w5 ⟨rfl, rfl⟩)
                    | (go_at_call 21; refine HTO.out.mono ?_; rintro e w5 ⟨B5, c5, rfl, ho5, hb5⟩
                       have HT5 := Lib.hid ho5
                       have HG5 := Lib.hid (HG4.out.on hb5)
                       have HO5 := Lib.hid (HO4.out.below hb5)
                       have HHA := Lib.hid (halted_any HG5.out.lg)
                       clear ho5 hb5)
                    | (go_at_call 20; refine HHA.out.mono ?_; rintro e w6 ⟨rfl, rfl⟩))
                  have HCO := Lib.hid (commit_lgr HG5.out (by omega))
                  obtain ⟨E, hE⟩ : ∃ E, toldAt T (com + 1) = E := ⟨_, rfl⟩
                  obtain ⟨X, hX⟩ : ∃ X, commitF E S = X := ⟨_, rfl⟩
                  rw [hE] at HCO HIC HT5 HMAP hdl hE64 ⊢
                  rw [hX] at HCO HIC HMAP hdl
                  obtain ⟨nE, hnE⟩ : ∃ nE, E.length = nE := ⟨_, rfl⟩
                  have HNE := Lib.hid hnE
                  rw [hnE] at HT5 hdl hE64 ⊢
                  have HDL := Lib.hid hdl
                  clear hE hX hnE hdl hic hmap HCM HTO HHA
                  go_upto_region 24 with (first
                    | (go_at_call 11; refine HCO.out.mono ?_; rintro e w7 ⟨A7, n7, c7, rfl, ho7, hg7, hk7⟩
                       have HG7 := Lib.hid hg7
                       have HM7 := Lib.hid ho7
                       have HO7 := Lib.hid (HG5.out.lg.ownX HO5.out (by decide) hk7 (by simp))
                       have HT7 := Lib.hid (HG5.out.lg.ownX HT5.out (by decide) hk7 (by simp))
                       have hn7 : n7 = nE := ho7.len.trans HDL.out
                       subst hn7
                       clear hg7 hk7 ho7))
                  clear HG4 HO4 HG5 HO5 HT5 HCO HI HNE
                  go_loopw [16] (fun v wr => ∃ k : Nat, k ≤ n7 ∧ v = .int .i64 k ∧ Hid (Below w7.heap.size w7 wr)) (fun v _ => n7 - (intOf v).toNat)
                  case atStart => exact ⟨0, Nat.zero_le _, rfl, Lib.hid (Below.refl _ _)⟩
                  case round =>
                    obtain ⟨k, hk7, rfl, HB⟩ := hrel
                    by_cases hlk : k < n7
                    · have hkX : k < X.2.length := by rw [← HM7.out.len]; exact hlk
                      have hkE : k < E.length := by rw [← HT7.out.len]; exact hlk
                      obtain ⟨gD, rfl, -, -, -⟩ := HM7.out.formA (by omega)
                      obtain ⟨gE, rfl, -, -, -⟩ := HT7.out.formA (by omega)
                      have hlD : gD < wr.heap.size := (HM7.out.below HB.out).block_lt gD rfl
                      have hlE : gE < wr.heap.size := (HT7.out.below HB.out).block_lt gE rfl
                      have hxe : X.2[k].e = E[k] := by
                        have h1 : (X.2.map (·.e))[k]? = E[k]? := by rw [HMAP.out]
                        rw [List.getElem?_map, List.getElem?_eq_getElem hkX, List.getElem?_eq_getElem hkE] at h1
                        simpa using h1
                      have r1 : wr.rangeAt gD (k * 12 + 1) X.2[k].e.cells := fun j v hv => by
                        have := OwnL.cell Cm.cells_length (HM7.out.below HB.out) (k := k) (j := j + 1) (u := v) hkX (cm_ev_cell hv)
                        rw [← this]
                        congr 2
                        omega
                      have r2 : wr.rangeAt gE (k * 9) E[k].cells := fun j v hv => OwnL.cell Ev.cells_length (HT7.out.below HB.out) (k := k) (j := j) (u := v) hkE hv
                      rw [hxe] at r1
                      obtain ⟨x, hx⟩ : ∃ x, E[k] = x := ⟨_, rfl⟩
                      rw [hx] at r1 r2
                      have HR1 := Lib.hid r1
                      have HR2 := Lib.hid r2
                      have HNX : Hid (∀ W, (binOp .neq 43 (.agg x.cells.toArray) (.agg x.cells.toArray)).run Try.prog W = .ok (.bool false) W) := Lib.hid (fun W => by have h1 := ev_neq x x W; rw [decide_eq_true rfl] at h1; exact h1)
                      clear r1 r2 hx hxe hkX hkE
                      go_upto_region 26 with fail
                      have hKp := Keeps.base wr
                      refine wp_region_mixed [.pure, .pure, .pure, .pure, .held, .pure, .pure, .pure, .held, .pure] (fun _ => ⟨fun _ => True, fun _ _ => True⟩) (by kernel_rfl) (by kernel_rfl) ?_
                      repeat (refine mix_pure rfl rfl rfl (fun K hK => ?_); go_big_quiet_op; refine hK _ ?_; clear hK K)
                      refine mix_load rfl rfl (by assumption) 43 (.tmp 100) rfl gD (k * 12 + 1) rfl x.cells _ hlD HR1.out Try.underlying43 rfl (by kernel_rfl) ?_
                      simp only [Act.put, List.setIfInBounds_toArray, List.set_cons_zero, List.set_cons_succ]
                      repeat (refine mix_pure rfl rfl rfl (fun K hK => ?_); go_big_quiet_op; refine hK _ ?_; clear hK K)
                      refine mix_load rfl rfl (by assumption) 43 (.tmp 104) rfl gE (k * 9) rfl x.cells _ hlE HR2.out Try.underlying43 rfl (by kernel_rfl) ?_
                      simp only [Act.put, List.setIfInBounds_toArray, List.set_cons_zero, List.set_cons_succ]
                      refine mix_run (.bool false) rfl rfl (runs_neq rfl rfl rfl (by kernel_rfl) HNX.out) ?_
                      simp only [Act.put, List.setIfInBounds_toArray, List.set_cons_zero, List.set_cons_succ]
                      refine mix_nil ?_
                      intro w9 hW9
                      have HB9 := Lib.hid (bTrans HB.out hW9)
                      clear hKp hW9
                      go_wp2
                      go_roundw
                      case rel => exact ⟨k + 1, by omega, by go_num, HB9⟩
                      case measure => simp [intOf]; omega
                    · obtain rfl : k = n7 := by omega
                      go_upto_region 33 with fail
                      have HG9 := Lib.hid (HG7.out.on HB.out)
                      have HO9 := Lib.hid (HO7.out.below HB.out)
                      have HM9 := Lib.hid (HM7.out.below HB.out)
                      have HI9 := HIC
                      clear HG7 HO7 HM7 HT7 HB HIC
                      have hb9 := HI9.out.len
                      rw [List.length_append] at hb9
                      go_wp2_with (first | (at_builtin; refine wpList_app_cm rfl (.tmp 121) (.tmp 122) rfl w.heap.size _ all _ HO9.out rfl _ _ _ _ HM9.out.len rfl HM9.out.rd (by omega) HG9.out.below.size ?_; intro A11 c11 n11 w11 hn11 ho11 hg11; have HO11 := Lib.hid ho11; have HG11 := Lib.hid hg11; clear ho11 hg11))
                      go_roundw
                      case rel => exact ⟨i + 1, _, _, _, _, _, by omega, by omega, by go_num, A11, n11, c11, rfl, Lib.hid (HG9.out.farR HO9.out (Nat.le_refl _) HG11.out (by decide) (by decide)), HO11, HI9⟩
                      case measure => simp [intOf]; omega
                · obtain ⟨E, hE⟩ : ∃ E, toldAt T (com + 1) = E := ⟨_, rfl⟩
                  have hE64 := (toldAt_ok HG4.out.told (com + 1)).2
                  rw [hE] at HTO hE64
                  obtain ⟨nE, hnE⟩ : ∃ nE, E.length = nE := ⟨_, rfl⟩
                  rw [hnE] at HTO hE64
                  clear hE hnE
                  go_upto_region 24 with (first
                    | (go_at_call 12; refine HCM.out.mono ?_; rintro e w5 ⟨rfl, rfl⟩)
                    | (go_at_call 21; refine HTO.out.mono ?_; rintro e w5 ⟨B5, c5, rfl, -, hb5⟩
                       have HG5 := Lib.hid (HG4.out.on hb5)
                       have HO5 := Lib.hid (HO4.out.below hb5)
                       have HHA := Lib.hid (halted_any HG5.out.lg)
                       have HCO := Lib.hid (commit_halted HG5.out.lg (com + 1))
                       clear hb5)
                    | (go_at_call 20; refine HHA.out.mono ?_; rintro e w6 ⟨rfl, rfl⟩)
                    | (go_at_call 11; refine HCO.out.mono ?_; rintro e w7 ⟨rfl, rfl⟩))
                  clear HG4 HO4 HCM HTO HHA HCO
                  go_loopw [16] (fun v wr => v = .int .i64 0 ∧ Hid (LgR w wr g gl gt size i S T com true) ∧ Hid (OwnL wr w.heap.size 57 12 (.slice A' n' c') Cm.cells all)) (fun v _ => 1 - (intOf v).toNat)
                  case atStart => exact ⟨rfl, HG5, HO5⟩
                  case round =>
                    clear HG5 HO5
                    obtain ⟨rfl, HG5, HO5⟩ := hrel
                    go_upto_region 33 with fail
                    have HG9 := Lib.hid HG5.out.step
                    have HO9 := HO5
                    have HM9 : Hid (OwnL wr 0 57 12 (.slice none 0 0) Cm.cells ([] : List Cm)) := Lib.hid OwnL.nil
                    have HI9 := Lib.hid HI.out.stay
                    clear HG5 HO5 HI
                    have hb9 := HI9.out.len
                    rw [List.length_append] at hb9
                    go_wp2_with (first | (at_builtin; refine wpList_app_cm rfl (.tmp 121) (.tmp 122) rfl w.heap.size _ all _ HO9.out rfl _ _ _ _ HM9.out.len rfl HM9.out.rd (by omega) HG9.out.below.size ?_; intro A11 c11 n11 w11 hn11 ho11 hg11; have HO11 := Lib.hid ho11; have HG11 := Lib.hid hg11; clear ho11 hg11))
                    go_roundw
                    case rel => exact ⟨i + 1, _, _, _, _, _, by omega, by omega, by go_num, A11, n11, c11, rfl, Lib.hid (HG9.out.farR HO9.out (Nat.le_refl _) HG11.out (by decide) (by decide)), HO11, HI9⟩
                    case measure => simp [intOf]; omega
              · have q2 : (a.kind == 2) = false := by simp [hk2]
                by_cases hk3 : a.kind = 3
                · have q3 : (a.kind == 3) = true := by simp [hk3]
                  clear hk1 hk2 hk3
                  clear a04 a14 a24 a34 la4 HA4 HAI
                  cases halt
                  · have HHO := Lib.hid (halt_ok HG4.out.lg HG4.out.ok (by omega))
                    have HI9 := Lib.hid (HI.out.halts HG4.out.ok (by omega))
                    go_upto_region 33 with (first
                      | (go_at_call 23; refine HHO.out.mono ?_; rintro e w6 ⟨A6, n6, c6, rfl, ho6, hl6, hk6⟩
                         have HG6 := Lib.hid (HG4.out.halts (by omega) hl6 hk6)
                         have HO6 := Lib.hid (HG4.out.lg.ownX HO4.out (by decide) hk6 (by simp))
                         have HM6 := Lib.hid ho6
                         have HLV := Lib.hid (live_lg HG6.out.lg LvOk.nil (by simp))
                         clear hl6 hk6 ho6)
                      | (go_at_call 13; refine HLV.out.mono ?_; rintro e w7 ⟨A7, c7, rfl, -, hb7⟩
                         have HG9 := Lib.hid (HG6.out.on hb7)
                         have HO9 := Lib.hid (HO6.out.below hb7)
                         have HM9 := Lib.hid (HM6.out.below hb7)
                         have HHA := Lib.hid (halted_any HG9.out.lg)
                         clear hb7)
                      | (go_at_call 20; refine HHA.out.mono ?_; rintro e w8 ⟨rfl, rfl⟩))
                    clear HG4 HO4 HHO HG6 HO6 HM6 HLV HHA HI
                    have hb9 := HI9.out.len
                    rw [List.length_append] at hb9
                    go_wp2_with (first | (at_builtin; refine wpList_app_cm rfl (.tmp 121) (.tmp 122) rfl w.heap.size _ all _ HO9.out rfl _ _ _ _ HM9.out.len rfl HM9.out.rd (by omega) HG9.out.below.size ?_; intro A11 c11 n11 w11 hn11 ho11 hg11; have HO11 := Lib.hid ho11; have HG11 := Lib.hid hg11; clear ho11 hg11))
                    go_roundw
                    case rel => exact ⟨i + 1, _, _, _, _, _, by omega, by omega, by go_num, A11, n11, c11, rfl, Lib.hid (HG9.out.farR HO9.out (Nat.le_refl _) HG11.out (by decide) (by decide)), HO11, HI9⟩
                    case measure => simp [intOf]; omega
                  · have HS0 := Lib.hid (HI.out.hal rfl)
                    have hS0 := HS0.out
                    subst hS0
                    have HHO := Lib.hid (halt_again HG4.out.lg)
                    have HLV := Lib.hid (live_lg HG4.out.lg LvOk.nil (by simp))
                    go_upto_region 33 with (first
                      | (go_at_call 23; refine HHO.out.mono ?_; rintro e w6 ⟨rfl, rfl⟩)
                      | (go_at_call 13; refine HLV.out.mono ?_; rintro e w7 ⟨A7, c7, rfl, -, hb7⟩
                         have HG9 := Lib.hid (HG4.out.on hb7).step
                         have HO9 := Lib.hid (HO4.out.below hb7)
                         have HM9 : Hid (OwnL w7 0 57 12 (.slice none 0 0) Cm.cells ([] : List Cm)) := Lib.hid OwnL.nil
                         have HHA := Lib.hid (halted_any HG9.out.lg)
                         clear hb7)
                      | (go_at_call 20; refine HHA.out.mono ?_; rintro e w8 ⟨rfl, rfl⟩))
                    have HI9 := Lib.hid HI.out.stay
                    clear HG4 HO4 HHO HLV HHA HI
                    have hb9 := HI9.out.len
                    rw [List.length_append] at hb9
                    go_wp2_with (first | (at_builtin; refine wpList_app_cm rfl (.tmp 121) (.tmp 122) rfl w.heap.size _ all _ HO9.out rfl _ _ _ _ HM9.out.len rfl HM9.out.rd (by omega) HG9.out.below.size ?_; intro A11 c11 n11 w11 hn11 ho11 hg11; have HO11 := Lib.hid ho11; have HG11 := Lib.hid hg11; clear ho11 hg11))
                    go_roundw
                    case rel => exact ⟨i + 1, _, _, _, _, _, by omega, by omega, by go_num, A11, n11, c11, rfl, Lib.hid (HG9.out.farR HO9.out (Nat.le_refl _) HG11.out (by decide) (by decide)), HO11, HI9⟩
                    case measure => simp [intOf]; omega
                · have q3 : (a.kind == 3) = false := by simp [hk3]
                  clear hk1 hk2 hk3
                  go_upto_region 33 with fail
                  have HG9 := Lib.hid HG4.out.step
                  have HO9 := HO4
                  have HM9 : Hid (OwnL w4 0 57 12 (.slice none 0 0) Cm.cells ([] : List Cm)) := Lib.hid OwnL.nil
                  have HI9 := Lib.hid HI.out.stay
                  clear HG4 HO4 a04 a14 a24 a34 la4
                  have hb9 := HI9.out.len
                  rw [List.length_append] at hb9
                  go_wp2_with (first | (at_builtin; refine wpList_app_cm rfl (.tmp 121) (.tmp 122) rfl w.heap.size _ all _ HO9.out rfl _ _ _ _ HM9.out.len rfl HM9.out.rd (by omega) HG9.out.below.size ?_; intro A11 c11 n11 w11 hn11 ho11 hg11; have HO11 := Lib.hid ho11; have HG11 := Lib.hid hg11; clear ho11 hg11))
                  go_roundw
                  case rel => exact ⟨i + 1, _, _, _, _, _, by omega, by omega, by go_num, A11, n11, c11, rfl, Lib.hid (HG9.out.farR HO9.out (Nat.le_refl _) HG11.out (by decide) (by decide)), HO11, HI9⟩
                  case measure => simp [intOf]; omega
          · go_wp2_with (first | (go_at_call 10; refine HF.out.mono ?_; rintro e w4 ⟨rfl, hb4⟩; have HG4 := Lib.hid (HG3.out.on hb4); have HO4 := Lib.hid (HO3.out.below hb4); clear hb4))
            go_roundw
            case rel => exact ⟨i + 1, _, _, _, _, _, by omega, by omega, by go_num, A', n', c', rfl, Lib.hid HG4.out.step, HO4, Lib.hid (by have := HI.out.stay; rwa [List.append_nil] at this)⟩
            case measure => simp [intOf]; omega
        · have hfx := HI.out.len
          have hlen := HI.out.len
          obtain ⟨sst, hs1', -⟩ := HI.out.san
          have hsf : saneF all = true := by unfold saneF; rw [hs1']; rfl
          have HWF : Hid (∀ x ∈ all, x.e.key.Wf) := Lib.hid (fun x hx => evOk_wf (HI.out.wf x hx))
          have hnl := HO.out.len
          have HS : Hid (∀ W, Below wr.heap.size wr W → Calls Try.prog 16 #[.slice A' n' c'] W fun e w' => e = .returned (.bool true) ∧ Below W.heap.size W w') := Lib.hid (fun W hW => by rw [hnl, ← hsf]; exact sane_any A' c' all W (by omega) (by have h1 := (HO.out.below hW).rd; exact h1) HWF.out)
          have HD : Hid (∀ W, Below wr.heap.size wr W → Calls Try.prog 17 #[.slice A' n' c'] W fun e w' => e = .returned (.bool true) ∧ Below W.heap.size W w') := Lib.hid (fun W hW => by rw [hnl, ← hsf, sane_same]; exact rsane_any A' c' all W (by omega) (by have h1 := (HO.out.below hW).rd; exact h1))
          clear hs1' hsf hnl HWF
          go_wp2_with (first | (go_at_call 16; refine (HS.out wr (Below.refl _ _)).mono ?_; rintro e w12 ⟨rfl, hb12⟩; have HB12 := Lib.hid hb12; clear hb12) | (go_at_call 17; refine (HD.out _ HB12.out).mono ?_; rintro e w13 ⟨rfl, hb13⟩; have HB13 := Lib.hid (bTrans HB12.out hb13); clear hb13))
          go_ret
          exact ⟨rfl, HG.out.below.trans (HB13.out.mono HG.out.below.size)⟩
      · have hfx := HI.out.len
        have hlen := HI.out.len
        obtain ⟨sst, hs1', -⟩ := HI.out.san
        have hsf : saneF all = true := by unfold saneF; rw [hs1']; rfl
        have HWF : Hid (∀ x ∈ all, x.e.key.Wf) := Lib.hid (fun x hx => evOk_wf (HI.out.wf x hx))
        have hnl := HO.out.len
        have HS : Hid (∀ W, Below wr.heap.size wr W → Calls Try.prog 16 #[.slice A' n' c'] W fun e w' => e = .returned (.bool true) ∧ Below W.heap.size W w') := Lib.hid (fun W hW => by rw [hnl, ← hsf]; exact sane_any A' c' all W (by omega) (by have h1 := (HO.out.below hW).rd; exact h1) HWF.out)
        have HD : Hid (∀ W, Below wr.heap.size wr W → Calls Try.prog 17 #[.slice A' n' c'] W fun e w' => e = .returned (.bool true) ∧ Below W.heap.size W w') := Lib.hid (fun W hW => by rw [hnl, ← hsf, sane_same]; exact rsane_any A' c' all W (by omega) (by have h1 := (HO.out.below hW).rd; exact h1))
        clear hs1' hsf hnl HWF
        go_wp2_with (first | (go_at_call 16; refine (HS.out wr (Below.refl _ _)).mono ?_; rintro e w12 ⟨rfl, hb12⟩; have HB12 := Lib.hid hb12; clear hb12) | (go_at_call 17; refine (HD.out _ HB12.out).mono ?_; rintro e w13 ⟨rfl, hb13⟩; have HB13 := Lib.hid (bTrans HB12.out hb13); clear hb13))
        go_ret
        exact ⟨rfl, HG.out.below.trans (HB13.out.mono HG.out.below.size)⟩
  · go_enter Try.func7, Try.ntmps7
    go_wp2_with (first
      | (go_at_call 8; refine (awake_any _).mono ?_; rintro e w1 ⟨rfl, hb1⟩; have HB1 := Lib.hid hb1; clear hb1)
      | (go_at_call 9; refine (new_bad size _ (by omega)).mono ?_; rintro e w2 ⟨rfl, rfl⟩))
    go_ret
    exact ⟨rfl, HB1.out⟩
end Go.Proofs.Yteccmklacgpodaa
