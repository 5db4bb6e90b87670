/-
  LedgerTells: the walk.
-/
import Derived.Test.YteccmklacgpodaaLTels
namespace Go.Proofs.Yteccmklacgpodaa
open Go.RowKit
set_option maxRecDepth 100000
set_option linter.unusedSimpArgs false
set_option maxHeartbeats 8000000 in
theorem tells_any (A : Option Addr) (c : Nat) (l : List ActP) (w : World) (hr : Rd w w.heap.size A (l.flatMap ActP.cells)) (hin : ∀ a ∈ l, a.In w) : Calls Try.prog 3 #[.slice A l.length c] w fun e w' => e = .returned (.bool true) ∧ Below w.heap.size w w' := by
  have HR := Lib.hid hr
  have HIN := Lib.hid hin
  obtain ⟨m, hm⟩ : ∃ m, l.length = m := ⟨_, rfl⟩
  have HM := Lib.hid hm
  rw [hm]
  clear hr hin hm
  go_enter Try.func3, Try.ntmps3
  go_wp2_with (first
    | (go_at_call 8; refine (awake_any _).mono ?_; rintro e w1 ⟨rfl, hb1⟩; have HN := Lib.hid (new_lgr 256 w1 (by omega) hb1); have HB1 := Lib.hid hb1; clear hb1)
    | (go_at_call 9; refine HN.out.mono ?_; rintro e w2 ⟨rfl, hg2⟩; have HG2 := Lib.hid hg2; clear hg2))
  obtain ⟨g, hg⟩ : ∃ g, w1.heap.size + 2 = g := ⟨_, rfl⟩
  obtain ⟨gt, hgt⟩ : ∃ gt, w1.heap.size + 1 = gt := ⟨_, rfl⟩
  obtain ⟨gl, hgl⟩ : ∃ gl, w1.heap.size = gl := ⟨_, rfl⟩
  rw [hg, hgt, hgl] at HG2
  rw [hg]
  clear hg hgt hgl HN HB1
  go_loopw [5] (fun v wr => ∃ (i : Nat) (S : List Ev) (T : List TEnt) (com : Int), i ≤ m ∧ v = .int .i64 i ∧ Hid (LgR w wr g gl gt 256 (2 * i) S T com false)) (fun v _ => m - (intOf v).toNat)
  case atStart => exact ⟨0, [], [], -1, Nat.zero_le _, rfl, HG2⟩
  case round =>
    obtain ⟨i, S, T, com, him, rfl, HG⟩ := hrel
    clear HG2
    by_cases hlt : i < m
    · by_cases h100 : i < 100
      · have hil : i < l.length := by rw [HM.out]; exact hlt
        obtain ⟨b, off, rfl, hbl, x0, x1, x2, x3⟩ := (HR.out.below HG.out.below (Nat.le_refl _)).act hil
        have hbw : b < wr.heap.size := Nat.lt_of_lt_of_le hbl HG.out.below.size
        have hai := HIN.out l[i] (List.getElem_mem hil)
        obtain ⟨a, ha⟩ : ∃ a, l[i] = a := ⟨_, rfl⟩
        rw [ha] at x0 x1 x2 x3 hai
        have HAI := Lib.hid hai
        obtain ⟨n, hn⟩ : ∃ n, a.evs.length = n := ⟨_, rfl⟩
        have HN := Lib.hid hn
        rw [hn] at x2
        clear ha hai hn hbl
        go_upto_region 10 with fail
        obtain ⟨w3, hw3⟩ : ∃ w3, w3 = wr.alloc (.cells #[.int .i64 a.kind, .int .i64 a.frame, .slice a.A n a.c, .int .i64 a.by_] 32) := ⟨_, rfl⟩
        have HA3 : Hid (Blk w3 wr.heap.size 32 #[.int .i64 a.kind, .int .i64 a.frame, .slice a.A n a.c, .int .i64 a.by_]) := Lib.hid (by rw [hw3]; exact Blk.new _ _ _)
        have HG3 : Hid (LgR w w3 g gl gt 256 (2 * i) S T com false) := Lib.hid (by rw [hw3]; exact HG.out.on (bAlloc (Below.refl _ _) _))
        rw [← hw3]
        clear hw3 x0 x1 x2 x3 hbw HG
        obtain ⟨gA, hgA⟩ : ∃ gA, wr.heap.size = gA := ⟨_, rfl⟩
        rw [hgA] at HA3 ⊢
        clear hgA
        obtain ⟨a0, a1, a2, a3, la⟩ := HA3.out.four
        obtain ⟨d, hd⟩ : ∃ d, decide (farA a.frame a.by_ n) = d := ⟨_, rfl⟩
        have HF := Lib.hid (far_any a.kind a.frame a.by_ a.A n a.c w3)
        have HD := Lib.hid hd
        rw [hd] at HF
        clear hd
        cases d
        · have hfar : ¬ farA a.frame a.by_ n := by simpa using HD.out
          unfold farA at hfar
          go_upto_region 11 with (first | (go_at_call 10; refine HF.out.mono ?_; rintro e w4 ⟨rfl, hb4⟩; have HA4 := Lib.hid (HA3.out.on hb4); have HG4 := Lib.hid (HG3.out.on hb4); clear hb4))
          clear a0 a1 a2 a3 la HA3 HG3 HF HD
          obtain ⟨a0, a1, a2, a3, la⟩ := HA4.out.four
          by_cases hk2 : a.kind = 2
          · have hb2 : (a.kind == 2) = true := by simp [hk2]
            have hb1 : (a.kind != 1) = true := by simp [hk2]
            clear hk2
            have hcb := HG4.out.com
            have HCM := Lib.hid (committed_any HG4.out.lg)
            have HCO := Lib.hid (commit_lgr HG4.out (by omega))
            go_upto_region 13 with (first
              | (go_at_call 12; refine HCM.out.mono ?_; rintro e w5 ⟨rfl, rfl⟩)
              | (go_at_call 11; refine HCO.out.mono ?_; rintro e w5 ⟨A5, n5, c5, rfl, -, hg5, hk5⟩
                 have HG5 := Lib.hid hg5
                 have ha5 : Blk w5 gA 32 #[.int .i64 a.kind, .int .i64 a.frame, .slice a.A n a.c, .int .i64 a.by_] := HG4.out.lg.blkX HA4.out (by decide) hk5 (by simp)
                 have HA5 := Lib.hid ha5
                 clear hg5 hk5 ha5))
            obtain ⟨a05, -, -, -, la5⟩ := HA5.out.four
            go_wp2
            go_roundw
            case rel => exact ⟨i + 1, _, _, _, by omega, by go_num, Lib.hid HG5.out.step⟩
            case measure => simp [intOf]; omega
          · have hb2 : (a.kind == 2) = false := by simp [hk2]
            clear hk2
            go_upto_region 13 with fail
            by_cases hk1 : a.kind = 1
            · have hb1 : (a.kind != 1) = false := by simp [hk1]
              clear hk1
              have hcb := HG4.out.com
              have hl := HG4.out.len
              have hwb := HG4.out.below.size
              have HLV := Lib.hid (live_lg HG4.out.lg HG4.out.ok (by omega))
              have HRE : Hid (∀ W, Below w.heap.size w W → Rd W W.heap.size a.A (a.evs.flatMap Ev.cells)) := Lib.hid (fun W hW => (HAI.out.rows.below hW (Nat.le_refl _)).more hW.size)
              go_upto_region 15 with (first
                | (go_at_call 13; refine HLV.out.mono ?_; rintro e w5 ⟨A5, c5, rfl, -, hb5⟩
                   have HG5 := Lib.hid (HG4.out.on hb5)
                   have HA5 := Lib.hid (HA4.out.on hb5)
                   clear hb5))
              clear a0 a1 a2 a3 la HG4 HA4 HLV
              obtain ⟨a0, a1, a2, a3, la⟩ := HA5.out.four
              obtain ⟨L, hL⟩ : ∃ L, S.length = L := ⟨_, rfl⟩
              have HL := Lib.hid hL
              rw [hL] at hl ⊢
              clear hL
              by_cases hE : fitsE false com a.evs a.frame (a.frame + a.by_) = 0
              · have HTE := Lib.hid (tell_lgr HG5.out (by omega) (by omega) a.frame (a.frame + a.by_) a.A a.c a.evs (HRE.out _ HG5.out.below) hE)
                rw [HN.out] at HTE
                have HE := Lib.hid hE
                clear hE
                go_upto_region 16 with (first
                  | (go_at_call 14; refine HTE.out.mono ?_; rintro e w6 ⟨A6, n6, c6, v6, rfl, -, hg6, hk6⟩
                     have HG6 := Lib.hid hg6
                     have HA6 := Lib.hid (HG5.out.lg.blkX HA5.out (by decide) hk6 (by simp))
                     clear hg6 hk6))
                obtain ⟨-, hab, hcf⟩ := fitsE_zero HE.out
                obtain ⟨ho1, ho2, -, -⟩ := argB_of hab
                have HOF := Lib.hid (tell_heard (most := 256) (now := a.frame + a.by_) HG5.out.ok ho1 ho2)
                have HOR := Lib.hid ho1
                clear a0 a1 a2 a3 la HG5 HA5 HTE hab ho1 ho2
                obtain ⟨a0, a1, a2, a3, la⟩ := HA6.out.four
                obtain ⟨S', hS'⟩ : ∃ S', (tellF 256 (a.frame + a.by_) a.evs a.frame S).1 = S' := ⟨_, rfl⟩
                rw [hS'] at HOF HG6
                clear hS'
                by_cases hroom : 256 - (L : Int) < n
                · go_wp2
                  go_roundw
                  case rel => exact ⟨i + 1, _, _, _, by omega, by go_num, Lib.hid HG6.out.step⟩
                  case measure => simp [intOf]; omega
                · have HSE : Hid (ofF a.frame S' = a.evs) := Lib.hid (HOF.out (by have := HL.out; have := HN.out; omega))
                  have hl6 := HG6.out.len
                  clear HOF
                  go_upto_region 18 with fail
                  obtain ⟨w7, hw7⟩ : ∃ w7, w7 = w6.alloc (.cells #[] 43) := ⟨_, rfl⟩
                  have HO7 : Hid (OwnL w7 w6.heap.size 43 9 (.slice (some ⟨w6.heap.size, 0, none⟩) 0 0) Ev.cells ([] : List Ev)) := Lib.hid (by
                    rw [hw7]
                    exact OwnL.lit (f := Ev.cells) (m := 9) (n := 0) (c := 0) [] #[] (Nat.le_refl _) (by simp [maxLen]) Ev.cells_length rfl rfl rfl)
                  have HB7 : Hid (Below w6.heap.size w6 w7) := Lib.hid (by rw [hw7]; exact bAlloc (Below.refl _ _) _)
                  have hs7 : w6.heap.size < w7.heap.size := by rw [hw7]; simp
                  have HLV := Lib.hid (live_lg (HG6.out.on HB7.out).lg HG6.out.ok (by omega))
                  rw [← hw7]
                  clear hw7
                  obtain ⟨a07, a17, a27, a37, la7⟩ := (HA6.out.on HB7.out).four
                  clear a0 a1 a2 a3 la
                  go_upto_region 20 with (first
                    | (go_at_call 13; refine HLV.out.mono ?_; rintro e w8 ⟨A8, c8, rfl, ho8, hb8⟩
                       have HR8 := Lib.hid ho8
                       have HO8 := Lib.hid (HO7.out.below hb8)
                       have HB8 := Lib.hid (bTrans HB7.out hb8)
                       have hs8 : w7.heap.size ≤ w8.heap.size := hb8.size
                       clear ho8 hb8))
                  clear a07 a17 a27 a37 la7 HO7 HB7 HLV
                  obtain ⟨M, hM⟩ : ∃ M, S'.length = M := ⟨_, rfl⟩
                  have HML := Lib.hid hM
                  rw [hM] at HR8 hl6 ⊢
                  clear hM
                  go_loopw [10, 12] (fun u v wr2 => ∃ k : Nat, k ≤ M ∧ v = .int .i64 k ∧ ∃ A' n' c', u = .slice A' n' c' ∧ Hid (OwnL wr2 w6.heap.size 43 9 (.slice A' n' c') Ev.cells (ofF a.frame (S'.take k))) ∧ Hid (∀ q, (Value.slice A' n' c').ownBlock = some q → q = w6.heap.size ∨ w8.heap.size ≤ q) ∧ Hid (KeptX w8 wr2 [w6.heap.size])) (fun _ v _ => M - (intOf v).toNat)
                  case atStart => exact ⟨0, Nat.zero_le _, rfl, some ⟨w6.heap.size, 0, none⟩, 0, 0, rfl, HO8, Lib.hid (fun q hq => by simp [Value.ownBlock] at hq; exact .inl hq.symm), Lib.hid (KeptX.refl _ _)⟩
                  case round =>
                    obtain ⟨k, hkM, rfl, A', n', c', rfl, HOU, HQ, HK⟩ := hrel
                    have hs9 := HK.out.size
                    have HB9 : Hid (Below w6.heap.size w6 wr) := Lib.hid (HB8.out.trans (HK.out.toBelow (fun x hx => by simp at hx; omega) (by omega)))
                    have HR9 : Hid (OwnL wr w7.heap.size 43 9 (.slice A8 M c8) Ev.cells S') := Lib.hid (HR8.out.same (fun q hq => HK.out.block q (HR8.out.block_lt q hq) (fun hx => by have := HR8.out.base_le q hq; simp at hx; omega)))
                    clear HO8
                    obtain ⟨a0, a1, a2, a3, la⟩ := (HA6.out.on HB9.out).four
                    by_cases hlk : k < M
                    · have hkS : k < S'.length := by rw [HML.out]; exact hlk
                      obtain ⟨b8, off8, rfl, hbl8, x0, x1, x2, x3, x4, x5, x6, x7, x8⟩ := HR9.out.rd.ev hkS
                      have HSN := Lib.hid (ofF_snoc a.frame S' k hkS)
                      have hok1 : (ofF a.frame (S'.take k)).length ≤ 256 := by
                        have h1 := ofF_le a.frame (S'.take k)
                        rw [List.length_take] at h1
                        omega
                      obtain ⟨x, hx⟩ : ∃ x, S'[k] = x := ⟨_, rfl⟩
                      rw [hx] at x0 x1 x2 x3 x4 x5 x6 x7 x8 HSN
                      clear hx hkS
                      by_cases hfr : x.frame = a.frame
                      · have hbf : (x.frame == a.frame) = true := by simp [hfr]
                        rw [if_pos hfr] at HSN
                        clear hfr
                        go_wp2_with fail
                        refine wp_region_mild (by kernel_rfl) (by kernel_rfl) ?_
                        repeat (go_big_quiet_step (fail))
                        refine wpQuiet_nil ?_
                        intro w10 hw'
                        obtain ⟨⟨wq, k10⟩, hw''⟩ := hw'
                        subst hw''
                        have HO10 := Lib.hid (HOU.out.below k10)
                        have HK10 := Lib.hid (HK.out.below k10)
                        have hs10 := k10.size
                        have hat10 : EvAt w10 b8 (off8 + k * 9) x := by
                          have hbc : ∀ o, w10.cell? ⟨b8, o, none⟩ = wr.cell? ⟨b8, o, none⟩ := fun o => k10.cell (p := ⟨b8, o, none⟩) hbl8
                          unfold EvAt
                          simp only [hbc]
                          exact ⟨x0, x1, x2, x3, x4, x5, x6, x7, x8⟩
                        have hbl10 : b8 < w10.heap.size := Nat.lt_of_lt_of_le hbl8 hs10
                        clear x0 x1 x2 x3 x4 x5 x6 x7 x8 k10 HOU HR9 HB9 HK hbl8
                        obtain ⟨x0, x1, x2, x3, x4, x5, x6, x7, x8⟩ := hat10
                        go_wp2_with (first | (at_builtin; refine wpList_app_evU rfl (.tmp 96) (.tmp 101) rfl w6.heap.size _ (ofF a.frame (S'.take k)) [x] (HO10.out.alloc _) rfl _ _ 1 1 rfl rfl (rd_ev1 _ x) (by simp only [List.length_cons, List.length_nil]; omega) (by simp; omega) ?_; intro A11 c11 n11 w11 ho11 hg11 hat11; have HO11 := Lib.hid ho11; have HG11 := Lib.hid hg11; have HAT11 := Lib.hid hat11; clear ho11 hg11 hat11))
                        go_roundw
                        case rel =>
                          refine ⟨k + 1, by omega, by go_num, A11, n11, c11, rfl, Lib.hid (by rw [HSN.out]; exact HO11.out), Lib.hid (fun q hq => ?_), Lib.hid ((HK10.out.alloc _).grown HG11.out (fun r hr => ?_))⟩
                          · rcases HAT11.out with h | h
                            · exact HQ.out q (by rw [← h]; exact hq)
                            · rw [h] at hq
                              simp at hq
                              omega
                          · rcases HQ.out r hr with h | h
                            · left; simp [h]
                            · exact .inr h
                        case measure => simp [intOf]; omega
                      · have hbf : (x.frame == a.frame) = false := by simp [hfr]
                        rw [if_neg hfr, List.append_nil] at HSN
                        clear hfr
                        go_wp2_with fail
                        refine wp_region_mild (by kernel_rfl) (by kernel_rfl) ?_
                        repeat (go_big_quiet_step (fail))
                        refine wpQuiet_nil ?_
                        intro w10 hw'
                        obtain ⟨⟨wq, k10⟩, hw''⟩ := hw'
                        subst hw''
                        go_wp2
                        go_roundw
                        case rel => exact ⟨k + 1, by omega, by go_num, A', n', c', rfl, Lib.hid (by rw [HSN.out]; exact HOU.out.below k10), HQ, Lib.hid (HK.out.below k10)⟩
                        case measure => simp [intOf]; omega
                    · obtain rfl : k = M := by omega
                      rw [List.take_of_length_le (by rw [HML.out]; exact Nat.le_refl _), HSE.out] at HOU
                      have hn' : n' = n := HOU.out.len.trans HN.out
                      rw [hn'] at HOU ⊢
                      have HG9 := Lib.hid (HG6.out.on HB9.out)
                      have HA9 := Lib.hid (HA6.out.on HB9.out)
                      have HSM := Lib.hid (same_any A' a.A c' a.c a.evs a.evs wr (by have := HN.out; omega) HOU.out.rd (HRE.out wr HG9.out.below))
                      rw [HN.out, decide_eq_true rfl] at HSM
                      have hcb9 := HG9.out.com
                      clear hn' HK HQ HR9 HB9 HR8 HB8
                      go_upto_region 26 with (first
                        | (go_at_call 15; refine HSM.out.mono ?_; rintro e w12 ⟨rfl, hb12⟩
                           have HG12 := Lib.hid (HG9.out.on hb12)
                           have HA12 := Lib.hid (HA9.out.on hb12)
                           clear hb12))
                      clear a0 a1 a2 a3 la HG9 HA9 HSM HOU HG6 HA6
                      obtain ⟨a0, a1, a2, a3, la⟩ := HA12.out.four
                      have hta := tell_again (most := 256) (now := a.frame + a.by_) HG12.out.ok HSE.out
                      have htl := tell_lgr HG12.out (by omega) (by omega) a.frame (a.frame + a.by_) a.A a.c a.evs (HRE.out _ HG12.out.below) HE.out
                      rw [hta, HN.out] at htl
                      have HTE := Lib.hid htl
                      clear hta htl
                      go_wp2_with (first
                        | (go_at_call 14; refine HTE.out.mono ?_; rintro e w13 ⟨A13, n13, c13, v13, rfl, ho13, hg13, -⟩
                           have HG13 := Lib.hid hg13
                           have hn13 : n13 = 0 := ho13.len
                           subst hn13
                           clear hg13 ho13))
                      go_roundw
                      case rel => exact ⟨i + 1, _, _, _, by omega, by go_num, HG13⟩
                      case measure => simp [intOf]; omega
              · have HTE := Lib.hid (tell_bad HG5.out.lg a.frame (a.frame + a.by_) a.A a.c a.evs (by have := HN.out; omega) (HRE.out _ HG5.out.below) hE)
                obtain ⟨E, hEE⟩ : ∃ E, fitsE false com a.evs a.frame (a.frame + a.by_) = E := ⟨_, rfl⟩
                rw [hEE] at HTE hE
                rw [HN.out] at HTE
                have hbe : (E != 0) = true := by simpa using hE
                clear hEE hE
                go_wp2_with (first
                  | (go_at_call 14; refine HTE.out.mono ?_; rintro e w6 ⟨rfl, hb6⟩
                     have HG6 := Lib.hid (HG5.out.on hb6)
                     clear hb6))
                go_roundw
                case rel => exact ⟨i + 1, _, _, _, by omega, by go_num, Lib.hid HG6.out.step.step⟩
                case measure => simp [intOf]; omega
            · have hb1 : (a.kind != 1) = true := by simp [hk1]
              go_wp2
              go_roundw
              case rel => exact ⟨i + 1, _, _, _, by omega, by go_num, Lib.hid HG4.out.step.step⟩
              case measure => simp [intOf]; omega
        · go_wp2_with (first | (go_at_call 10; refine HF.out.mono ?_; rintro e w4 ⟨rfl, hb4⟩; have HG4 := Lib.hid (HG3.out.on hb4); clear hb4))
          go_roundw
          case rel => exact ⟨i + 1, _, _, _, by omega, by go_num, Lib.hid HG4.out.step.step⟩
          case measure => simp [intOf]; omega
      · go_wp2
        go_ret
        exact ⟨rfl, HG.out.below⟩
    · go_wp2
      go_ret
      exact ⟨rfl, HG.out.below⟩
end Go.Proofs.Yteccmklacgpodaa
