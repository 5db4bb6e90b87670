/-
  The document's Rising of keys.
-/
import Derived.Test.YtdjfpdndaobohaaROrd
import Derived.Test.YtdjfpdndaobohaaApC
namespace Go.Proofs.Ytdjfpdndaobohaa
open Go.RowKit
set_option maxRecDepth 100000
set_option linter.unusedSimpArgs false
theorem risK_bad (L : List Key4) (k : Nat) (hk : k < L.length) (h : keyOk L[k] = false) : risingF key0 L = false := by
  refine risingF_take L key0 (k + 1) ?_
  rw [List.take_succ_eq_append_getElem hk, risingF_snoc, h]
  simp
theorem risK_first (L : List Key4) (hk : 0 < L.length) (h : keyOk L[0] = true) : risingF key0 (L.take 1) = true := by
  rw [List.take_succ_eq_append_getElem hk]
  simp only [List.take_zero, List.nil_append]
  unfold risingF
  rw [h, decide_eq_true (key0_lt h)]
  rfl
theorem risK_next (L : List Key4) (k : Nat) (hk : k + 1 < L.length) (hp : risingF key0 (L.take (k + 1)) = true) (h : keyOk L[k + 1] = true) : risingF key0 (L.take (k + 2)) = decide (cmpK L[k] L[k + 1] < 0) := by
  have hl : lastF key0 (L.take (k + 1)) = L[k] := by
    rw [List.take_succ_eq_append_getElem (show k < L.length by omega)]
    exact lastF_snoc _ _ _
  rw [List.take_succ_eq_append_getElem hk, risingF_snoc, hp, hl, h]
  simp
set_option maxHeartbeats 4000000 in
theorem rrising_any (A : Option Addr) (c : Nat) (L : List Key4) (hL : L.length ≤ 1000) (w : World) (hr : Rd w w.heap.size A (L.flatMap Key4.cells)) :
    Calls Try.prog 53 #[.slice A L.length c] w fun e w' => e = .returned (.bool (risingF key0 L)) ∧ Below w.heap.size w w' := by
  obtain ⟨n, hn⟩ : ∃ n, L.length = n := ⟨_, rfl⟩
  rw [hn] at hL ⊢
  have HN := Lib.hid hn
  have HR := Lib.hid hr
  clear hr hn
  go_enter Try.func53, Try.ntmps53
  go_wp2_with fail
  go_loopw [3] (fun v wr => ∃ k : Nat, k ≤ n ∧ v = .int .i64 k ∧ Hid (risingF key0 (L.take k) = true) ∧ Below w.heap.size w wr) (fun v _ => n - (intOf v).toNat)
  case atStart => exact ⟨0, Nat.zero_le _, rfl, Lib.hid (by simp [risingF]), Below.refl _ _⟩
  case round =>
    obtain ⟨k, hk, rfl, HB, hb⟩ := hrel
    by_cases hlt : k < n
    · have hkL : k < L.length := by rw [HN.out]; exact hlt
      obtain ⟨b, off, rfl, hbl, x0, x1, x2, x3⟩ := (HR.out.below hb (Nat.le_refl _)).key4 hkL
      have hblw := Nat.lt_of_lt_of_le hbl hb.size
      obtain ⟨x, hx⟩ : ∃ x, L[k] = x := ⟨_, rfl⟩
      have HBAD := Lib.hid (risK_bad L k hkL)
      rw [hx] at x0 x1 x2 x3 HBAD
      have HX := Lib.hid hx
      have HRI := Lib.hid (fun W => r11Key_any x W)
      unfold Key4.val at HRI
      clear hx
      cases hok : keyOk x
      · have HF : Hid (risingF key0 L = false) := Lib.hid (HBAD.out hok)
        rw [hok] at HRI
        clear hok HBAD
        go_wp2_with fail
        refine wp_region_mild (by kernel_rfl) (by kernel_rfl) ?_
        repeat (go_big_quiet_step ((go_at_call 47; exact mild_of (HRI.out _))))
        refine wpQuiet_nil ?_
        intro w1 hw'
        obtain ⟨⟨wq, k1⟩, hw''⟩ := hw'
        subst hw''
        go_wp2
        go_ret
        exact ⟨ret_bool HF.out.symm, bTrans hb k1⟩
      · rw [hok] at HRI
        rcases k with _ | k
        · have HNX : Hid (risingF key0 (L.take (0 + 1)) = true) := Lib.hid (risK_first L hkL (by rw [HX.out]; exact hok))
          simp only [Nat.zero_mul, Nat.add_zero] at x0 x1 x2 x3
          clear hok HBAD
          go_wp2_with fail
          refine wp_region_mild (by kernel_rfl) (by kernel_rfl) ?_
          repeat (go_big_quiet_step ((go_at_call 47; exact mild_of (HRI.out _))))
          refine wpQuiet_nil ?_
          intro w1 hw'
          obtain ⟨⟨wq, k1⟩, hw''⟩ := hw'
          subst hw''
          go_wp2
          go_roundw
          case rel => exact ⟨0 + 1, by omega, by go_num, HNX, bTrans hb k1⟩
          case measure => simp [intOf]; omega
        · have hstep := risK_next L k (by rw [HN.out]; exact hlt) HB.out (by rw [HX.out]; exact hok)
          obtain ⟨b', off', hA', hbl', y0, y1, y2, y3⟩ := (HR.out.below hb (Nat.le_refl _)).key4 (k := k) (by rw [HN.out]; omega)
          simp only [Option.some.injEq, Addr.mk.injEq, and_true] at hA'
          obtain ⟨rfl, rfl⟩ := hA'
          obtain ⟨y, hy⟩ : ∃ y, L[k]'(by rw [HN.out]; omega) = y := ⟨_, rfl⟩
          rw [hy] at y0 y1 y2 y3 hstep
          rw [HX.out] at hstep
          have HCM := Lib.hid (fun W => r11Compare_any y x W)
          unfold Key4.val at HCM
          have hbd := cmpK_bd y x
          obtain ⟨q, hq⟩ : ∃ q, cmpK y x = q := ⟨_, rfl⟩
          rw [hq] at HCM hstep hbd
          have hsub : ((k : Int) + 1 - 1) = k := by omega
          have HST := Lib.hid hstep
          clear hok HBAD hy hq hstep
          by_cases hc : q < 0
          · have hd : decide (0 ≤ q) = false := decide_eq_false (by omega)
            have HNX : Hid (risingF key0 (L.take (k + 1 + 1)) = true) := Lib.hid (by rw [HST.out, decide_eq_true hc])
            clear hc
            go_wp2_with fail
            refine wp_region_mild (by kernel_rfl) (by kernel_rfl) ?_
            repeat (go_big_quiet_step ((first | (go_at_call 47; exact mild_of (HRI.out _)) | (go_at_call 24; exact mild_of (HCM.out _)))))
            refine wpQuiet_nil ?_
            intro w1 hw'
            obtain ⟨⟨wq, k1⟩, hw''⟩ := hw'
            subst hw''
            go_wp2
            go_roundw
            case rel => exact ⟨k + 1 + 1, by omega, by go_num, HNX, bTrans hb k1⟩
            case measure => simp [intOf]; omega
          · have hd : decide (0 ≤ q) = true := decide_eq_true (by omega)
            have HF : Hid (risingF key0 L = false) := Lib.hid (risingF_take L key0 (k + 2) (by rw [HST.out, decide_eq_false hc]))
            clear hc
            go_wp2_with fail
            refine wp_region_mild (by kernel_rfl) (by kernel_rfl) ?_
            repeat (go_big_quiet_step ((first | (go_at_call 47; exact mild_of (HRI.out _)) | (go_at_call 24; exact mild_of (HCM.out _)))))
            refine wpQuiet_nil ?_
            intro w1 hw'
            obtain ⟨⟨wq, k1⟩, hw''⟩ := hw'
            subst hw''
            go_wp2
            go_ret
            exact ⟨ret_bool HF.out.symm, bTrans hb k1⟩
    · obtain rfl : k = n := by omega
      have HT : Hid (risingF key0 L = true) := Lib.hid (by
        have := HB.out
        rwa [List.take_of_length_le (by rw [HN.out]; exact Nat.le_refl _)] at this)
      go_wp2
      go_ret
      exact ⟨ret_bool HT.out.symm, hb⟩
end Go.Proofs.Ytdjfpdndaobohaa
