/-
  The document's Sort.
-/
import Derived.Test.YtdjfpdndaobohaaSortP
import Derived.Test.YtdjfpdndaobohaaMildL
namespace Go.Proofs.Ytdjfpdndaobohaa
open Go.RowKit
set_option maxRecDepth 100000
set_option linter.unusedSimpArgs false
theorem all_bad (L : List Ev) (k : Nat) (hk : k < L.length) (h : evOk L[k] = false) : L.all evOk = false := by
  rw [← Bool.not_eq_true, List.all_eq_true]
  intro h'
  have := h' L[k] (List.getElem_mem hk)
  rw [h] at this
  cases this
theorem all_take (L : List Ev) (k : Nat) (hk : k < L.length) (h : (L.take k).all evOk = true) (hx : evOk L[k] = true) : (L.take (k + 1)).all evOk = true := by
  rw [List.take_succ_eq_append_getElem hk, List.all_append, h]
  simp [hx]
theorem ordered_puts {L : List Ev} (ha : L.all evOk = true) (h64 : L.length ≤ 64) : orderedB (putsE L) = risingF key0 ((putsE L).map Ev.key) := by
  unfold orderedB
  rw [all_perm (putsE_perm L), ha, (putsE_perm L).length_eq, decide_eq_true h64]
  rfl
set_option maxHeartbeats 8000000 in
theorem rsort_any (A : Option Addr) (c : Nat) (L : List Ev) (hL : L.length ≤ 1000) (w : World) (hr : Rd w w.heap.size A (L.flatMap Ev.cells)) :
    Calls Try.prog 20 #[.slice A L.length c] w fun e w' => ∃ A' c' n', e = .returned (.tuple #[.slice A' n' c', .int .i64 (sortZ L)]) ∧ OwnL w' w.heap.size 25 9 (.slice A' n' c') Ev.cells (sortL L) ∧ Below w.heap.size w w' := by
  obtain ⟨n, hn⟩ : ∃ n, L.length = n := ⟨_, rfl⟩
  have HZ1 : Hid (L.all evOk = false → sortZ L = 1 ∧ sortL L = []) := Lib.hid (fun h => by unfold sortZ sortL; rw [h]; exact ⟨rfl, rfl⟩)
  have HZ2 : Hid (L.all evOk = true → ¬ L.length ≤ 64 → sortZ L = 5 ∧ sortL L = []) := Lib.hid (fun h h' => by unfold sortZ sortL; rw [if_pos h, if_neg h', if_pos h, if_neg h']; exact ⟨rfl, rfl⟩)
  have HZ3 : Hid (L.all evOk = true → L.length ≤ 64 → risingF key0 ((putsE L).map Ev.key) = false → sortZ L = 7 ∧ sortL L = []) := Lib.hid (fun h h' h2 => by unfold sortZ sortL; rw [if_pos h, if_pos h', if_neg (by rw [h2]; decide), if_pos h, if_pos h', if_neg (by rw [h2]; decide)]; exact ⟨rfl, rfl⟩)
  have HZ4 : Hid (L.all evOk = true → L.length ≤ 64 → risingF key0 ((putsE L).map Ev.key) = true → sortZ L = 0 ∧ sortL L = putsE L) := Lib.hid (fun h h' h2 => by unfold sortZ sortL; rw [if_pos h, if_pos h', if_pos h2, if_pos h, if_pos h', if_pos h2]; exact ⟨rfl, rfl⟩)
  rw [hn] at hL ⊢
  have HN := Lib.hid hn
  have HR := Lib.hid hr
  obtain ⟨z, hz⟩ : ∃ z, sortZ L = z := ⟨_, rfl⟩
  rw [hz] at HZ1 HZ2 HZ3 HZ4 ⊢
  clear hr hn hz
  go_enter Try.func20, Try.ntmps20
  go_upto_region 2 with fail
  obtain ⟨W, hW⟩ : ∃ W, W = w.alloc (.cells #[] 25) := ⟨_, rfl⟩
  rw [← hW]
  have HO0 : Hid (OwnL W w.heap.size 25 9 (.slice (some ⟨w.heap.size, 0, none⟩) 0 0) Ev.cells (putsE (L.take 0))) := Lib.hid (by rw [hW]; exact OwnL.lit (f := Ev.cells) [] #[] (Nat.le_refl _) (by simp) Ev.cells_length rfl rfl rfl)
  have HB0 : Hid (Below w.heap.size w W) := Lib.hid (by rw [hW]; exact bAlloc (Below.refl _ _) _)
  clear hW
  go_wp2_with fail
  go_loopw [5] (fun v wr => ∃ k : Nat, k ≤ n ∧ v = .int .i64 k ∧ Hid ((L.take k).all evOk = true) ∧ Hid (Below W.heap.size W wr)) (fun v _ => n - (intOf v).toNat)
  case atStart => exact ⟨0, Nat.zero_le _, rfl, Lib.hid rfl, Lib.hid (Below.refl _ _)⟩
  case round =>
    obtain ⟨k, hk, rfl, HA, HQ⟩ := hrel
    have HB := Lib.hid (HB0.out.trans (HQ.out.mono HB0.out.size))
    have HO := Lib.hid (HO0.out.below HQ.out)
    by_cases hlt : k < n
    · have hkL : k < L.length := by rw [HN.out]; exact hlt
      obtain ⟨b, off, rfl, hbl, x0, x1, x2, x3, x4, x5, x6, x7, x8⟩ := (HR.out.below HB.out (Nat.le_refl _)).ev hkL
      have hblw := Nat.lt_of_lt_of_le hbl HB.out.size
      obtain ⟨x, hx⟩ : ∃ x, L[k] = x := ⟨_, rfl⟩
      have HBAD := Lib.hid (all_bad L k hkL)
      have HOKK := Lib.hid (all_take L k hkL HA.out)
      rw [hx] at x0 x1 x2 x3 x4 x5 x6 x7 x8 HBAD HOKK
      have HRI := Lib.hid (fun W => r11Right_any x W)
      unfold Ev.val at HRI
      clear hx
      cases hok : evOk x
      · obtain ⟨rfl, hl⟩ := HZ1.out (HBAD.out hok)
        have HLL := Lib.hid hl
        rw [hok] at HRI
        clear hok HBAD HOKK hl HZ1 HZ2 HZ3 HZ4
        go_wp2_with (go_at_call 22; refine (HRI.out _).mono ?_; rintro e w1 ⟨rfl, hb1⟩)
        go_ret2
        exact ⟨none, 0, 0, rfl, by rw [HLL.out]; exact OwnL.nil, bTrans HB.out hb1⟩
      · have HNX := Lib.hid (HOKK.out hok)
        rw [hok] at HRI
        clear hok HBAD HOKK
        go_wp2_with (go_at_call 22; refine (HRI.out _).mono ?_; rintro e w1 ⟨rfl, hb1⟩)
        go_roundw
        case rel => exact ⟨k + 1, by omega, by go_num, HNX, Lib.hid (bTrans HQ.out hb1)⟩
        case measure => simp [intOf]; omega
    · obtain rfl : k = n := by omega
      have HAL : Hid (L.all evOk = true) := Lib.hid (by have h := HA.out; rwa [List.take_of_length_le (by rw [HN.out]; exact Nat.le_refl _)] at h)
      clear HO0 HB0
      by_cases h64 : k ≤ 64
      · obtain ⟨V, hV⟩ : ∃ V, wr = V := ⟨_, rfl⟩
        rw [hV] at HB HO HQ ⊢
        clear hV
        go_wp2_with fail
        go_loopw [4, 6] (fun u v wr => ∃ j : Nat, j ≤ k ∧ v = .int .i64 j ∧ ∃ A' c' n', u = .slice A' n' c' ∧ Hid (OwnL wr w.heap.size 25 9 (.slice A' n' c') Ev.cells (putsE (L.take j))) ∧ Hid (Below w.heap.size w wr)) (fun _ v _ => k - (intOf v).toNat)
        case atStart => exact ⟨0, Nat.zero_le _, rfl, _, _, _, rfl, HO, HB⟩
        case round =>
          clear HO HB HQ
          obtain ⟨j, hj, rfl, A', c', n', rfl, HO, HB⟩ := hrel
          have hn' := HO.out.len
          have hpl : (putsE (L.take j)).length ≤ 64 := by rw [(putsE_perm _).length_eq, List.length_take]; omega
          by_cases hlj : j < k
          · have hkL : j < L.length := by rw [HN.out]; exact hlj
            obtain ⟨b, off, rfl, hbl, x0, x1, x2, x3, x4, x5, x6, x7, x8⟩ := (HR.out.below HB.out (Nat.le_refl _)).ev hkL
            have hblw := Nat.lt_of_lt_of_le hbl HB.out.size
            have HSN := Lib.hid (putsE_snoc L j hkL)
            obtain ⟨x, hx⟩ : ∃ x, L[j] = x := ⟨_, rfl⟩
            rw [hx] at x0 x1 x2 x3 x4 x5 x6 x7 x8 HSN
            obtain ⟨M, hM⟩ : ∃ M, putsE (L.take j) = M := ⟨_, rfl⟩
            rw [hM] at HO HSN hn' hpl
            subst hn'
            have HPU := Lib.hid (r11Put_any A' c' M x wr (by omega) HO.out.rd)
            unfold Ev.val at HPU
            clear hx hM
            go_wp2_with (go_at_call 36; refine HPU.out.mono ?_; rintro e w1 ⟨A2, c2, n2, rfl, ho2, hb2⟩)
            have HO2 : Hid (OwnL w1 w.heap.size 25 9 (.slice A2 n2 c2) Ev.cells (putsE (L.take (j + 1)))) := Lib.hid (by rw [HSN.out]; exact ho2.more HB.out.size)
            clear ho2
            go_roundw
            case rel => exact ⟨j + 1, by omega, by go_num, A2, c2, n2, rfl, HO2, Lib.hid (bTrans HB.out hb2)⟩
            case measure => simp [intOf]; omega
          · obtain rfl : j = k := by omega
            rw [List.take_of_length_le (by rw [HN.out]; exact Nat.le_refl _)] at HO hpl hn'
            have HOR := Lib.hid (rordered_any A' c' (putsE L) (by omega) wr HO.out.rd)
            rw [ordered_puts HAL.out (by rw [HN.out]; exact h64)] at HOR
            obtain ⟨M, hM⟩ : ∃ M, putsE L = M := ⟨_, rfl⟩
            rw [hM] at HO hn' hpl HOR HZ3 HZ4
            subst hn'
            cases hri : risingF key0 (M.map Ev.key)
            · obtain ⟨rfl, hl⟩ := HZ3.out HAL.out (by rw [HN.out]; exact h64) hri
              have HLL := Lib.hid hl
              rw [hri] at HOR
              clear hri hl HZ1 HZ2 HZ3 HZ4 hM
              go_wp2_with (go_at_call 17; refine HOR.out.mono ?_; rintro e w1 ⟨rfl, hb1⟩)
              go_ret2
              exact ⟨none, 0, 0, rfl, by rw [HLL.out]; exact OwnL.nil, bTrans HB.out hb1⟩
            · obtain ⟨rfl, hl⟩ := HZ4.out HAL.out (by rw [HN.out]; exact h64) hri
              have HLL := Lib.hid hl
              rw [hri] at HOR
              clear hri hl HZ1 HZ2 HZ3 HZ4 hM
              go_wp2_with (go_at_call 17; refine HOR.out.mono ?_; rintro e w1 ⟨rfl, hb1⟩)
              go_ret2
              exact ⟨_, _, _, rfl, by rw [HLL.out]; exact HO.out.below hb1, bTrans HB.out hb1⟩
      · obtain ⟨rfl, hl⟩ := HZ2.out HAL.out (by rw [HN.out]; exact h64)
        have HLL := Lib.hid hl
        clear hl HZ1 HZ2 HZ3 HZ4
        go_wp2
        go_ret2
        exact ⟨none, 0, 0, rfl, by rw [HLL.out]; exact OwnL.nil, HB.out⟩
end Go.Proofs.Ytdjfpdndaobohaa
