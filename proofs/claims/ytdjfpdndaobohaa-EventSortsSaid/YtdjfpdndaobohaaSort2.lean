/-
  The program's Sort.
-/
import Derived.Test.YtdjfpdndaobohaaSortE
import Derived.Test.YtdjfpdndaobohaaSortR
import Derived.Test.YtdjfpdndaobohaaClone
namespace Go.Proofs.Ytdjfpdndaobohaa
open Go.RowKit
set_option maxRecDepth 100000
set_option linter.unusedSimpArgs false
set_option maxHeartbeats 4000000 in
theorem esort_any (A : Option Addr) (c : Nat) (L : List Ev) (hL : L.length ≤ 1000) (w : World) (hr : Rd w w.heap.size A (L.flatMap Ev.cells)) :
    Calls Try.prog 19 #[.slice A L.length c] w fun e w' => ∃ A' c' n', e = .returned (.tuple #[.slice A' n' c', .int .i64 (sortZ L)]) ∧ OwnL w' w.heap.size 25 9 (.slice A' n' c') Ev.cells (sortL L) ∧ Below w.heap.size w w' := by
  have HZ1 : Hid (L.all evOk = false → sortZ L = 1 ∧ sortL L = []) := Lib.hid (fun h => by unfold sortZ sortL; rw [h]; exact ⟨rfl, rfl⟩)
  have HZ2 : Hid (L.all evOk = true → ¬ L.length ≤ 64 → sortZ L = 5 ∧ sortL L = []) := Lib.hid (fun h h' => by unfold sortZ sortL; rw [if_pos h, if_neg h', if_pos h, if_neg h']; exact ⟨rfl, rfl⟩)
  have HZ3 : Hid (L.all evOk = true → L.length ≤ 64 → risingF key0 ((putsE L).map Ev.key) = false → sortZ L = 7 ∧ sortL L = []) := Lib.hid (fun h h' h2 => by unfold sortZ sortL; rw [if_pos h, if_pos h', if_neg (by rw [h2]; decide), if_pos h, if_pos h', if_neg (by rw [h2]; decide)]; exact ⟨rfl, rfl⟩)
  have HZ4 : Hid (L.all evOk = true → L.length ≤ 64 → risingF key0 ((putsE L).map Ev.key) = true → sortZ L = 0 ∧ sortL L = putsE L) := Lib.hid (fun h h' h2 => by unfold sortZ sortL; rw [if_pos h, if_pos h', if_pos h2, if_pos h, if_pos h', if_pos h2]; exact ⟨rfl, rfl⟩)
  have HC := Lib.hid (clone_any A c L w (by omega) hr)
  obtain ⟨n, hn⟩ : ∃ n, L.length = n := ⟨_, rfl⟩
  obtain ⟨z, hz⟩ : ∃ z, sortZ L = z := ⟨_, rfl⟩
  rw [hz] at HZ1 HZ2 HZ3 HZ4
  rw [hn] at hL HC HZ2 HZ3 HZ4
  rw [hn, hz]
  have HN := Lib.hid hn
  clear hr hn hz
  go_enter Try.func19, Try.ntmps19
  go_upto_region 2 with (first | (go_at_call 34; refine HC.out.mono ?_; rintro e w1 ⟨A1, c1, rfl, ho1, hb1⟩; have HO1 := Lib.hid ho1; have HB1 := Lib.hid hb1; clear ho1 hb1))
  have HSO := Lib.hid (sort_any w.heap.size A1 n c1 L w1 (by rw [HN.out]; exact hL) HO1.out)
  go_upto_region 3 with (first | (go_at_call 45; refine HSO.out.mono ?_; rintro e w2 ⟨rfl, M, hp, hsw, ho2, hb2⟩; have HO2 := Lib.hid ho2; have HB2 := Lib.hid (HB1.out.trans hb2); have HP := Lib.hid hp; have HSW := Lib.hid hsw; clear ho2 hb2 hp hsw))
  have hml : M.length = n := by rw [HP.out.length_eq]; exact HN.out
  have HCF := Lib.hid (cfE_any A1 c1 M w2 (by omega) HO2.out.rd)
  rw [all_perm HP.out] at HCF
  have HRI : Hid (∀ W, Below w2.heap.size w2 W → Calls Try.prog 39 #[.func (.func 58) #[] #[.pointer (some ⟨W.heap.size, 0, none⟩)]] (W.alloc (.cells #[.slice A1 M.length c1] 31)) fun e w' => e = .returned (.bool (risingF key0 (M.map Ev.key))) ∧ Below W.heap.size W w') := Lib.hid (fun W hW => by
    have hb := bAlloc (Below.refl W.heap.size W) (.cells #[.slice A1 M.length c1] 31)
    have hw := bAlloc hW (.cells #[.slice A1 M.length c1] 31)
    refine (rising_any W.heap.size A1 c1 M (by omega) _ (by simp [go_sem]) (by simp) ((HO2.out.rd.below hw (Nat.le_refl _)).more hw.size)).mono ?_
    rintro e w' ⟨rfl, h⟩
    exact ⟨rfl, bTrans hb h⟩)
  rw [hml] at HCF HRI
  have HNL : Hid (OwnL w2 w.heap.size 25 9 (.slice none 0 0) Ev.cells ([] : List Ev)) := Lib.hid OwnL.nil
  clear HSO HO1 HB1 HC
  cases hall : L.all evOk
  · obtain ⟨rfl, hl⟩ := HZ1.out hall
    have HLL := Lib.hid hl
    rw [hall] at HCF
    clear hall hl HZ1 HZ2 HZ3 HZ4 hml
    go_wp2_with (first | (go_at_call 37; refine HCF.out.mono ?_; rintro e w3 ⟨rfl, hb3⟩))
    go_ret2
    exact ⟨none, 0, 0, rfl, by rw [HLL.out]; exact OwnL.nil, bTrans HB2.out hb3⟩
  · rw [hall] at HCF
    by_cases h64 : n ≤ 64
    · have hok : ∀ e ∈ L, evOk e = true := List.all_eq_true.1 hall
      have hrp := rising_perm (fun e he => hok e ((putsE_perm L).mem_iff.1 he)) (HP.out.trans (putsE_perm L).symm) HSW.out (putsE_sorted L)
      rw [hrp] at HRI
      cases hri : risingF key0 ((putsE L).map Ev.key)
      · obtain ⟨rfl, hl⟩ := HZ3.out hall h64 hri
        have HLL := Lib.hid hl
        rw [hri] at HRI
        clear hall hl HZ1 HZ2 HZ3 HZ4 hml hri hrp hok
        go_wp2_with (first
          | (go_at_call 37; refine HCF.out.mono ?_; rintro e w3 ⟨rfl, hb3⟩)
          | (go_at_call 40; refine (keys_any _ _ _ _).mono ?_; rintro e w4 ⟨rfl, rfl⟩)
          | (go_at_call 39; refine (HRI.out _ hb3).mono ?_; rintro e w5 ⟨rfl, hb5⟩))
        go_ret2
        exact ⟨none, 0, 0, rfl, by rw [HLL.out]; exact OwnL.nil, bTrans HB2.out (bTrans hb3 hb5)⟩
      · obtain ⟨rfl, hl⟩ := HZ4.out hall h64 hri
        have hone : M = putsE L := sorts_one (HP.out.trans (putsE_perm L).symm) HSW.out (putsE_sorted L) ((rising_iff (fun e he => hok e (HP.out.mem_iff.1 he))).1 (by rw [hrp]; exact hri))
        have HFIN : Hid (OwnL w2 w.heap.size 25 9 (.slice A1 n c1) Ev.cells (sortL L)) := Lib.hid (by rw [hl, ← hone]; exact HO2.out)
        rw [hri] at HRI
        clear hall hl HZ1 HZ2 HZ3 HZ4 hml hri hrp hok hone
        go_wp2_with (first
          | (go_at_call 37; refine HCF.out.mono ?_; rintro e w3 ⟨rfl, hb3⟩)
          | (go_at_call 40; refine (keys_any _ _ _ _).mono ?_; rintro e w4 ⟨rfl, rfl⟩)
          | (go_at_call 39; refine (HRI.out _ hb3).mono ?_; rintro e w5 ⟨rfl, hb5⟩))
        go_ret2
        exact ⟨A1, c1, n, rfl, HFIN.out.below (bTrans hb3 hb5), bTrans HB2.out (bTrans hb3 hb5)⟩
    · obtain ⟨rfl, hl⟩ := HZ2.out hall h64
      have HLL := Lib.hid hl
      clear hall hl HZ1 HZ2 HZ3 HZ4 hml
      go_wp2_with (first | (go_at_call 37; refine HCF.out.mono ?_; rintro e w3 ⟨rfl, hb3⟩))
      go_ret2
      exact ⟨none, 0, 0, rfl, by rw [HLL.out]; exact OwnL.nil, bTrans HB2.out hb3⟩
end Go.Proofs.Ytdjfpdndaobohaa
