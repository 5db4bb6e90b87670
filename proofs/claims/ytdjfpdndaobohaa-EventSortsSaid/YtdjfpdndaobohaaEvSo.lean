/-
  The walk of EventSorts: any events are put in order, or it is told why not; any two keys have an order.
-/
import Derived.Test.YtdjfpdndaobohaaSort2
import Derived.Test.YtdjfpdndaobohaaSame
import Derived.Test.YtdjfpdndaobohaaAw11
import Derived.Deep.Cut
namespace Go.Proofs.Ytdjfpdndaobohaa
open Go.RowKit
set_option maxRecDepth 100000
set_option linter.unusedSimpArgs false
set_option maxHeartbeats 1000000 in
theorem evsorts_long (A : Option Addr) (c n : Nat) (a b : Key4) (w : World) (h1 : 100 < n) (h2 : n ≤ 9223372036854775807) : Calls Try.prog 6 #[.slice A n c, a.val, b.val] w fun e w' => e = .returned (.bool true) ∧ Below w.heap.size w w' := by
  unfold Key4.val
  have hb0 := bAlloc (bAlloc (Below.refl w.heap.size w) (.cells #[.int .i64 a.frame, .int .i64 a.emitter, .int .i64 a.kind, .int .i64 a.ord] 23)) (.cells #[.int .i64 b.frame, .int .i64 b.emitter, .int .i64 b.kind, .int .i64 b.ord] 23)
  go_enter Try.func6, Try.ntmps6
  go_wp2_with (first | (go_at_call 9; refine (awake_any _).mono ?_; rintro e w2 ⟨rfl, hb2⟩))
  go_ret
  exact ⟨rfl, bTrans hb0 hb2⟩
set_option maxHeartbeats 8000000 in
theorem evsorts_any (A : Option Addr) (c : Nat) (L : List Ev) (a b : Key4) (w : World) (hL : L.length ≤ 100) (hr : Rd w w.heap.size A (L.flatMap Ev.cells)) :
    Calls Try.prog 6 #[.slice A L.length c, a.val, b.val] w fun e w' => e = .returned (.bool true) ∧ Below w.heap.size w w' := by
  have HR := Lib.hid hr
  have HES := Lib.hid (fun V (hV : Below w.heap.size w V) => esort_any A c L (by omega) V ((hr.below hV (Nat.le_refl _)).more hV.size))
  have HRS := Lib.hid (fun V (hV : Below w.heap.size w V) => rsort_any A c L (by omega) V ((hr.below hV (Nat.le_refl _)).more hV.size))
  have HEO := Lib.hid (fun V (hV : Below w.heap.size w V) => ordered_any A c L (by omega) V ((hr.below hV (Nat.le_refl _)).more hV.size))
  have HRO := Lib.hid (fun V (hV : Below w.heap.size w V) => rordered_any A c L (by omega) V ((hr.below hV (Nat.le_refl _)).more hV.size))
  have hsl : (sortL L).length ≤ 100 := by
    unfold sortL
    split
    · split
      · split
        · rw [(putsE_perm L).length_eq]; omega
        · simp
      · simp
    · simp
  obtain ⟨n, hn⟩ : ∃ n, L.length = n := ⟨_, rfl⟩
  obtain ⟨z, hz⟩ : ∃ z, sortZ L = z := ⟨_, rfl⟩
  obtain ⟨M, hM⟩ : ∃ M, sortL L = M := ⟨_, rfl⟩
  obtain ⟨o, ho⟩ : ∃ o, orderedB L = o := ⟨_, rfl⟩
  rw [hn, hz, hM] at HES HRS
  rw [hn, ho] at HEO HRO
  rw [hn] at hL ⊢
  rw [hM] at hsl
  have hcb := cmpK_bd a b
  have HC1 := Lib.hid (fun V => compare_any a b V)
  have HC2 := Lib.hid (fun V => r11Compare_any a b V)
  have HC3 := Lib.hid (fun V => compare_any b a V)
  rw [cmpK_swap a b] at HC3
  obtain ⟨q, hq⟩ : ∃ q, cmpK a b = q := ⟨_, rfl⟩
  rw [hq] at hcb HC1 HC2 HC3
  unfold Key4.val at HC1 HC2 HC3 ⊢
  have HN := Lib.hid hn
  have hzz : (z == z) = true := by simp
  have hoo : (o == o) = true := by simp
  have hqq : (q == q) = true := by simp
  have hqn : (-q == -q) = true := by simp
  clear hr hn hz hM ho hq
  go_enter Try.func6, Try.ntmps6
  go_upto_region 1 with fail
  obtain ⟨W0, hW0⟩ : ∃ W0, W0 = (w.alloc (.cells #[.int .i64 a.frame, .int .i64 a.emitter, .int .i64 a.kind, .int .i64 a.ord] 23)).alloc (.cells #[.int .i64 b.frame, .int .i64 b.emitter, .int .i64 b.kind, .int .i64 b.ord] 23) := ⟨_, rfl⟩
  have HKA : Hid (Blk W0 w.heap.size 23 #[.int .i64 a.frame, .int .i64 a.emitter, .int .i64 a.kind, .int .i64 a.ord]) := Lib.hid (by rw [hW0]; exact (by repeat (first | ((with_reducible refine blk_at ?_); first | rfl | (simp; done)) | (with_reducible refine Blk.alloc ?_ _) | (with_reducible refine Blk.drew ?_))))
  have HKB : Hid (Blk W0 (w.heap.size + 1) 23 #[.int .i64 b.frame, .int .i64 b.emitter, .int .i64 b.kind, .int .i64 b.ord]) := Lib.hid (by rw [hW0]; exact (by repeat (first | ((with_reducible refine blk_at ?_); first | rfl | (simp; done)) | (with_reducible refine Blk.alloc ?_ _) | (with_reducible refine Blk.drew ?_))))
  have HB0 : Hid (Below w.heap.size w W0) := Lib.hid (by rw [hW0]; exact bAlloc (bAlloc (Below.refl _ _) _) _)
  rw [← hW0]
  clear hW0
  have HT : Hid (∀ V, Below W0.heap.size W0 V → Below w.heap.size w V) := Lib.hid (fun V hV => HB0.out.trans (hV.mono HB0.out.size))
  go_upto_region 3 with (first | (go_at_call 9; refine (awake_any _).mono ?_; rintro e w2 ⟨rfl, hb2⟩; have HB2 := Lib.hid hb2; clear hb2))
  go_upto_region 6 with (first | (go_at_call 19; refine (HES.out _ (HT.out _ HB2.out)).mono ?_; rintro e w3 ⟨A3, c3, n3, rfl, ho3, hb3⟩; have HO3 := Lib.hid ho3; have HB3 := Lib.hid (bTrans HB2.out hb3); clear ho3 hb3))
  go_upto_region 7 with (first | (go_at_call 20; refine (HRS.out _ (HT.out _ HB3.out)).mono ?_; rintro e w4 ⟨A4, c4, n4, rfl, ho4, hb4⟩; have HO4 := Lib.hid ho4; have HB34 := Lib.hid hb4; have HB4 := Lib.hid (bTrans HB3.out hb4); clear ho4 hb4))
  have HSM : Hid (∀ V, Below w4.heap.size w4 V → Calls Try.prog 14 #[.slice A3 n3 c3, .slice A4 n4 c4] V fun e w' => e = .returned (.bool true) ∧ Below V.heap.size V w') := Lib.hid (fun V hV => by
    have h3 := HO3.out.len
    have h4 := HO4.out.len
    have ho3 := (HO3.out.below HB34.out).below hV
    have ho4 := HO4.out.below hV
    rw [h3] at ho3 ⊢
    rw [h4] at ho4 ⊢
    refine (same_any A3 A4 c3 c4 M M V (by omega) ho3.rd ho4.rd).mono ?_
    rintro e w' ⟨rfl, hb⟩
    exact ⟨by simp, hb⟩)
  clear HO3 HO4 HB2 HB3 HB34
  go_wp2_with fail
  go_loopw [11] (fun v wr => ∃ k : Nat, k ≤ n ∧ v = .int .i64 k ∧ Hid (Below w4.heap.size w4 wr)) (fun v _ => n - (intOf v).toNat)
  case atStart => exact ⟨0, Nat.zero_le _, rfl, Lib.hid (Below.refl _ _)⟩
  case round =>
    obtain ⟨k, hk, rfl, HQ⟩ := hrel
    have HBR := Lib.hid (bTrans HB4.out HQ.out)
    by_cases hlt : k < n
    · have hkL : k < L.length := by rw [HN.out]; exact hlt
      have HBW := Lib.hid (HT.out _ HBR.out)
      obtain ⟨bk, off, rfl, hbl, hrg⟩ := (HR.out.below HBW.out (Nat.le_refl _)).evr hkL
      have hblw := Nat.lt_of_lt_of_le hbl HBW.out.size
      obtain ⟨x, hx⟩ : ∃ x, L[k] = x := ⟨_, rfl⟩
      rw [hx] at hrg
      have HR1 := Lib.hid (fun V => right_any x V)
      have HR2 := Lib.hid (fun V => r11Right_any x V)
      obtain ⟨p, hp⟩ : ∃ p, evOk x = p := ⟨_, rfl⟩
      rw [hp] at HR1 HR2
      have hpp : (p != p) = false := by simp
      have HRG := Lib.hid hrg
      clear hx hp hrg
      go_wp2_with fail
      refine wp_region_mild (by kernel_rfl) (by kernel_rfl) ?_
      repeat (go_big_quiet_step (fail))
      refine wpQuiet_load_mild rfl 25 (.tmp 36) rfl bk (off + k * 9) rfl x.cells _ hblw HRG.out Try.underlying25 rfl (by kernel_rfl) ?_
      simp only [Act.put, List.setIfInBounds_toArray, List.set_cons_zero, List.set_cons_succ]
      repeat (go_big_quiet_step ((go_at_call 21; exact mild_of (HR1.out _))))
      refine wpQuiet_load_mild rfl 25 (.tmp 41) rfl bk (off + k * 9) rfl x.cells _ hblw HRG.out Try.underlying25 rfl (by kernel_rfl) ?_
      simp only [Act.put, List.setIfInBounds_toArray, List.set_cons_zero, List.set_cons_succ]
      repeat (go_big_quiet_step ((go_at_call 22; exact mild_of (HR2.out _))))
      refine wpQuiet_nil ?_
      intro w5 hw'
      obtain ⟨⟨wq, k5⟩, hw''⟩ := hw'
      subst hw''
      go_wp2
      go_roundw
      case rel => exact ⟨k + 1, by omega, by go_num, Lib.hid (bTrans HQ.out k5)⟩
      case measure => simp [intOf]; omega
    · skip
      obtain ⟨pa, pb, pc, pd⟩ := Blk.key (HKA.out.on HBR.out)
      obtain ⟨pe, pf, pg, ph⟩ := Blk.key (HKB.out.on HBR.out)
      have pi := (HKA.out.on HBR.out).lt
      have pj := (HKB.out.on HBR.out).lt
      go_upto_region 13 with (first | (go_at_call 23; refine (HC1.out _).mono ?_; rintro e w5 ⟨rfl, hb5⟩; have HB5 := Lib.hid (bTrans HBR.out hb5); have HQ5 := Lib.hid (bTrans HQ.out hb5); clear hb5))
      clear pa pb pc pd pe pf pg ph pi pj
      go_wp2_with (first
        | (go_at_call 14; refine (HSM.out _ HQ5.out).mono ?_; rintro e w6 ⟨rfl, hb6⟩; have HB6 := Lib.hid (bTrans HB5.out hb6); clear hb6)
        | (go_at_call 15; refine (HEO.out _ (HT.out _ HB6.out)).mono ?_; rintro e w7 ⟨rfl, hb7⟩; have HB7 := Lib.hid (bTrans HB6.out hb7); clear hb7)
        | (go_at_call 17; refine (HRO.out _ (HT.out _ HB7.out)).mono ?_; rintro e w8 ⟨rfl, hb8⟩; have HB8 := Lib.hid (bTrans HB7.out hb8); clear hb8; obtain ⟨ra, rb, rc, rd⟩ := Blk.key (HKA.out.on HB8.out); obtain ⟨re, rf, rg, rh⟩ := Blk.key (HKB.out.on HB8.out); have ri := (HKA.out.on HB8.out).lt; have rj := (HKB.out.on HB8.out).lt)
        | (go_at_call 24; refine (HC2.out _).mono ?_; rintro e w9 ⟨rfl, hb9⟩; have HB9 := Lib.hid (bTrans HB8.out hb9); clear hb9; clear ra rb rc rd re rf rg rh ri rj; obtain ⟨sa, sb, sc, sd⟩ := Blk.key (HKA.out.on HB9.out); obtain ⟨se, sf, sg, sh⟩ := Blk.key (HKB.out.on HB9.out); have si := (HKA.out.on HB9.out).lt; have sj := (HKB.out.on HB9.out).lt)
        | (go_at_call 23; refine (HC3.out _).mono ?_; rintro e w10 ⟨rfl, hb10⟩; have HB10 := Lib.hid (bTrans HB9.out hb10); clear hb10))
      go_ret
      exact ⟨rfl, HT.out _ HB10.out⟩
end Go.Proofs.Ytdjfpdndaobohaa
