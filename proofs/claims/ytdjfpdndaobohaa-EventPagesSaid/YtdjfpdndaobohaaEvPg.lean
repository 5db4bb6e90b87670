/-
  The walk of EventPages: whatever is added to a page of any frame.
-/
import Derived.Test.YtdjfpdndaobohaaEvPgS
import Derived.Test.YtdjfpdndaobohaaSame
import Derived.Test.YtdjfpdndaobohaaOrd
import Derived.Test.YtdjfpdndaobohaaClone
import Derived.Test.YtdjfpdndaobohaaAw11
import Derived.Deep.Cut
namespace Go.Proofs.Ytdjfpdndaobohaa
open Go.RowKit
set_option maxRecDepth 100000
set_option linter.unusedSimpArgs false
theorem open_bad (F : Int) (w : World) (h : F < 0 ∨ 1073741824 < F) :
    Calls Try.prog 12 #[.int .i64 F] w fun e w' => e = .returned (.tuple #[.pointer none, .int .i64 1]) ∧ Below w.heap.size w w' := by
  have HB := Lib.hid (show inB F 0 1073741824 = false by simp [inB]; omega)
  go_enter Try.func12, Try.ntmps12
  go_wp2_with fail
  refine (within_any _ _ _ _).mono ?_
  rintro e w1 ⟨rfl, rfl⟩
  rw [HB.out]
  go_wp2
  go_ret2
  exact ⟨rfl, (by repeat (first | exact Below.refl _ _ | (with_reducible assumption) | apply bAlloc | apply below_drewN | apply Below.drew))⟩
theorem key_kinds : kindsOf Try.prog 100 23 = some [.i64, .i64, .i64, .i64] := by kernel_rfl
theorem key_neq (a b c d : Int) (w : World) : (binOp .neq 23 (.agg #[.int .i64 a, .int .i64 b, .int .i64 c, .int .i64 d]) (.agg #[.int .i64 a, .int .i64 b, .int .i64 c, .int .i64 d])).run Try.prog w = .ok (.bool false) w := by
  have := neq_ints key_kinds (fun cs => by unfold valOf; rw [Try.underlying23]) [a, b, c, d] [a, b, c, d] rfl rfl (xs := [.int .i64 a, .int .i64 b, .int .i64 c, .int .i64 d]) (ys := [.int .i64 a, .int .i64 b, .int .i64 c, .int .i64 d]) rfl rfl w
  simpa using this
section
variable {F : Int} {A : Option Addr} {c : Nat} {l : List Ev} {w : World}
set_option maxHeartbeats 2000000 in
theorem pages_no (h : F < 0 ∨ (0 ≤ F ∧ 1073741824 < F)) : Calls Try.prog 4 #[.int .i64 F, .slice A l.length c] w fun e w' => e = .returned (.bool true) ∧ Below w.heap.size w w' := by
  have HO := Lib.hid (fun V => open_bad F V (by omega))
  have hq1 : ((1 : Int) == 1) = true := rfl
  rcases h with h | ⟨h, h'⟩
  all_goals
    go_enter Try.func4, Try.ntmps4
    go_upto_region 3 with (first | (go_at_call 9; refine (awake_any _).mono ?_; rintro e w2 ⟨rfl, hb2⟩))
    go_wp2_with (first | (go_at_call 12; refine (HO.out _).mono ?_; rintro e w3 ⟨rfl, hb3⟩))
    go_ret
    exact ⟨rfl, bTrans hb2 hb3⟩
set_option maxHeartbeats 8000000 in
theorem pages_yes (hF : 0 ≤ F ∧ F ≤ 1073741824) (hr : Rd w w.heap.size A (l.flatMap Ev.cells)) : Calls Try.prog 4 #[.int .i64 F, .slice A l.length c] w fun e w' => e = .returned (.bool true) ∧ Below w.heap.size w w' := by
  have HR := Lib.hid hr
  have HOP := Lib.hid (fun V => open_yes F V hF.1 hF.2)
  have HPG := Lib.hid (pgX_ok F l)
  have hq0 : ((0 : Int) != 0) = false := rfl
  clear hr
  go_enter Try.func4, Try.ntmps4
  go_upto_region 3 with (first | (go_at_call 9; refine (awake_any _).mono ?_; rintro e w2 ⟨rfl, hb2⟩))
  go_upto_region 7 with (first | (go_at_call 12; refine (HOP.out _).mono ?_; rintro e w3 ⟨rfl, hp3, hb3⟩; have HP3 := Lib.hid hp3; have HB3 := Lib.hid (bTrans hb2 hb3); clear hp3 hb3))
  obtain ⟨gp, hgp⟩ : ∃ gp, w2.heap.size = gp := ⟨_, rfl⟩
  rw [hgp] at HP3 ⊢
  have hwg : w.heap.size ≤ gp := by rw [← hgp]; exact hb2.size
  obtain ⟨w4, hw4⟩ : ∃ w4, w4 = w3.alloc (.cells #[] 25) := ⟨_, rfl⟩
  have hO4 : OwnL w4 w.heap.size 25 9 (.slice (some ⟨w3.heap.size, 0, none⟩) 0 0) Ev.cells (pgX F (l.take 0)) := by
    rw [hw4]
    exact OwnL.lit (f := Ev.cells) [] #[] HB3.out.size (by simp) Ev.cells_length rfl rfl rfl
  have hP4 : Blk w4 gp 60 #[.int .i64 F, .slice none 0 0] := by rw [hw4]; exact HP3.out.alloc _
  have hb4 : Below w.heap.size w w4 := by rw [hw4]; exact bAlloc HB3.out _
  rw [← hw4]
  have HO4 := Lib.hid hO4
  have HP4 := Lib.hid hP4
  clear hw4 hO4 hP4 HP3 HB3 hb2 hgp HOP
  go_wp2_with fail
  go_loopw [7, 8] (fun ms v wr => ∃ (i : Nat) (A1 B1 : Option Addr) (n c1 n' d : Nat), i ≤ l.length ∧ i ≤ 100 ∧ v = .int .i64 i ∧ ms = .slice B1 n' d ∧ Hid (Blk wr gp 60 #[.int .i64 F, .slice A1 n c1]) ∧ Hid (OwnL wr w.heap.size 25 9 (.slice A1 n c1) Ev.cells (pgX F (l.take i))) ∧ (n ≤ c1 ∧ c1 ≤ 9223372036854775807) ∧
    Hid (OwnL wr w.heap.size 25 9 (.slice B1 n' d) Ev.cells (pgX F (l.take i))) ∧ Hid (∀ g, (Value.slice A1 n c1).ownBlock = some g → (Value.slice B1 n' d).ownBlock ≠ some g) ∧ Below w.heap.size w wr) (fun _ v _ => l.length - (intOf v).toNat)
  case atStart => exact ⟨0, none, _, 0, 0, _, _, Nat.zero_le _, by omega, rfl, rfl, HP4, Lib.hid OwnL.nil, ⟨by omega, by omega⟩, HO4, Lib.hid (fun g h => by simp [Value.ownBlock] at h), hb4⟩
  case round =>
  obtain ⟨i, A1, B1, n, c1, n', d, hi, hi100, rfl, rfl, HP, HA, hcc, HM, HU, hb⟩ := hrel
  clear HO4 HP4 hb4
  obtain ⟨hpok, hp64⟩ := HPG.out i hi
  have hA1 := HA.out.len
  have hM1 := HM.out.len
  by_cases hlt : i < l.length
  · by_cases h100 : i < 100
    · obtain ⟨b, off, rfl, hB, h0, h1, h2, h3, h4, h5, h6, h7, h8⟩ := (HR.out.below hb (Nat.le_refl _)).ev hlt
      obtain ⟨x, hx⟩ : ∃ x, l[i] = x := ⟨_, rfl⟩
      have hstep := pgX_take F l i hlt
      rw [hx] at h0 h1 h2 h3 h4 h5 h6 h7 h8 hstep
      obtain ⟨L, hL⟩ : ∃ L, pgX F (l.take i) = L := ⟨_, rfl⟩
      rw [hL] at HA HM hpok hp64 hA1 hM1 hstep
      have HST := Lib.hid hstep
      have HXE := Lib.hid hx
      subst hA1 hM1
      have hadd := fun (V : World) (hV : wr = V) => add_step gp F A1 L.length c1 L x w.heap.size V (by rw [← hV]; exact hb.size) hwg (by rw [← hV]; exact HP.out) (by rw [← hV]; exact HA.out) hp64 hcc.1 hcc.2 hpok
      have HADD := Lib.hid (hadd wr rfl)
      unfold Ev.val at HADD
      obtain ⟨⟨kf, ke, kk, ko⟩, err, hke⟩ : ∃ key err, ansX F L x = (key, err) := ⟨_, _, rfl⟩
      rw [hke] at HADD
      simp only [Key4.val] at HADD
      have HKE := Lib.hid hke
      have HPO := Lib.hid hpok
      clear hx hstep hL hadd hke hpok
      go_upto_region 11 with (first | (go_at_call 10; refine HADD.out.mono ?_; rintro e w5 ⟨A5, n5, c5, rfl, hp5, ha5, hc5, hb5, hfar, hnew⟩; have HP5 := Lib.hid hp5; have HA5 := Lib.hid ha5; have HF5 := Lib.hid hfar; have HN5 := Lib.hid hnew; have HB5 := Lib.hid hb5; clear hp5 ha5 hfar hnew hb5))
      obtain ⟨w6, hw6⟩ : ∃ w6, w6 = w5.alloc (.cells #[.int .i64 kf, .int .i64 ke, .int .i64 kk, .int .i64 ko] 23) := ⟨_, rfl⟩
      have hp6 : Blk w6 gp 60 #[.int .i64 F, .slice A5 n5 c5] := by rw [hw6]; exact HP5.out.alloc _
      have ha6 : OwnL w6 w.heap.size 25 9 (.slice A5 n5 c5) Ev.cells (addX F L x) := by rw [hw6]; exact HA5.out.alloc _
      have hm6 : OwnL w6 w.heap.size 25 9 (.slice B1 L.length d) Ev.cells L := by
        rw [hw6]
        exact (HM.out.of_heap fun g hg => HF5.out g (HM.out.block_lt g hg) (fun e => by rw [e] at hg; exact (HP.out.apart HM.out (by decide)) hg) (fun e => HU.out g e hg)).alloc _
      have hb6 : Below w.heap.size w w6 := by rw [hw6]; exact bAlloc (hb.trans (HB5.out)) _
      have hk6 : Blk w6 w5.heap.size 23 #[.int .i64 kf, .int .i64 ke, .int .i64 kk, .int .i64 ko] := by rw [hw6]; exact Blk.new _ _ _
      have hwr6 : wr.heap.size ≤ w5.heap.size := HB5.out.size
      have h56 : w5.heap.size < w6.heap.size := hk6.lt
      rw [← hw6]
      obtain ⟨b', off', hA', hB', g0, g1, g2, g3, g4, g5, g6, g7, g8⟩ := (HR.out.below hb6 (Nat.le_refl _)).ev hlt
      simp only [Option.some.injEq, Addr.mk.injEq, and_true] at hA'
      obtain ⟨rfl, rfl⟩ := hA'
      rw [HXE.out] at g0 g1 g2 g3 g4 g5 g6 g7 g8
      have hradd := radd_step B1 d F L x w.heap.size w6 hb6.size hp64 HPO.out hm6
      rw [HKE.out] at hradd
      simp only [Key4.val] at hradd
      unfold Ev.val at hradd
      have HRA := Lib.hid hradd
      have HP6 := Lib.hid hp6
      have HA6 := Lib.hid ha6
      have HM6 := Lib.hid hm6
      have HK6 := Lib.hid hk6
      clear hw6 hp6 ha6 hm6 hk6 hradd HP5 HA5 HB5 HF5 HP HA hb h0 h1 h2 h3 h4 h5 h6 h7 h8
      go_upto_region 13 with (first | (go_at_call 13; refine HRA.out.mono ?_; rintro e w7 ⟨B7, n7, d7, rfl, hm7, hb7, hnew7⟩; have HM7 := Lib.hid hm7; have HB7 := Lib.hid hb7; have HN7 := Lib.hid hnew7; clear hm7 hb7 hnew7))
      obtain ⟨w8, hw8⟩ : ∃ w8, w8 = w7.alloc (.cells #[.int .i64 kf, .int .i64 ke, .int .i64 kk, .int .i64 ko] 23) := ⟨_, rfl⟩
      have hb68 : Below w6.heap.size w6 w8 := by rw [hw8]; exact bAlloc HB7.out _
      have hm8 : OwnL w8 w.heap.size 25 9 (.slice B7 n7 d7) Ev.cells (addX F L x) := by rw [hw8]; exact HM7.out.alloc _
      have hk8 : Blk w8 w7.heap.size 23 #[.int .i64 kf, .int .i64 ke, .int .i64 kk, .int .i64 ko] := by rw [hw8]; exact Blk.new _ _ _
      rw [← hw8]
      have hk68 := HK6.out.on hb68
      have hunl : ∀ g, (Value.slice A5 n5 c5).ownBlock = some g → (Value.slice B7 n7 d7).ownBlock ≠ some g := fun g hg hg' => by
        rcases HN7.out g hg' with h | h
        · rcases HN5.out g hg with h' | h'
          · exact HU.out g h' h
          · have := HM.out.block_lt g h
            omega
        · have := HA6.out.block_lt g hg
          omega
      have HFIN : Hid (Blk w8 gp 60 #[.int .i64 F, .slice A5 n5 c5] ∧ OwnL w8 w.heap.size 25 9 (.slice A5 n5 c5) Ev.cells (pgX F (l.take (i + 1))) ∧ OwnL w8 w.heap.size 25 9 (.slice B7 n7 d7) Ev.cells (pgX F (l.take (i + 1))) ∧ Below w.heap.size w w8 ∧ ∀ g, (Value.slice A5 n5 c5).ownBlock = some g → (Value.slice B7 n7 d7).ownBlock ≠ some g) :=
        Lib.hid ⟨HP6.out.on hb68, by rw [HST.out]; exact HA6.out.below hb68, by rw [HST.out]; exact hm8, bTrans hb6 hb68, hunl⟩
      have hqe : (err != err) = false := by simp
      have hl5 := hk68.lt
      have hl7 := hk8.lt
      have kaa := (hk68).cell 0; have kab := (hk68).cell 1; have kac := (hk68).cell 2; have kad := (hk68).cell 3; have kae := (hk68).frozen 0; have kaf := (hk68).frozen 1; have kag := (hk68).frozen 2; have kah := (hk68).frozen 3; have kal := (hk68).lt; simp only [List.getElem?_toArray, List.getElem?_cons_zero, List.getElem?_cons_succ] at kaa kab kac kad
      have kba := (hk8).cell 0; have kbb := (hk8).cell 1; have kbc := (hk8).cell 2; have kbd := (hk8).cell 3; have kbe := (hk8).frozen 0; have kbf := (hk8).frozen 1; have kbg := (hk8).frozen 2; have kbh := (hk8).frozen 3; have kbl := (hk8).lt; simp only [List.getElem?_toArray, List.getElem?_cons_zero, List.getElem?_cons_succ] at kba kbb kbc kbd
      clear hw8 hb68 hm8 hk8 hk68 hunl HM7 HB7 HN7 HN5 HP6 HA6 HM6 HK6 HM HU HST HKE HPO HXE HRA hb6 g0 g1 g2 g3 g4 g5 g6 g7 g8 hwr6 h56 hp64
      go_wp2_with (first
        | (refine wpList_runs (.bool false) rfl (runs_neq rfl rfl rfl (by kernel_rfl) (key_neq kf ke kk ko) _) ?_))
      go_roundw
      case rel =>
        obtain ⟨q1, q2, q3, q4, q5⟩ := HFIN.out
        exact ⟨i + 1, A5, B7, n5, c5, n7, d7, by omega, by omega, by go_num, rfl, Lib.hid q1, Lib.hid q2, hc5, Lib.hid q3, Lib.hid q5, q4⟩
      case measure => simp [intOf]; omega
    · skip
      obtain ⟨L, hL⟩ : ∃ L, pgX F (l.take i) = L := ⟨_, rfl⟩
      rw [hL] at HA HM hpok hp64 hA1 hM1
      subst hA1 hM1
      have HLI := Lib.hid (fun (V : World) (hV : Below wr.heap.size wr V) => list_any gp F A1 L.length c1 L w.heap.size V (HP.out.on hV) (HA.out.below hV) (by omega))
      have HSA := Lib.hid (fun (V : World) (A9 : Option Addr) (c9 : Nat) (h9 : Rd V V.heap.size A9 (L.flatMap Ev.cells)) (hV : Below wr.heap.size wr V) => (same_any A9 B1 c9 d L L V (by omega) h9 ((HM.out.below hV).rd)).mono fun e w' ⟨he, hb⟩ => (⟨by rw [he]; simp, hb⟩ : e = Ending.returned (.bool true) ∧ Below V.heap.size V w'))
      have HOR := Lib.hid (fun (V : World) (A9 : Option Addr) (c9 : Nat) (h9 : Rd V V.heap.size A9 (L.flatMap Ev.cells)) => (ordered_any A9 c9 L (by omega) V h9).mono fun e w' ⟨he, hb⟩ => (⟨by rw [he, ordered_page hpok hp64], hb⟩ : e = Ending.returned (.bool true) ∧ Below V.heap.size V w'))
      clear hpok hL
      go_wp2_with (first
        | (go_at_call 11; refine (HLI.out _ (Below.refl _ _)).mono ?_; rintro e w9 ⟨A9, c9, rfl, ho9, hb9⟩)
        | (go_at_call 14; refine (HSA.out _ A9 c9 ho9.rd hb9).mono ?_; rintro e w10 ⟨rfl, hb10⟩)
        | (go_at_call 11; refine (HLI.out _ (bTrans hb9 hb10)).mono ?_; rintro e w11 ⟨A11, c11, rfl, ho11, hb11⟩)
        | (go_at_call 15; refine (HOR.out _ A11 c11 ho11.rd).mono ?_; rintro e w12 ⟨rfl, hb12⟩))
      go_ret
      exact ⟨rfl, bTrans hb (bTrans hb9 (bTrans hb10 (bTrans hb11 hb12)))⟩
  · skip
    obtain ⟨L, hL⟩ : ∃ L, pgX F (l.take i) = L := ⟨_, rfl⟩
    rw [hL] at HA HM hpok hp64 hA1 hM1
    subst hA1 hM1
    have HLI := Lib.hid (fun (V : World) (hV : Below wr.heap.size wr V) => list_any gp F A1 L.length c1 L w.heap.size V (HP.out.on hV) (HA.out.below hV) (by omega))
    have HSA := Lib.hid (fun (V : World) (A9 : Option Addr) (c9 : Nat) (h9 : Rd V V.heap.size A9 (L.flatMap Ev.cells)) (hV : Below wr.heap.size wr V) => (same_any A9 B1 c9 d L L V (by omega) h9 ((HM.out.below hV).rd)).mono fun e w' ⟨he, hb⟩ => (⟨by rw [he]; simp, hb⟩ : e = Ending.returned (.bool true) ∧ Below V.heap.size V w'))
    have HOR := Lib.hid (fun (V : World) (A9 : Option Addr) (c9 : Nat) (h9 : Rd V V.heap.size A9 (L.flatMap Ev.cells)) => (ordered_any A9 c9 L (by omega) V h9).mono fun e w' ⟨he, hb⟩ => (⟨by rw [he, ordered_page hpok hp64], hb⟩ : e = Ending.returned (.bool true) ∧ Below V.heap.size V w'))
    clear hpok hL
    go_wp2_with (first
      | (go_at_call 11; refine (HLI.out _ (Below.refl _ _)).mono ?_; rintro e w9 ⟨A9, c9, rfl, ho9, hb9⟩)
      | (go_at_call 14; refine (HSA.out _ A9 c9 ho9.rd hb9).mono ?_; rintro e w10 ⟨rfl, hb10⟩)
      | (go_at_call 11; refine (HLI.out _ (bTrans hb9 hb10)).mono ?_; rintro e w11 ⟨A11, c11, rfl, ho11, hb11⟩)
      | (go_at_call 15; refine (HOR.out _ A11 c11 ho11.rd).mono ?_; rintro e w12 ⟨rfl, hb12⟩))
    go_ret
    exact ⟨rfl, bTrans hb (bTrans hb9 (bTrans hb10 (bTrans hb11 hb12)))⟩
end
end Go.Proofs.Ytdjfpdndaobohaa
