/-
  The walk of the reel's Cuts.
-/
import Derived.Test.YtaegekfdbhmcaaaDoorReelCut
namespace Go.Proofs.YtaegekfdbhmcaaaDoor
open Go.RowKit

def argsOk (l : List Ev) (fr ld tr : Int) : Bool := frameOk fr && frameOk ld && frameOk tr && evsOk fr 0 l
theorem frameOk_iff (n : Int) : frameOk n = true ↔ 0 ≤ n ∧ n ≤ 1073741824 := by simp [frameOk]

set_option maxHeartbeats 400000 in
theorem Cuts_no (A : Option Addr) (c : Nat) (l : List Ev) (fr ld tr : Int) (w : World) (hn : l.length ≤ 1000) (hr : Rd w w.heap.size A (l.flatMap Ev.cells)) (hno : argsOk l fr ld tr = false) :
    Calls Tryd.prog 15 #[.slice A l.length c, .int .i64 fr, .int .i64 ld, .int .i64 tr] w fun e w' => e = .returned (.tuple #[.slice none 0 0, .int .i64 1]) ∧ Below w.heap.size w w' := by
  have HR := Lib.hid hr
  clear hr
  by_cases h1 : frameOk fr = true
  · by_cases h2 : frameOk ld = true
    · by_cases h3 : frameOk tr = true
      · have h4 : evsOk fr 0 l = false := by simpa [argsOk, h1, h2, h3] using hno
        have H1 := Lib.hid h1
        have H2 := Lib.hid h2
        have H3 := Lib.hid h3
        have H4 := Lib.hid h4
        clear h1 h2 h3 h4 hno
        go_enter Tryd.func15, Tryd.ntmps15
        go_wp2_with fail
        refine (frame_any _ _).mono ?_
        rintro e w' ⟨rfl, rfl⟩
        rw [H1.out]
        go_wp2_with fail
        refine (frame_any _ _).mono ?_
        rintro e w' ⟨rfl, rfl⟩
        rw [H2.out]
        go_wp2_with fail
        refine (frame_any _ _).mono ?_
        rintro e w' ⟨rfl, rfl⟩
        rw [H3.out]
        go_wp2_with fail
        refine (events_any _ _ _ _ _ (by omega) HR.out).mono ?_
        rintro e w' ⟨rfl, hb⟩
        rw [H4.out]
        go_wp2
        go_ret2
        exact ⟨rfl, hb⟩
      · have H1 := Lib.hid h1
        have H2 := Lib.hid h2
        have H3 := Lib.hid (Bool.eq_false_iff.2 h3)
        clear h1 h2 h3 hno
        go_enter Tryd.func15, Tryd.ntmps15
        go_wp2_with fail
        refine (frame_any _ _).mono ?_
        rintro e w' ⟨rfl, rfl⟩
        rw [H1.out]
        go_wp2_with fail
        refine (frame_any _ _).mono ?_
        rintro e w' ⟨rfl, rfl⟩
        rw [H2.out]
        go_wp2_with fail
        refine (frame_any _ _).mono ?_
        rintro e w' ⟨rfl, rfl⟩
        rw [H3.out]
        go_wp2
        go_ret2
        exact ⟨rfl, Below.refl _ _⟩
    · have H1 := Lib.hid h1
      have H2 := Lib.hid (Bool.eq_false_iff.2 h2)
      clear h1 h2 hno
      go_enter Tryd.func15, Tryd.ntmps15
      go_wp2_with fail
      refine (frame_any _ _).mono ?_
      rintro e w' ⟨rfl, rfl⟩
      rw [H1.out]
      go_wp2_with fail
      refine (frame_any _ _).mono ?_
      rintro e w' ⟨rfl, rfl⟩
      rw [H2.out]
      go_wp2
      go_ret2
      exact ⟨rfl, Below.refl _ _⟩
  · have H1 := Lib.hid (Bool.eq_false_iff.2 h1)
    clear h1 hno
    go_enter Tryd.func15, Tryd.ntmps15
    go_wp2_with fail
    refine (frame_any _ _).mono ?_
    rintro e w' ⟨rfl, rfl⟩
    rw [H1.out]
    go_wp2
    go_ret2
    exact ⟨rfl, Below.refl _ _⟩

set_option maxHeartbeats 1000000 in
theorem Cuts_yes (A : Option Addr) (c : Nat) (l : List Ev) (fr ld tr : Int) (w : World) (hw : Weights w) (hn : l.length ≤ 1000) (hr : Rd w w.heap.size A (l.flatMap Ev.cells)) (hyes : argsOk l fr ld tr = true) :
    Calls Tryd.prog 15 #[.slice A l.length c, .int .i64 fr, .int .i64 ld, .int .i64 tr] w fun e w' => ∃ A' cp, e = .returned (.tuple #[.slice A' (cutsOf l fr ld tr).length cp, .int .i64 0]) ∧ OwnL w' w.heap.size 48 3 (.slice A' (cutsOf l fr ld tr).length cp) Cut.cells (cutsOf l fr ld tr) ∧ Below w.heap.size w w' := by
  have HR := Lib.hid hr
  have HW := Lib.hid hw
  clear hr hw
  simp only [argsOk, Bool.and_eq_true] at hyes
  obtain ⟨⟨⟨h1, h2⟩, h3⟩, h4⟩ := hyes
  have HM := Lib.hid (evsOk_mem fr l 0 h4)
  have b1 := (frameOk_iff _).1 h1
  have b2 := (frameOk_iff _).1 h2
  have b3 := (frameOk_iff _).1 h3
  obtain ⟨b1, b1'⟩ := b1
  obtain ⟨b2, b2'⟩ := b2
  obtain ⟨b3, b3'⟩ := b3
  have H1 := Lib.hid h1
  have H2 := Lib.hid h2
  have H3 := Lib.hid h3
  have H4 := Lib.hid h4
  have HB := Lib.hid (cutsOf_bd fr ld tr l)
  clear h1 h2 h3 h4
  go_enter Tryd.func15, Tryd.ntmps15
  go_wp2_with fail
  refine (frame_any _ _).mono ?_
  rintro e w' ⟨rfl, rfl⟩
  rw [H1.out]
  go_wp2_with fail
  refine (frame_any _ _).mono ?_
  rintro e w' ⟨rfl, rfl⟩
  rw [H2.out]
  go_wp2_with fail
  refine (frame_any _ _).mono ?_
  rintro e w' ⟨rfl, rfl⟩
  rw [H3.out]
  go_wp2_with fail
  refine (events_any _ _ _ _ _ (by omega) HR.out).mono ?_
  rintro e w1 ⟨rfl, hb1⟩
  rw [H4.out]
  go_wp2
  go_loopw [10, 35] (fun v i wr => ∃ k : Nat, k ≤ l.length ∧ i = .int .i64 k ∧ ∃ A' cp, v = .slice A' (cutsOf (l.take k) fr ld tr).length cp ∧ OwnL wr w.heap.size 48 3 (.slice A' (cutsOf (l.take k) fr ld tr).length cp) Cut.cells (cutsOf (l.take k) fr ld tr) ∧ Below w.heap.size w wr) (fun _ i _ => l.length - (intOf i).toNat)
  case atStart => exact ⟨0, Nat.zero_le _, rfl, none, 0, by simp [cutsOf], by simpa [cutsOf] using OwnL.nil, hb1⟩
  case round =>
    obtain ⟨k, hk, rfl, A', cp, rfl, hown, hb⟩ := hrel
    by_cases hlt : k < l.length
    · obtain ⟨b, off, rfl, hB, h0, h1, h2, h3, h4, h5, h6, h7, h8⟩ := (HR.out.below hb (Nat.le_refl _)).ev hlt
      have hm := HM.out l[k] (List.getElem_mem hlt)
      obtain ⟨hm1, hm2⟩ := hm
      have HO := Lib.hid hown
      clear hown
      go_wp2_with fail
      refine (about_any l[k] fr ld tr _ (HW.out.on (by repeat (first | exact Below.refl _ _ | (with_reducible assumption) | apply bAlloc | apply below_drewN | apply Below.drew))) hm1 (by omega) b2 b2' b3 b3').mono ?_
      rintro e w2 ⟨rfl, hb2⟩
      have hle := (HB.out k hk).2
      have hww : (aboutC l[k] fr ld tr).weight = weightOf l[k].kind := rfl
      have HWW := Lib.hid hww
      have hwb := weightOf_bd l[k].kind
      rw [← hww] at hwb
      obtain ⟨hwb1, hwb2⟩ := hwb
      clear hww
      unfold Cut.val
      go_wp2_with fail
      · refine (join_any (aboutC l[k] fr ld tr) _ _ _ (cutsOf (l.take k) fr ld tr) w.heap.size _ ?hbase ?hown2 (by omega) ?hws hwb1 (by omega)).mono ?_
        case hbase => have := hb.size; have := hb2.size; simp at this ⊢; omega
        case hown2 => exact (((HO.out.alloc _).below hb2).alloc _)
        case hws => intro d hd; have := (HB.out k hk).1 d hd; omega
        rintro e w3 ⟨A3, cp3, rfl, hown3, hb3⟩
        have HO3 := Lib.hid hown3
        clear hown3
        go_wp2
        go_roundw
        case rel =>
          have hst : cutsOf (l.take (k + 1)) fr ld tr = joinC (cutsOf (l.take k) fr ld tr) (aboutC l[k] fr ld tr) := by
            rw [cutsOf_take l fr ld tr k hlt, stepC, if_pos (by rw [← HWW.out]; assumption)]
          refine ⟨k + 1, by omega, by go_num, A3, cp3, by rw [hst], by rw [hst]; exact HO3.out, ?_⟩
          exact (bAlloc (bTrans (bAlloc hb _) hb2) _).trans hb3
        case measure => simp [intOf]; omega
      · go_roundw
        case rel =>
          have hst : cutsOf (l.take (k + 1)) fr ld tr = cutsOf (l.take k) fr ld tr := by
            rw [cutsOf_take l fr ld tr k hlt, stepC, if_neg (by rw [← HWW.out]; omega)]
          refine ⟨k + 1, by omega, by go_num, A', cp, by rw [hst], ?_, ?_⟩
          · rw [hst]; exact (((HO.out.alloc _).below hb2).alloc _)
          · exact bAlloc (bTrans (bAlloc hb _) hb2) _
        case measure => simp [intOf]; omega
    · have hkl : l.take k = l := List.take_of_length_le (by omega)
      rw [hkl] at hown
      rw [hkl]
      have HO := Lib.hid hown
      clear hown hkl
      go_wp2
      go_ret2
      exact ⟨A', cp, rfl, HO.out, hb⟩
end Go.Proofs.YtaegekfdbhmcaaaDoor
