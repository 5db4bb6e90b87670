/-
  The walks of the series' functions and of the reference's.
-/
import Derived.Test.YtfcllbhkimjhkaaDoorSerP
namespace Go.Proofs.YtfcllbhkimjhkaaDoor.Ser
open Go.RowKit

set_option maxHeartbeats 400000 in
theorem right_any (A : Option Addr) (c : Nat) (l : List Ev) (w : World) (hn : l.length ≤ 1000000) (hr : Rd w w.heap.size A (l.flatMap Ev.cells)) :
    Calls Tryd.prog 20 #[.slice A l.length c] w fun e w' => e = .returned (.bool (rightEv 0 l)) ∧ Below w.heap.size w w' := by
  have HR := Lib.hid hr
  clear hr
  go_enter Tryd.func20, Tryd.ntmps20
  go_wp2
  go_loopw [3, 8] (fun last i wr => ∃ k : Nat, k ≤ l.length ∧ i = .int .i64 k ∧ ∃ z, last = .int .i64 z ∧ Hid (rightEv 0 l = rightEv z (l.drop k)) ∧ Below w.heap.size w wr) (fun _ i _ => l.length - (intOf i).toNat)
  case atStart => exact ⟨0, Nat.zero_le _, rfl, 0, rfl, rfl, Below.refl _ _⟩
  case round =>
    obtain ⟨k, hk, rfl, z, rfl, hz, hb⟩ := hrel
    by_cases hlt : k < l.length
    · obtain ⟨b, off, rfl, hB, h0, h1, h2, h3, h4, h5, h6, h7, h8⟩ := (HR.out.below hb (Nat.le_refl _)).ev hlt
      go_wp2
      · go_ret
        refine ⟨ret_bool ?_, hb.alloc hb.size _⟩
        rw [hz.out, List.drop_eq_getElem_cons hlt, rightEv, if_pos (by omega)]
      · go_roundw
        case rel =>
          refine ⟨k + 1, by omega, by go_num, _, rfl, ?_, hb.alloc hb.size _⟩
          show _ = _
          rw [hz.out, List.drop_eq_getElem_cons hlt, rightEv, if_neg (by omega)]
        case measure => simp [intOf]; omega
      · go_ret
        refine ⟨ret_bool ?_, hb.alloc hb.size _⟩
        rw [hz.out, List.drop_eq_getElem_cons hlt, rightEv, if_pos (by omega)]
    · have e0 : rightEv 0 l = true := by rw [hz.out, List.drop_of_length_le (by omega), rightEv]
      have E0 := Lib.hid e0
      clear e0
      go_wp2
      go_ret
      exact ⟨ret_bool E0.out.symm, hb⟩


set_option maxHeartbeats 400000 in
theorem winner_any (a b : Int) (w : World) :
    Calls Tryd.prog 25 #[.agg #[.int .i64 a, .int .i64 b]] w fun e w' => e = .returned (.int .i64 (winOf a b)) ∧ w.alloc (.cells #[.int .i64 a, .int .i64 b] 25) = w' := by
  rcases Int.lt_trichotomy a b with h | h | h
  · have HZ := Lib.hid (show winOf a b = 1 by unfold winOf; rw [if_neg (by omega), if_pos h])
    go_enter Tryd.func25, Tryd.ntmps25
    go_wp2
    go_ret
    exact ⟨ret_int HZ.out.symm, rfl⟩
  · subst h
    have HZ := Lib.hid (show winOf a a = -1 by unfold winOf; rw [if_neg (by omega), if_neg (by omega)])
    go_enter Tryd.func25, Tryd.ntmps25
    go_wp2
    go_ret
    exact ⟨ret_int HZ.out.symm, rfl⟩
  · have HZ := Lib.hid (show winOf a b = 0 by unfold winOf; rw [if_pos h])
    go_enter Tryd.func25, Tryd.ntmps25
    go_wp2
    go_ret
    exact ⟨ret_int HZ.out.symm, rfl⟩

end Go.Proofs.YtfcllbhkimjhkaaDoor.Ser
