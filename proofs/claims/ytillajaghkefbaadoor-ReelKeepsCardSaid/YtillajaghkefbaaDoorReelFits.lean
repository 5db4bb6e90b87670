/-
  The walks of the reference's Fits, and of the law's same.
-/
import Derived.Test.YtillajaghkefbaaDoorReelCuts
namespace Go.Proofs.YtillajaghkefbaaDoor
open Go.RowKit

set_option maxHeartbeats 1000000 in
theorem Fits_no (A : Option Addr) (c : Nat) (l : List Ev) (fr ld tr : Int) (w : World) (h : ¬ (0 ≤ fr ∧ fr ≤ 1073741824 ∧ 0 ≤ ld ∧ ld ≤ 1073741824 ∧ 0 ≤ tr ∧ tr ≤ 1073741824)) :
    Calls Tryd.prog 9 #[.slice A l.length c, .int .i64 fr, .int .i64 ld, .int .i64 tr] w fun e w' => e = .returned (.bool false) ∧ Below w.heap.size w w' := by
  have h' : fr < 0 ∨ (0 ≤ fr ∧ 1073741824 < fr) ∨ (0 ≤ fr ∧ fr ≤ 1073741824 ∧ ld < 0) ∨ (0 ≤ fr ∧ fr ≤ 1073741824 ∧ 0 ≤ ld ∧ 1073741824 < ld) ∨ (0 ≤ fr ∧ fr ≤ 1073741824 ∧ 0 ≤ ld ∧ ld ≤ 1073741824 ∧ tr < 0) ∨
    (0 ≤ fr ∧ fr ≤ 1073741824 ∧ 0 ≤ ld ∧ ld ≤ 1073741824 ∧ 0 ≤ tr ∧ 1073741824 < tr) := by omega
  clear h
  rcases h' with h | ⟨_, _⟩ | ⟨_, _, _⟩ | ⟨_, _, _, _⟩ | ⟨_, _, _, _, _⟩ | ⟨_, _, _, _, _, _⟩
  all_goals
    go_enter Tryd.func9, Tryd.ntmps9
    go_wp2
    go_ret
    exact ⟨rfl, Below.refl _ _⟩

set_option maxHeartbeats 1000000 in
theorem Fits_yes (A : Option Addr) (c : Nat) (l : List Ev) (fr ld tr : Int) (w : World) (hn : l.length ≤ 1000) (hr : Rd w w.heap.size A (l.flatMap Ev.cells)) (b1 : 0 ≤ fr) (b1' : fr ≤ 1073741824) (b2 : 0 ≤ ld) (b2' : ld ≤ 1073741824) (b3 : 0 ≤ tr) (b3' : tr ≤ 1073741824) :
    Calls Tryd.prog 9 #[.slice A l.length c, .int .i64 fr, .int .i64 ld, .int .i64 tr] w fun e w' => e = .returned (.bool (evsOk fr 0 l)) ∧ Below w.heap.size w w' := by
  have HR := Lib.hid hr
  clear hr
  go_enter Tryd.func9, Tryd.ntmps9
  go_wp2
  go_loopw [9] (fun i wr => ∃ k : Nat, k ≤ l.length ∧ i = .int .i64 k ∧ Hid (∃ z, (∀ (h : 0 < k) (h' : k ≤ l.length), z = (l[k - 1]'(by omega)).frame) ∧ 0 ≤ z ∧ (k = 0 → z = 0) ∧ evsOk fr 0 l = evsOk fr z (l.drop k)) ∧ wr = w) (fun i _ => l.length - (intOf i).toNat)
  case atStart => exact ⟨0, Nat.zero_le _, rfl, ⟨0, fun h => absurd h (by omega), by omega, fun _ => rfl, rfl⟩, rfl⟩
  case round =>
    obtain ⟨k, hk, rfl, hz, rfl⟩ := hrel
    by_cases hlt : k < l.length
    · obtain ⟨b, off, hA, hB, h0, -, -, -, -, -, -, -, -⟩ := HR.out.ev hlt
      subst hA
      by_cases hk0 : k = 0
      · subst hk0
        rw [Nat.zero_mul, Nat.add_zero] at h0
        go_wp2
        · go_roundw
          case rel =>
            refine ⟨1, by omega, rfl, ?_, trivial⟩
            obtain ⟨z, -, -, z0, hz⟩ := hz.out
            rw [z0 (by first | rfl | trivial)] at hz
            rw [List.drop_eq_getElem_cons hlt, evsOk, if_neg (by omega)] at hz
            exact ⟨_, fun _ _ => rfl, by omega, fun h => by omega, hz⟩
          case measure => simp [intOf]; omega
        all_goals
          go_ret
          refine ⟨ret_bool ?_, Below.refl _ _⟩
          obtain ⟨z, -, -, z0, hz⟩ := hz.out
          rw [z0 (by first | rfl | trivial)] at hz
          rw [hz, List.drop_eq_getElem_cons hlt, evsOk, if_pos (by omega)]
      · obtain ⟨b', off', hA', -, g0, -, -, -, -, -, -, -, -⟩ := HR.out.ev (show k - 1 < l.length by omega)
        simp only [Option.some.injEq, Addr.mk.injEq, and_true] at hA'
        obtain ⟨rfl, rfl⟩ := hA'
        have hk1 : 1 ≤ k := by omega
        go_wp2
        · go_ret
          refine ⟨ret_bool ?_, Below.refl _ _⟩
          obtain ⟨z, z1, z2, -, hz⟩ := hz.out
          have := z1 (by omega) hk
          rw [hz, List.drop_eq_getElem_cons hlt, evsOk, if_pos (by omega)]
        · go_roundw
          case rel =>
            refine ⟨k + 1, by omega, by go_num, ?_, trivial⟩
            obtain ⟨z, z1, z2, -, hz⟩ := hz.out
            have := z1 (by omega) hk
            rw [List.drop_eq_getElem_cons hlt, evsOk, if_neg (by omega)] at hz
            exact ⟨_, fun _ _ => rfl, by omega, fun h => by omega, hz⟩
          case measure => simp [intOf]; omega
        all_goals
          go_ret
          refine ⟨ret_bool ?_, Below.refl _ _⟩
          obtain ⟨z, z1, z2, -, hz⟩ := hz.out
          have := z1 (by omega) hk
          rw [hz, List.drop_eq_getElem_cons hlt, evsOk, if_pos (by omega)]
    · have e0 : evsOk fr 0 l = true := by
        obtain ⟨z, -, -, -, hz⟩ := hz.out
        rw [hz, List.drop_of_length_le (by omega), evsOk]
      have E0 := Lib.hid e0
      clear e0
      go_wp2
      go_ret
      exact ⟨ret_bool E0.out.symm, Below.refl _ _⟩
end Go.Proofs.YtillajaghkefbaaDoor
