/-
  The walks of the series' functions and of the reference's.
-/
import Derived.Test.YtfcllbhkimjhkaaSeriesPlain
namespace Go.Proofs.Ytfcllbhkimjhkaa
open Go.RowKit

set_option maxHeartbeats 400000 in
theorem right_any (A : Option Addr) (c : Nat) (l : List Ev) (w : World) (hn : l.length ≤ 1000) (hr : Rd w w.heap.size A (l.flatMap Ev.cells)) :
    Calls Try.prog 10 #[.slice A l.length c] w fun e w' => e = .returned (.bool (rightEv 0 l)) ∧ Below w.heap.size w w' := by
  have HR := Lib.hid hr
  clear hr
  go_enter Try.func10, Try.ntmps10
  go_wp2
  go_loopw [3, 8] (fun last i wr => ∃ k : Nat, k ≤ l.length ∧ i = .int .i64 k ∧ ∃ z, last = .int .i64 z ∧ Hid (rightEv 0 l = rightEv z (l.drop k)) ∧ Below w.heap.size w wr) (fun _ i _ => l.length - (intOf i).toNat)
  case atStart => exact ⟨0, Nat.zero_le _, rfl, 0, rfl, rfl, Below.refl _ _⟩
  case round =>
    obtain ⟨k, hk, rfl, z, rfl, hz, hb⟩ := hrel
    by_cases hlt : k < l.length
    · obtain ⟨b, off, rfl, hB, h0, h1, h2, h3, h4, h5, h6, h7, h8⟩ := (HR.out.below hb (Nat.le_refl _)).ev hlt
      go_wp2
      · go_ret
        refine ⟨ret_bool ?_, hb.alloc hb.size _⟩
        rw [hz.out, List.drop_eq_getElem_cons hlt, rightEv, if_pos (by omega)]
      · go_roundw
        case rel =>
          refine ⟨k + 1, by omega, by go_num, _, rfl, ?_, hb.alloc hb.size _⟩
          show _ = _
          rw [hz.out, List.drop_eq_getElem_cons hlt, rightEv, if_neg (by omega)]
        case measure => simp [intOf]; omega
      · go_ret
        refine ⟨ret_bool ?_, hb.alloc hb.size _⟩
        rw [hz.out, List.drop_eq_getElem_cons hlt, rightEv, if_pos (by omega)]
    · have e0 : rightEv 0 l = true := by rw [hz.out, List.drop_of_length_le (by omega), rightEv]
      have E0 := Lib.hid e0
      clear e0
      go_wp2
      go_ret
      exact ⟨ret_bool E0.out.symm, hb⟩

set_option maxHeartbeats 400000 in
theorem kills_any (A : Option Addr) (c : Nat) (l : List Ev) (who : Int) (w : World) (hn : l.length ≤ 1000) (hr : Rd w w.heap.size A (l.flatMap Ev.cells)) (h0 : 0 ≤ who) (h1 : who ≤ 1) :
    Calls Try.prog 9 #[.slice A l.length c, .int .i64 who] w fun e w' => e = .returned (.int .i64 (killsOf l who)) ∧ w = w' := by
  have HR := Lib.hid hr
  clear hr
  go_enter Try.func9, Try.ntmps9
  go_wp2
  go_loopw [5, 6] (fun v i wr => ∃ k : Nat, k ≤ l.length ∧ i = .int .i64 k ∧ ∃ z, v = .int .i64 z ∧ Hid (z = killsOf (l.take k) who) ∧ 0 ≤ z ∧ z ≤ k ∧ wr = w) (fun _ i _ => l.length - (intOf i).toNat)
  case atStart => exact ⟨0, Nat.zero_le _, rfl, 0, rfl, rfl, by omega, by omega, rfl⟩
  case round =>
    obtain ⟨k, hk, rfl, z, rfl, hz, z0, z1, rfl⟩ := hrel
    by_cases hlt : k < l.length
    · obtain ⟨b, off, rfl, hB, h0, h1, h2, -, -, -, -, -, -⟩ := HR.out.ev hlt
      have hst := killsOf_take l who k hlt
      rw [← hz.out] at hst
      have HS := Lib.hid hst
      clear hst
      by_cases hh : hit l[k] who = true
      · have hh' := hh
        simp only [hit, Bool.and_eq_true, beq_iff_eq] at hh'
        have HH := Lib.hid hh
        obtain ⟨g1, g2⟩ := hh'
        have k1 : (l[k].kind == 5) = true := by simpa using g1
        have k2 : (l[k].emitter == 2 - who) = true := by simpa using g2
        clear hh g1 g2
        go_wp2
        go_roundw
        case rel => exact ⟨k + 1, by omega, by go_num, _, rfl, (show _ = _ by rw [HS.out, if_pos HH.out]), by omega, by omega, trivial⟩
        case measure => simp [intOf]; omega
      · have HH := Lib.hid hh
        have hh' : (l[k].kind == 5) = false ∨ (l[k].kind == 5) = true ∧ (l[k].emitter == 2 - who) = false := by
          simp only [hit, Bool.and_eq_true, not_and] at hh
          cases h5 : (l[k].kind == 5)
          · exact .inl rfl
          · exact .inr ⟨rfl, by simpa using hh h5⟩
        clear hh
        rcases hh' with k1 | ⟨k1, k2⟩
        all_goals
          go_wp2
          go_roundw
          case rel => exact ⟨k + 1, by omega, by go_num, _, rfl, (show _ = _ by rw [HS.out, if_neg HH.out, Int.add_zero]), by omega, by omega, trivial⟩
          case measure => simp [intOf]; omega
    · have e1 : z = killsOf l who := by rw [hz.out, List.take_of_length_le (by omega)]
      have E1 := Lib.hid e1
      clear e1
      go_wp2
      go_ret
      exact ⟨ret_int E1.out, rfl⟩

set_option maxHeartbeats 400000 in
theorem winner_any (a b : Int) (w : World) :
    Calls Try.prog 12 #[.agg #[.int .i64 a, .int .i64 b]] w fun e w' => e = .returned (.int .i64 (winOf a b)) ∧ w.alloc (.cells #[.int .i64 a, .int .i64 b] 28) = w' := by
  rcases Int.lt_trichotomy a b with h | h | h
  · have HZ := Lib.hid (show winOf a b = 1 by unfold winOf; rw [if_neg (by omega), if_pos h])
    go_enter Try.func12, Try.ntmps12
    go_wp2
    go_ret
    exact ⟨ret_int HZ.out.symm, rfl⟩
  · subst h
    have HZ := Lib.hid (show winOf a a = -1 by unfold winOf; rw [if_neg (by omega), if_neg (by omega)])
    go_enter Try.func12, Try.ntmps12
    go_wp2
    go_ret
    exact ⟨ret_int HZ.out.symm, rfl⟩
  · have HZ := Lib.hid (show winOf a b = 0 by unfold winOf; rw [if_pos h])
    go_enter Try.func12, Try.ntmps12
    go_wp2
    go_ret
    exact ⟨ret_int HZ.out.symm, rfl⟩

set_option maxHeartbeats 1000000 in
theorem r37Right_any (A : Option Addr) (c : Nat) (l : List Ev) (w : World) (hn : l.length ≤ 1000) (hr : Rd w w.heap.size A (l.flatMap Ev.cells)) :
    Calls Try.prog 7 #[.slice A l.length c] w fun e w' => e = .returned (.bool (rightEv 0 l)) ∧ Below w.heap.size w w' := by
  have HR := Lib.hid hr
  clear hr
  go_enter Try.func7, Try.ntmps7
  go_wp2
  go_loopw [3] (fun i wr => ∃ k : Nat, k ≤ l.length ∧ i = .int .i64 k ∧ Hid (∃ z, (∀ (_ : 0 < k) (_ : k ≤ l.length), z = (l[k - 1]'(by omega)).frame) ∧ 0 ≤ z ∧ (k = 0 → z = 0) ∧ rightEv 0 l = rightEv z (l.drop k)) ∧ wr = w) (fun i _ => l.length - (intOf i).toNat)
  case atStart => exact ⟨0, Nat.zero_le _, rfl, ⟨0, fun h => absurd h (by omega), by omega, fun _ => rfl, rfl⟩, rfl⟩
  case round =>
    obtain ⟨k, hk, rfl, hz, rfl⟩ := hrel
    by_cases hlt : k < l.length
    · obtain ⟨b, off, hA, hB, h0, -, -, -, -, -, -, -, -⟩ := HR.out.ev hlt
      subst hA
      by_cases hk0 : k = 0
      · subst hk0
        rw [Nat.zero_mul, Nat.add_zero] at h0
        go_wp2
        · go_roundw
          case rel =>
            refine ⟨1, by omega, rfl, ?_, trivial⟩
            obtain ⟨z, -, -, z0, hz⟩ := hz.out
            rw [z0 (by first | rfl | trivial)] at hz
            rw [List.drop_eq_getElem_cons hlt, rightEv, if_neg (by omega)] at hz
            exact ⟨_, fun _ _ => rfl, by omega, fun h => by omega, hz⟩
          case measure => simp [intOf]; omega
        all_goals
          go_ret
          refine ⟨ret_bool ?_, Below.refl _ _⟩
          obtain ⟨z, -, -, z0, hz⟩ := hz.out
          rw [z0 (by first | rfl | trivial)] at hz
          rw [hz, List.drop_eq_getElem_cons hlt, rightEv, if_pos (by omega)]
      · obtain ⟨b', off', hA', -, g0, -, -, -, -, -, -, -, -⟩ := HR.out.ev (show k - 1 < l.length by omega)
        simp only [Option.some.injEq, Addr.mk.injEq, and_true] at hA'
        obtain ⟨rfl, rfl⟩ := hA'
        have hk1 : 1 ≤ k := by omega
        go_wp2
        · go_ret
          refine ⟨ret_bool ?_, Below.refl _ _⟩
          obtain ⟨z, z1, z2, -, hz⟩ := hz.out
          have := z1 (by omega) hk
          rw [hz, List.drop_eq_getElem_cons hlt, rightEv, if_pos (by omega)]
        · go_roundw
          case rel =>
            refine ⟨k + 1, by omega, by go_num, ?_, trivial⟩
            obtain ⟨z, z1, z2, -, hz⟩ := hz.out
            have := z1 (by omega) hk
            rw [List.drop_eq_getElem_cons hlt, rightEv, if_neg (by omega)] at hz
            exact ⟨_, fun _ _ => rfl, by omega, fun h => by omega, hz⟩
          case measure => simp [intOf]; omega
        all_goals
          go_ret
          refine ⟨ret_bool ?_, Below.refl _ _⟩
          obtain ⟨z, z1, z2, -, hz⟩ := hz.out
          have := z1 (by omega) hk
          rw [hz, List.drop_eq_getElem_cons hlt, rightEv, if_pos (by omega)]
    · have e0 : rightEv 0 l = true := by
        obtain ⟨z, -, -, -, hz⟩ := hz.out
        rw [hz, List.drop_of_length_le (by omega), rightEv]
      have E0 := Lib.hid e0
      clear e0
      go_wp2
      go_ret
      exact ⟨ret_bool E0.out.symm, Below.refl _ _⟩
end Go.Proofs.Ytfcllbhkimjhkaa
