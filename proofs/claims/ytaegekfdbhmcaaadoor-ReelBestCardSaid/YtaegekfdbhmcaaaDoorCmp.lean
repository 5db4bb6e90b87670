/-
  cmp.Compare and cmp.Or.
-/
import Derived.Test.YtaegekfdbhmcaaaDoorRbP
import Derived.Deep.RegionHeld3
import Derived.Deep.RegionWith
import Derived.StillTactics
namespace Go.Proofs.YtaegekfdbhmcaaaDoor
open Go.RowKit
set_option maxHeartbeats 400000 in
theorem nan_any (n : Int) (w : World) : Calls Tryd.prog 42 #[.int .i64 n] w fun e w' => e = .returned (.bool false) ∧ w = w' := by
  go_enter Tryd.func42, Tryd.ntmps42
  go_wp2
  go_ret
  exact ⟨rfl, rfl⟩

set_option maxHeartbeats 400000 in
theorem cmp_any (a b : Int) (w : World) : Calls Tryd.prog 35 #[.int .i64 a, .int .i64 b] w fun e w' => e = .returned (.int .i64 (cmpI a b)) ∧ w = w' := by
  rcases Int.lt_trichotomy a b with h | h | h
  · have HZ := Lib.hid (show cmpI a b = -1 by unfold cmpI; rw [if_pos h])
    go_enter Tryd.func35, Tryd.ntmps35
    go_wp2
    go_ret
    exact ⟨ret_int HZ.out.symm, rfl⟩
  · subst h
    have HZ := Lib.hid (show cmpI a a = 0 by unfold cmpI; rw [if_neg (by omega), if_neg (by omega)])
    go_enter Tryd.func35, Tryd.ntmps35
    go_wp2
    go_ret
    exact ⟨ret_int HZ.out.symm, rfl⟩
  · have HZ := Lib.hid (show cmpI a b = 1 by unfold cmpI; rw [if_neg (by omega), if_pos h])
    go_enter Tryd.func35, Tryd.ntmps35
    go_wp2
    go_ret
    exact ⟨ret_int HZ.out.symm, rfl⟩

set_option maxHeartbeats 400000 in
theorem or_any (A : Option Addr) (c : Nat) (l : List Int) (w : World) (hn : l.length ≤ 1000) (hr : Rd w w.heap.size A (l.map (Value.int .i64))) : Calls Tryd.prog 34 #[.slice A l.length c] w fun e w' => e = .returned (.int .i64 (orI l)) ∧ w = w' := by
  have HR := Lib.hid hr
  clear hr
  go_enter Tryd.func34, Tryd.ntmps34
  go_wp2
  go_loopw [8] (fun i wr => ∃ k : Nat, k ≤ l.length ∧ i = .int .i64 k ∧ Hid (orI l = orI (l.drop k)) ∧ wr = w) (fun i _ => l.length - (intOf i).toNat)
  case atStart => exact ⟨0, Nat.zero_le _, rfl, rfl, rfl⟩
  case round =>
    obtain ⟨k, hk, rfl, hz, rfl⟩ := hrel
    by_cases hlt : k < l.length
    · obtain ⟨b, off, rfl, hB, hc⟩ := HR.out.one (k := k) (by simpa using hlt)
      simp only [List.getElem_map] at hc
      have hst : orI (l.drop k) = if l[k] = 0 then orI (l.drop (k + 1)) else l[k] := by rw [List.drop_eq_getElem_cons hlt, orI]
      have HS := Lib.hid hst
      clear hst
      by_cases h0 : l[k] = 0
      · have H0 := Lib.hid h0
        have hb : (l[k] != 0) = false := by simpa using h0
        clear h0
        go_wp2
        go_roundw
        case rel => exact ⟨k + 1, by omega, by go_num, (show _ = _ by rw [hz.out, HS.out, if_pos H0.out]), trivial⟩
        case measure => simp [intOf]; omega
      · have H0 := Lib.hid h0
        have hb : (l[k] != 0) = true := by simpa using h0
        clear h0
        go_wp2
        go_ret
        exact ⟨ret_int (by rw [hz.out, HS.out, if_neg H0.out]), rfl⟩
    · have e1 : orI l = 0 := by rw [hz.out, List.drop_of_length_le (by omega), orI]
      have E1 := Lib.hid e1
      clear e1
      go_wp2
      go_ret
      exact ⟨ret_int E1.out.symm, rfl⟩

end Go.Proofs.YtaegekfdbhmcaaaDoor
