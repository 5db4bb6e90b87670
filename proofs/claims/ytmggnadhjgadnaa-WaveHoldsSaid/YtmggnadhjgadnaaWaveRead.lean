/-
  The walks of the functions that read bytes.
-/
import Derived.Test.YtmggnadhjgadnaaWavePlain
import Derived.Deep.RegionHeld3
namespace Go.Proofs.Ytmggnadhjgadnaa
open Go.RowKit

theorem told_drop (l : List UInt8) (k : Nat) (h : k < l.length) : toldL (l.drop k) = l[k].toNat + 256 * toldL (l.drop (k + 1)) := by
  rw [List.drop_eq_getElem_cons h, toldL]
theorem i64_join (a b : Int) (h0 : 0 ≤ a) (h1 : a < 1000000000000) (b0 : 0 ≤ b) (b1 : b < 256) : bits .or .i64 (a * 256) b = a * 256 + b :=
  bits_join .i64 62 (by decide) (fun n h h' => by rw [IntKind.wrap_i64]; omega) 8 _ _ (by omega) (by omega) (by omega) b0 b1 (by omega)
theorem told_bd (l : List UInt8) (h : l.length ≤ 4) (k : Nat) : toldL (l.drop k) < 4294967296 := by
  refine Nat.lt_of_lt_of_le (toldL_lt _) ?_
  exact show 256 ^ (l.drop k).length ≤ 256 ^ 4 from Nat.pow_le_pow_right (n := 256) (by decide) (by rw [List.length_drop]; omega)

set_option maxRecDepth 100000 in
set_option maxHeartbeats 1000000 in
theorem told_any (s : ByteArray) (w : World) (h : s.data.toList.length ≤ 4) : Calls Try.prog 22 #[.string s] w fun e w' => e = .returned (.int .i64 (toldL s.data.toList : Nat)) ∧ w = w' := by
  have hs : s.size ≤ 4 := h
  go_enter Try.func22, Try.ntmps22
  go_wp2
  go_loop [3, 4] (fun n i => ∃ k : Nat, k ≤ s.size ∧ i = .int .i64 ((k : Int) - 1) ∧ n = .int .i64 (toldL (s.data.toList.drop k) : Nat)) (fun _ i => (intOf i + 1).toNat)
  case atStart => exact ⟨s.size, Nat.le_refl _, rfl, by rw [List.drop_of_length_le (show s.data.toList.length ≤ s.size from Nat.le_refl _)]; rfl⟩
  case round =>
    obtain ⟨k, hk, rfl, rfl⟩ := hrel
    have hbd := told_bd s.data.toList h k
    by_cases hlt : 0 < k
    · obtain ⟨j, rfl⟩ : ∃ j, k = j + 1 := ⟨k - 1, by omega⟩
      have ej : (((j + 1 : Nat) : Int) - 1) = (j : Int) := by omega
      rw [ej]
      clear ej
      go_wp2
      go_round
      case rel =>
        refine ⟨j, by omega, by go_num, ?_⟩
        have hb := UInt8.toNat_lt s[j]
        have e1 : wrap64 (s[j].toNat : Int) = (s[j].toNat : Int) := by unfold wrap64; omega
        rw [e1, i64_join _ _ (by omega) (by omega) (by omega) (by omega), told_drop s.data.toList j (by have : s.data.toList.length = s.size := rfl; omega)]
        have e2 : s.data.toList[j]'(by have : s.data.toList.length = s.size := rfl; omega) = s[j] := by rw [Array.getElem_toList]; rfl
        rw [e2]
        go_num
      case measure => simp [intOf]
    · obtain rfl : k = 0 := by omega
      go_wp2
      go_ret
      exact ⟨rfl, rfl⟩

set_option maxRecDepth 100000 in
set_option maxHeartbeats 1000000 in
theorem at_any (s : ByteArray) (w : World) (h : s.data.toList.length ≤ 4) : Calls Try.prog 25 #[.string s] w fun e w' => e = .returned (.int .i64 (toldL s.data.toList : Nat)) ∧ w = w' := by
  have hs : s.size ≤ 4 := h
  go_enter Try.func25, Try.ntmps25
  go_wp2
  go_loop [3, 4] (fun n i => ∃ k : Nat, k ≤ s.size ∧ i = .int .i64 k ∧ n = .int .i64 (toldL (s.data.toList.drop k) : Nat)) (fun _ i => (intOf i).toNat)
  case atStart => exact ⟨s.size, Nat.le_refl _, rfl, by rw [List.drop_of_length_le (show s.data.toList.length ≤ s.size from Nat.le_refl _)]; rfl⟩
  case round =>
    obtain ⟨k, hk, rfl, rfl⟩ := hrel
    have hbd := told_bd s.data.toList h k
    by_cases hlt : 0 < k
    · obtain ⟨j, rfl⟩ : ∃ j, k = j + 1 := ⟨k - 1, by omega⟩
      go_wp2
      go_round
      case rel =>
        refine ⟨j, by omega, by go_num, ?_⟩
        have hb := UInt8.toNat_lt s[j]
        rw [told_drop s.data.toList j (by have : s.data.toList.length = s.size := rfl; omega)]
        have e2 : s.data.toList[j]'(by have : s.data.toList.length = s.size := rfl; omega) = s[j] := by rw [Array.getElem_toList]; rfl
        rw [e2]
        have e3 : wrap64 (256 * (toldL (List.drop (j + 1) s.data.toList) : Nat) + wrap64 (s[j].toNat : Int)) = ((s[j].toNat + 256 * toldL (List.drop (j + 1) s.data.toList) : Nat) : Int) := by unfold wrap64; omega
        rw [e3]
      case measure => simp [intOf]
    · obtain rfl : k = 0 := by omega
      go_wp2
      go_ret
      exact ⟨rfl, rfl⟩

set_option maxRecDepth 100000 in
set_option maxHeartbeats 1000000 in
theorem signed_any (s : ByteArray) (w : World) (h : s.data.toList.length = 2) : Calls Try.prog 23 #[.string s] w fun e w' => e = .returned (.int .i64 (sg (toldL s.data.toList))) ∧ w = w' := by
  have hbd := toldL_lt s.data.toList
  rw [h] at hbd
  have HH := Lib.hid h
  clear h
  go_enter Try.func23, Try.ntmps23
  go_wp2_with fail
  refine (told_any s _ (by rw [HH.out]; decide)).mono ?_
  rintro e w' ⟨rfl, rfl⟩
  go_wp2
  go_ret
  refine ⟨ret_int ?_, rfl⟩
  have e1 : IntKind.i16.wrap (toldL s.data.toList : Nat) = ((toldL s.data.toList : Nat) + 32768 : Int) % 65536 - 32768 := by simp [IntKind.wrap, IntKind.bits, IntKind.signed]; omega
  rw [e1]
  unfold sg wrap64
  split <;> omega
end Go.Proofs.Ytmggnadhjgadnaa
