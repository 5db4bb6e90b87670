/-
  A number's bytes with its sign: the walks of pack's Signed, and of the document's.
-/
import Derived.Test.YtdjfpdndaobohaaNumW
namespace Go.Proofs.Ytdjfpdndaobohaa
open Go.RowKit
set_option maxRecDepth 100000
theorem xor_ones (a : Nat) (ha : a < 18446744073709551616) : a ^^^ 18446744073709551615 = 18446744073709551615 - a := by
  have h := BitVec.xor_allOnes (x := BitVec.ofNat 64 a)
  have h2 := congrArg BitVec.toNat h
  rw [BitVec.toNat_xor, BitVec.toNat_not, BitVec.toNat_allOnes, BitVec.toNat_ofNat, Nat.mod_eq_of_lt (by omega)] at h2
  simpa using h2
theorem zig_nat (n : Int) (h0 : 0 ≤ n) : ((zig n : Nat) : Int) = 2 * n := by unfold zig; rw [if_pos h0]; omega
theorem zig_neg (n : Int) (h0 : n < 0) : ((zig n : Nat) : Int) = -2 * n - 1 := by unfold zig; rw [if_neg (by omega)]; omega
theorem zig_xor (n : Int) (h0 : -4611686018427387904 ≤ n) (h1 : n < 4611686018427387904) : bits .xor .u64 (IntKind.u64.wrap (n * 2)) (IntKind.u64.wrap (n / 9223372036854775808)) = ((zig n : Nat) : Int) := by
  rw [IntKind.wrap_u64, IntKind.wrap_u64]
  by_cases hn : 0 ≤ n
  · rw [zig_nat n hn, show n / 9223372036854775808 = 0 by omega, u64_xor _ _ (by omega) (by omega) (by decide) (by decide)]
    simp
    omega
  · rw [zig_neg n (by omega), show n / 9223372036854775808 = -1 by omega, u64_xor _ _ (by omega) (by omega) (by decide) (by decide)]
    rw [show ((-1 : Int) % 18446744073709551616).toNat = 18446744073709551615 from rfl, xor_ones _ (by omega)]
    omega
set_option maxHeartbeats 1000000 in
theorem signed_any (n : Int) (h0 : -4611686018427387904 ≤ n) (h1 : n < 4611686018427387904) (w : World) : Calls Try.prog 42 #[.int .i64 n] w fun e w' => e = .returned (strN (numB (zig n))) ∧ Below w.heap.size w w' := by
  have HC := Lib.hid (fun W => num_any (zig n) (by unfold zig; split <;> omega) W)
  have hx := zig_xor n h0 h1
  obtain ⟨z, hz⟩ : ∃ z, zig n = z := ⟨_, rfl⟩
  rw [hz] at HC hx ⊢
  clear hz
  go_enter Try.func42, Try.ntmps42
  go_wp2_with (go_at_call 41; refine (HC.out _).mono ?_; rintro e w1 ⟨rfl, hb⟩)
  go_ret
  exact ⟨rfl, hb⟩
set_option maxHeartbeats 1000000 in
theorem rsigned_any (n : Int) (h0 : -4611686018427387904 ≤ n) (h1 : n < 4611686018427387904) (w : World) : Calls Try.prog 44 #[.int .i64 n] w fun e w' => e = .returned (strN (numB (zig n))) ∧ Below w.heap.size w w' := by
  have HC := Lib.hid (fun W => rnum_any (zig n) (by unfold zig; split <;> omega) W)
  by_cases hn : 0 ≤ n
  · rw [zig_nat n hn] at HC
    go_enter Try.func44, Try.ntmps44
    go_wp2_with (go_at_call 43; refine (HC.out _).mono ?_; rintro e w1 ⟨rfl, hb⟩)
    go_ret
    exact ⟨rfl, hb⟩
  · rw [zig_neg n (by omega), show -2 * n - 1 = 2 * (-(n + 1)) + 1 by omega] at HC
    go_enter Try.func44, Try.ntmps44
    go_wp2_with (go_at_call 43; refine (HC.out _).mono ?_; rintro e w1 ⟨rfl, hb⟩)
    go_ret
    exact ⟨rfl, hb⟩
end Go.Proofs.Ytdjfpdndaobohaa
