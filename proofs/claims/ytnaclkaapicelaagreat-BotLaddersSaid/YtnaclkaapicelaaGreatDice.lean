/-
  The walks of the dice: the program's and the document's.
-/
import Derived.Test.YtnaclkaapicelaaGreatFix
import Derived.Laws.Bits64b
namespace Go.Proofs.YtnaclkaapicelaaGreat
open Go.RowKit
set_option maxRecDepth 100000
def U32 (n : Int) : Prop := 0 ≤ n ∧ n ≤ 4294967295
def nextZ (s : Int) : Int := (1664525 * s + 1013904223) % 4294967296
theorem nextZ_bd (s : Int) : U32 (nextZ s) := by unfold nextZ U32; omega
def xorZ (a b : Int) : Int := ((a.toNat ^^^ b.toNat : Nat) : Int)
def seedZ (a b : Int) : Int := nextZ (xorZ (nextZ a) b)
def throwZ (s n : Int) : Int := nextZ s / 65536 * n / 65536
set_option maxHeartbeats 1000000 in
theorem dof_any (s : Int) (w : World) (h : U32 s) : Calls Tryz.prog 127 #[.agg #[.int .u32 1664525, .int .u32 1013904223], .int .u32 s] w fun e w' => e = .returned (.int .u32 (nextZ s)) ∧ Below w.heap.size w w' := by
  obtain ⟨h1, h2⟩ := h
  go_enter Tryz.func127, Tryz.ntmps127
  go_wp2
  go_ret
  exact ⟨ret_int (by unfold nextZ; omega), (by repeat (first | exact Below.refl _ _ | (with_reducible assumption) | apply bAlloc | apply below_drewN | apply Below.drew))⟩
set_option maxHeartbeats 1000000 in
theorem dNext_any (s : Int) (w : World) (h : U32 s) : Calls Tryz.prog 101 #[.int .u32 s] w fun e w' => e = .returned (.int .u32 (nextZ s)) ∧ Below w.heap.size w w' := by
  go_enter Tryz.func101, Tryz.ntmps101
  go_wp2_with fail
  refine (dof_any _ _ h).mono ?_
  rintro e w1 ⟨rfl, k1⟩
  go_wp2
  go_ret
  exact ⟨rfl, k1⟩
set_option maxHeartbeats 1000000 in
theorem r09Next_any (s : Int) (w : World) (h : U32 s) : Calls Tryz.prog 54 #[.int .u32 s] w fun e w' => e = .returned (.int .u32 (nextZ s)) ∧ w = w' := by
  obtain ⟨h1, h2⟩ := h
  go_enter Tryz.func54, Tryz.ntmps54
  go_wp2
  go_ret
  exact ⟨ret_int (by unfold nextZ; omega), rfl⟩
theorem bits_xor_u32_nat (a b : Nat) (ha : a < 4294967296) (hb : b < 4294967296) : bits .xor .u32 (a : Int) (b : Int) = ((a ^^^ b : Nat) : Int) := by
  have h1 : (BitVec.ofInt IntKind.u32.bits (a : Int)).toNat = a := by simp [IntKind.bits]; omega
  have h2 : (BitVec.ofInt IntKind.u32.bits (b : Int)).toNat = b := by simp [IntKind.bits]; omega
  have h3 : a ^^^ b < 2 ^ 32 := Nat.xor_lt_two_pow (by simpa using ha) (by simpa using hb)
  unfold bits
  simp only
  rw [BitVec.toNat_xor, h1, h2, IntKind.wrap_u32]
  omega
theorem xorZ_bd {a b : Int} (ha : U32 a) (hb : U32 b) : U32 (xorZ a b) := by
  have h3 : a.toNat ^^^ b.toNat < 2 ^ 32 := Nat.xor_lt_two_pow (by unfold U32 at ha; omega) (by unfold U32 at hb; omega)
  unfold xorZ U32; omega
theorem xor_eq {a b : Int} (ha : U32 a) (hb : U32 b) : bits .xor .u32 a b = xorZ a b := by
  obtain ⟨n, rfl⟩ := Int.eq_ofNat_of_zero_le ha.1
  obtain ⟨m, rfl⟩ := Int.eq_ofNat_of_zero_le hb.1
  rw [bits_xor_u32_nat n m (by have := ha.2; omega) (by have := hb.2; omega)]; rfl
theorem seedZ_bd (a b : Int) : U32 (seedZ a b) := nextZ_bd _
set_option maxHeartbeats 1000000 in
theorem dSeed_any (a b : Int) (w : World) (ha : U32 a) (hb : U32 b) : Calls Tryz.prog 52 #[.int .u32 a, .int .u32 b] w fun e w' => e = .returned (.int .u32 (seedZ a b)) ∧ Below w.heap.size w w' := by
  have hx := xor_eq (nextZ_bd a) hb
  have HX := Lib.hid (xorZ_bd (nextZ_bd a) hb)
  have HS := Lib.hid (show nextZ (xorZ (nextZ a) b) = seedZ a b from rfl)
  have HA := Lib.hid ha
  obtain ⟨n, hn⟩ : ∃ n, nextZ a = n := ⟨_, rfl⟩
  rw [hn] at hx HX HS
  have HN := Lib.hid hn
  clear ha hb hn
  go_enter Tryz.func52, Tryz.ntmps52
  go_wp2_with fail
  refine (dNext_any _ _ HA.out).mono ?_
  rw [HN.out]
  rintro e w1 ⟨rfl, k1⟩
  go_wp2_with fail
  refine (dNext_any _ _ HX.out).mono ?_
  rw [HS.out]
  rintro e w2 ⟨rfl, k2⟩
  go_wp2
  go_ret
  exact ⟨rfl, bTrans k1 k2⟩
set_option maxHeartbeats 1000000 in
theorem r09Seed_any (a b : Int) (w : World) (ha : U32 a) (hb : U32 b) : Calls Tryz.prog 21 #[.int .u32 a, .int .u32 b] w fun e w' => e = .returned (.int .u32 (seedZ a b)) ∧ w = w' := by
  have hx := xor_eq (nextZ_bd a) hb
  have HX := Lib.hid (xorZ_bd (nextZ_bd a) hb)
  have HS := Lib.hid (show nextZ (xorZ (nextZ a) b) = seedZ a b from rfl)
  have HA := Lib.hid ha
  obtain ⟨n, hn⟩ : ∃ n, nextZ a = n := ⟨_, rfl⟩
  rw [hn] at hx HX HS
  have HN := Lib.hid hn
  clear ha hb hn
  go_enter Tryz.func21, Tryz.ntmps21
  go_wp2_with fail
  refine (r09Next_any _ _ HA.out).mono ?_
  rw [HN.out]
  rintro e w1 ⟨rfl, rfl⟩
  go_wp2_with fail
  refine (r09Next_any _ _ HX.out).mono ?_
  rw [HS.out]
  rintro e w1 ⟨rfl, rfl⟩
  go_wp2
  go_ret
  exact ⟨rfl, rfl⟩
theorem throw_num (s n : Int) (h0 : 1 ≤ n) (h1 : n ≤ 65536) : 0 ≤ nextZ s / 65536 * n ∧ nextZ s / 65536 * n ≤ 4294901760 ∧ 0 ≤ throwZ s n ∧ throwZ s n < n := by
  have hb := nextZ_bd s
  unfold U32 at hb
  obtain ⟨q, hq⟩ : ∃ q, nextZ s / 65536 = q := ⟨_, rfl⟩
  have h2 : 0 ≤ q ∧ q ≤ 65535 := by omega
  have h3 : 0 ≤ q * n := Int.mul_nonneg h2.1 (by omega)
  have h4 : q * n ≤ 65535 * n := Int.mul_le_mul_of_nonneg_right h2.2 (by omega)
  unfold throwZ
  rw [hq]
  refine ⟨h3, by omega, Int.ediv_nonneg h3 (by omega), ?_⟩
  omega
set_option maxHeartbeats 1000000 in
theorem dThrow_any (s n : Int) (w : World) (h : U32 s) (h0 : 1 ≤ n) (h1 : n ≤ 65536) : Calls Tryz.prog 102 #[.int .u32 s, .int .i64 n] w fun e w' => e = .returned (.tuple #[.int .u32 (nextZ s), .int .i64 (throwZ s n), .int .i64 0]) ∧ Below w.heap.size w w' := by
  have ht := throw_num s n h0 h1
  have hb := nextZ_bd s
  have e : throwZ s n = nextZ s / 65536 * n / 65536 := rfl
  rw [e]
  have HH := Lib.hid h
  obtain ⟨x, hx⟩ : ∃ x, nextZ s = x := ⟨_, rfl⟩
  rw [hx] at ht hb ⊢
  obtain ⟨b1, b2⟩ := hb
  obtain ⟨t1, t2, -⟩ := ht
  obtain ⟨q, hq⟩ : ∃ q, x / 65536 * n = q := ⟨_, rfl⟩
  rw [hq] at t1 t2 ⊢
  have HX := Lib.hid hx
  have hwr : IntKind.i64.wrap (x / 65536 * n) = q := by rw [hq, IntKind.wrap_i64]; omega
  have hq' : x / 65536 * n = q := hq
  clear h hx e hq
  go_enter Tryz.func102, Tryz.ntmps102
  go_wp2_with fail
  refine (dNext_any _ _ HH.out).mono ?_
  rw [HX.out]
  rintro e w1 ⟨rfl, k1⟩
  go_wp2
  go_ret3
  exact ⟨rfl, k1⟩
set_option maxHeartbeats 1000000 in
theorem r09Throw_any (s n : Int) (w : World) (h : U32 s) (h0 : 1 ≤ n) (h1 : n ≤ 65536) : Calls Tryz.prog 70 #[.int .u32 s, .int .i64 n] w fun e w' => e = .returned (.tuple #[.int .u32 (nextZ s), .int .i64 (throwZ s n)]) ∧ w = w' := by
  have ht := throw_num s n h0 h1
  have hb := nextZ_bd s
  have e : throwZ s n = nextZ s / 65536 * n / 65536 := rfl
  rw [e]
  have HH := Lib.hid h
  obtain ⟨x, hx⟩ : ∃ x, nextZ s = x := ⟨_, rfl⟩
  rw [hx] at ht hb ⊢
  obtain ⟨b1, b2⟩ := hb
  obtain ⟨t1, t2, -⟩ := ht
  obtain ⟨q, hq⟩ : ∃ q, x / 65536 * n = q := ⟨_, rfl⟩
  rw [hq] at t1 t2 ⊢
  have HX := Lib.hid hx
  have hwr : IntKind.u64.wrap (x / 65536 * n) = q := by rw [hq, IntKind.wrap_u64]; omega
  have hq' : x / 65536 * n = q := hq
  clear h hx e hq
  go_enter Tryz.func70, Tryz.ntmps70
  go_wp2_with fail
  refine (r09Next_any _ _ HH.out).mono ?_
  rw [HX.out]
  rintro e w1 ⟨rfl, rfl⟩
  go_wp2
  go_ret2
  exact ⟨rfl, rfl⟩
end Go.Proofs.YtnaclkaapicelaaGreat
