/-
  The walks beneath: FixP, Fix.
-/
import Derived.Laws.BitsLemmas
import Derived.Test.YtibeihcpehikoaaGreatNk1
namespace Go.Proofs.YtibeihcpehikoaaGreat
open Go.RowKit
set_option maxRecDepth 100000
set_option maxHeartbeats 400000
section
def F32 (n : Int) : Prop := -2147483648 ≤ n ∧ n ≤ 2147483647
def sat (n : Int) : Int := max (-2147483648) (min n 2147483647)
theorem sat_bd (n : Int) : F32 (sat n) := by unfold sat F32; omega
theorem sat_id {n : Int} (h : F32 n) : sat n = n := by unfold sat; unfold F32 at h; omega
theorem mul_bd {a b A B : Int} (ha : -A ≤ a ∧ a ≤ A) (hb : -B ≤ b ∧ b ≤ B) : -(A * B) ≤ a * b ∧ a * b ≤ A * B := by
 have hA : 0 ≤ A := by omega
 have hB : 0 ≤ B := by omega
 have h1 : a.natAbs ≤ A.natAbs := by omega
 have h2 : b.natAbs ≤ B.natAbs := by omega
 have h3 := Nat.mul_le_mul h1 h2
 rw [← Int.natAbs_mul, ← Int.natAbs_mul] at h3
 have h4 : 0 ≤ A * B := Int.mul_nonneg hA hB
 omega
theorem mul_f32 {a b : Int} (ha : F32 a) (hb : F32 b) : -4611686018427387904 ≤ a * b ∧ a * b ≤ 4611686018427387904 := by
 unfold F32 at ha hb
 have := mul_bd (a := a) (b := b) (A := 2147483648) (B := 2147483648) (by omega) (by omega)
 omega
def fmul (a b : Int) : Int := sat (a * b / 65536)
def fdown (a b : Int) : Int := if b < 0 then (-a) / (-b) else a / b
def fdiv (a b : Int) : Int := if b = 0 then (if 0 < a then 2147483647 else if a < 0 then -2147483648 else 0) else sat (fdown (a * 65536) b)
theorem fmul_bd (a b : Int) : F32 (fmul a b) := sat_bd _
theorem fdiv_bd (a b : Int) : F32 (fdiv a b) := by
 unfold fdiv
 split
 ·unfold F32; split
  ·omega
  ·split <;> omega
 ·exact sat_bd _
theorem neg_tmod' (a b : Int) : a.tmod b = -((-a).tmod b) := by rw [Int.neg_tmod]; omega
theorem ediv_neg_num {a b : Int} (hb : 0 < b) : (-a) / b = if a % b = 0 then -(a / b) else -(a / b) - 1 := by
 have h1 := Int.mul_ediv_add_emod a b
 have h2 := Int.emod_nonneg a (by omega : b ≠ 0)
 have h3 := Int.emod_lt_of_pos a hb
 split
 ·rename_i h0
  have : -a = b * (-(a / b)) := by rw [Int.mul_neg]; omega
  rw [this, Int.mul_ediv_cancel_left _ (by omega)]
 ·rename_i h0
  have : -a = (b - a % b) + b * (-(a / b) - 1) := by rw [Int.mul_sub, Int.mul_neg]; omega
  rw [this, Int.add_mul_ediv_left _ _ (by omega), Int.ediv_eq_zero_of_lt (by omega) (by omega)]
  omega
theorem tdiv_signs (a b : Int) (hb : b ≠ 0) : fdown a b = if a.tmod b ≠ 0 ∧ (decide (a < 0) != decide (b < 0)) = true then a.tdiv b - 1 else a.tdiv b := by
 unfold fdown
 rcases Int.lt_or_gt_of_ne hb with hb | hb
 ·rw [if_pos hb]
  obtain ⟨c, rfl⟩ : ∃ c, b = -c := ⟨-b, by omega⟩
  rw [Int.tdiv_neg, Int.tmod_neg, Int.neg_neg]
  rcases Int.lt_or_le a 0 with ha | ha
  ·obtain ⟨d, rfl⟩ : ∃ d, a = -d := ⟨-a, by omega⟩
   have e : (decide (-d < 0) != decide (-c < 0)) = false := by simp; omega
   rw [e, if_neg (by simp), Int.neg_tdiv, Int.neg_neg, Int.neg_neg, Int.tdiv_eq_ediv_of_nonneg (by omega)]
  ·rcases Int.lt_or_eq_of_le ha with ha | rfl
   ·have e : (decide (a < 0) != decide (-c < 0)) = true := by simp; omega
    rw [e, ediv_neg_num (by omega), Int.tdiv_eq_ediv_of_nonneg (by omega), Int.tmod_eq_emod_of_nonneg (by omega)]
    by_cases h0 : a % c = 0
    ·rw [if_pos h0, if_neg (by simp [h0])]
    ·rw [if_neg h0, if_pos ⟨h0, rfl⟩]
   ·simp
 ·rw [if_neg (by omega)]
  rcases Int.lt_or_le a 0 with ha | ha
  ·obtain ⟨d, rfl⟩ : ∃ d, a = -d := ⟨-a, by omega⟩
   have e : (decide (-d < 0) != decide (b < 0)) = true := by simp; omega
   rw [e, ediv_neg_num hb, Int.neg_tdiv, Int.neg_tmod, Int.tdiv_eq_ediv_of_nonneg (by omega), Int.tmod_eq_emod_of_nonneg (by omega)]
   by_cases h0 : d % b = 0
   ·rw [if_pos h0, if_neg (by simp [h0])]
   ·rw [if_neg h0, if_pos ⟨by omega, rfl⟩]
  ·have e : (decide (a < 0) != decide (b < 0)) = false := by simp; omega
   rw [e, if_neg (by simp), Int.tdiv_eq_ediv_of_nonneg ha]
def bisect : Nat → Nat → Nat → Nat
 | 0, lo, _ => lo
 | k + 1, lo, n => if (lo + 2 ^ k) * (lo + 2 ^ k) ≤ n then bisect k (lo + 2 ^ k) n else bisect k lo n
theorem bisect_spec : ∀ (k lo n : Nat), lo * lo ≤ n → n < (lo + 2 ^ k) * (lo + 2 ^ k) → bisect k lo n * bisect k lo n ≤ n ∧ n < (bisect k lo n + 1) * (bisect k lo n + 1)
  | 0, lo, n, h1, h2 => by simpa [bisect] using ⟨h1, h2⟩
  | k + 1, lo, n, h1, h2 => by
    unfold bisect
    split
    · exact bisect_spec k _ n ‹_› (by rw [Nat.pow_succ] at h2; rw [Nat.add_assoc]; have : 2 ^ k + 2 ^ k = 2 ^ k * 2 := by omega
                                      rw [this]; exact h2)
    · exact bisect_spec k lo n h1 (by omega)
def isqrt (n : Nat) : Nat := bisect 33 0 n
theorem isqrt_spec (n : Nat) (h : n < 18446744073709551616) : isqrt n * isqrt n ≤ n ∧ n < (isqrt n + 1) * (isqrt n + 1) :=
 bisect_spec 33 0 n (Nat.zero_le _) (by simp; omega)
theorem sqrt_unique {n r s : Nat} (h1 : r * r ≤ n) (h2 : n < (r + 1) * (r + 1)) (h3 : s * s ≤ n) (h4 : n < (s + 1) * (s + 1)) : r = s := by
 rcases Nat.lt_trichotomy r s with h | h | h
 ·have := Nat.mul_le_mul (show r + 1 ≤ s from h) (show r + 1 ≤ s from h); omega
 ·exact h
 ·have := Nat.mul_le_mul (show s + 1 ≤ r from h) (show s + 1 ≤ r from h); omega
theorem isqrt_of {n r : Nat} (h : n < 18446744073709551616) (h1 : r * r ≤ n) (h2 : n < (r + 1) * (r + 1)) : isqrt n = r := sqrt_unique (isqrt_spec n h).1 (isqrt_spec n h).2 h1 h2
theorem mask_i64 (x : Int) (i : Nat) (hi : i ≤ 62) : bits .and .i64 x (2 ^ i - 1) = x % 2 ^ i := by
 have hpos : 0 < 2 ^ i := Nat.two_pow_pos i
 have hc : ((2 : Int) ^ i - 1) = ((2 ^ i - 1 : Nat) : Int) := by rw [Int.natCast_sub hpos]; simp
 have hle : 2 ^ i ≤ 2 ^ 62 := Nat.pow_le_pow_right (by decide) hi
 have hm : (2 ^ i - 1) % 2 ^ 64 = 2 ^ i - 1 := Nat.mod_eq_of_lt (by omega)
 rw [hc]
 have e1 : ((x % ((2 ^ 64 : Nat) : Int)).toNat % 2 ^ i : Nat) = (x % ((2 ^ i : Nat) : Int)).toNat := by
  have hd : ((2 ^ i : Nat) : Int) ∣ ((2 ^ 64 : Nat) : Int) := Int.natCast_dvd_natCast.2 (Nat.pow_dvd_pow 2 (by omega))
  have h0 : 0 ≤ x % ((2 ^ 64 : Nat) : Int) := Int.emod_nonneg _ (by decide)
  have h1 : 0 ≤ x % ((2 ^ i : Nat) : Int) := Int.emod_nonneg _ (by omega)
  have h2 : (((x % ((2 ^ 64 : Nat) : Int)).toNat % 2 ^ i : Nat) : Int) = (((x % ((2 ^ i : Nat) : Int)).toNat : Nat) : Int) := by
   rw [Int.natCast_emod, Int.toNat_of_nonneg h0, Int.toNat_of_nonneg h1, Int.emod_emod_of_dvd _ hd]
  exact_mod_cast h2
 have hlt : (x % ((2 ^ i : Nat) : Int)).toNat < 2 ^ i := by
  have h1 : 0 ≤ x % ((2 ^ i : Nat) : Int) := Int.emod_nonneg _ (by omega)
  have h2 : x % ((2 ^ i : Nat) : Int) < ((2 ^ i : Nat) : Int) := Int.emod_lt_of_pos _ (by omega)
  omega
 have h2 : bits .and .i64 x (((2 ^ i - 1 : Nat) : Int)) = IntKind.i64.wrap (((BitVec.ofInt 64 x &&& BitVec.ofNat 64 (2 ^ i - 1)).toNat : Nat) : Int) := by
  simp only [bits, BitVec.ofInt_natCast]; rfl
 have h3 : bits .and .i64 x (((2 ^ i - 1 : Nat) : Int)) = IntKind.i64.wrap ((((x % ((2 ^ i : Nat) : Int)).toNat : Nat) : Int)) := by
  rw [h2, BitVec.toNat_and, BitVec.toNat_ofNat, BitVec.toNat_ofInt, hm, Nat.and_two_pow_sub_one_eq_mod, e1]
 rw [h3, IntKind.wrap_i64]
 have h1 : 0 ≤ x % ((2 ^ i : Nat) : Int) := Int.emod_nonneg _ (by omega)
 have h5 : ((2 ^ i : Nat) : Int) = (2 : Int) ^ i := by simp
 rw [h5] at h1 hlt ⊢
 have h6 : (((x % (2 : Int) ^ i).toNat : Nat) : Int) = x % (2 : Int) ^ i := Int.toNat_of_nonneg h1
 rw [h6]
 have h7 : x % (2 : Int) ^ i < 4611686018427387904 := by
  have : (((x % (2 : Int) ^ i).toNat : Nat) : Int) < ((2 ^ i : Nat) : Int) := by exact_mod_cast hlt
  omega
 omega
end
section
theorem fwithin_any (a b c : Int) (w : World) : Calls Tryz.prog 312 #[.int .i64 a, .int .i64 b, .int .i64 c] w fun e w' => e = .returned (.int .i64 (max b (min a c))) ∧ w = w' := by
 go_enter Tryz.func312, Tryz.ntmps312
 go_wp2
 all_goals
  go_ret
  exact ⟨ret_int (by omega), rfl⟩
theorem sat_low (n : Int) : -2147483648 ≤ sat n ∧ sat n ≤ 2147483647 := sat_bd n
theorem fSat_any (n : Int) (w : World) : Calls Tryz.prog 290 #[.int .i64 n] w fun e w' => e = .returned (.int .i32 (sat n)) ∧ w = w' := by
 have hb := sat_low n
 have hs : max (-2147483648) (min n 2147483647) = sat n := rfl
 have HS := zz hs
 have hw : IntKind.i32.wrap (sat n) = sat n := by rw [IntKind.wrap_i32]; omega
 clear hs
 go_enter Tryz.func290, Tryz.ntmps290
 go_wp2_with fail
 refine (fwithin_any _ _ _ _).mono ?_
 rw [HS.out]
 rintro e w1 ⟨rfl, rfl⟩
 go_wp2
 go_ret
 exact ⟨rfl, rfl⟩
theorem r01Sat_any (n : Int) (w : World) : Calls Tryz.prog 262 #[.int .i64 n] w fun e w' => e = .returned (.int .i32 (sat n)) ∧ w = w' := by
 by_cases h1 : 2147483647 < n
 ·have hs : sat n = 2147483647 := by unfold sat; omega
  rw [hs]; clear hs
  go_enter Tryz.func262, Tryz.ntmps262
  go_wp2
  go_ret
  exact ⟨rfl, rfl⟩
 ·by_cases h2 : n < -2147483648
  ·have hs : sat n = -2147483648 := by unfold sat; omega
   rw [hs]; clear hs
   go_enter Tryz.func262, Tryz.ntmps262
   go_wp2
   go_ret
   exact ⟨rfl, rfl⟩
  ·have hs : sat n = n := by unfold sat; omega
   rw [hs]; clear hs
   have g1 : n ≤ 2147483647 := by omega
   have g2 : -2147483648 ≤ n := by omega
   clear h1 h2
   go_enter Tryz.func262, Tryz.ntmps262
   go_wp2
   go_ret
   exact ⟨rfl, rfl⟩
section
variable {a b : Int} (ha : F32 a) (hb : F32 b) (w : World)
include ha hb
theorem fAdd_any : Calls Tryz.prog 245 #[.int .i32 a, .int .i32 b] w fun e w' => e = .returned (.int .i32 (sat (a + b))) ∧ w = w' := by
 obtain ⟨a1, a2⟩ := ha
 obtain ⟨b1, b2⟩ := hb
 go_enter Tryz.func245, Tryz.ntmps245
 go_wp2_with fail
 refine (fSat_any _ _).mono ?_
 rintro e w1 ⟨rfl, rfl⟩
 go_wp2
 go_ret
 exact ⟨rfl, rfl⟩
theorem fSub_any : Calls Tryz.prog 288 #[.int .i32 a, .int .i32 b] w fun e w' => e = .returned (.int .i32 (sat (a - b))) ∧ w = w' := by
 obtain ⟨a1, a2⟩ := ha
 obtain ⟨b1, b2⟩ := hb
 go_enter Tryz.func288, Tryz.ntmps288
 go_wp2_with fail
 refine (fSat_any _ _).mono ?_
 rintro e w1 ⟨rfl, rfl⟩
 go_wp2
 go_ret
 exact ⟨rfl, rfl⟩
theorem r10Add_any : Calls Tryz.prog 218 #[.int .i32 a, .int .i32 b] w fun e w' => e = .returned (.int .i32 (sat (a + b))) ∧ w = w' := by
 obtain ⟨a1, a2⟩ := ha
 obtain ⟨b1, b2⟩ := hb
 go_enter Tryz.func218, Tryz.ntmps218
 go_wp2_with fail
 refine (r01Sat_any _ _).mono ?_
 rintro e w1 ⟨rfl, rfl⟩
 go_wp2
 go_ret
 exact ⟨rfl, rfl⟩
theorem r10Sub_any : Calls Tryz.prog 261 #[.int .i32 a, .int .i32 b] w fun e w' => e = .returned (.int .i32 (sat (a - b))) ∧ w = w' := by
 obtain ⟨a1, a2⟩ := ha
 obtain ⟨b1, b2⟩ := hb
 go_enter Tryz.func261, Tryz.ntmps261
 go_wp2_with fail
 refine (r01Sat_any _ _).mono ?_
 rintro e w1 ⟨rfl, rfl⟩
 go_wp2
 go_ret
 exact ⟨rfl, rfl⟩
theorem fMul_any : Calls Tryz.prog 281 #[.int .i32 a, .int .i32 b] w fun e w' => e = .returned (.int .i32 (fmul a b)) ∧ w = w' := by
 have hm := mul_f32 ha hb
 obtain ⟨a1, a2⟩ := ha
 obtain ⟨b1, b2⟩ := hb
 have hf : sat (a * b / 65536) = fmul a b := rfl
 have HF := zz hf
 have hwr : IntKind.i64.wrap (a * b) = a * b := by rw [IntKind.wrap_i64]; omega
 clear hf
 go_enter Tryz.func281, Tryz.ntmps281
 go_wp2_with fail
 refine (fSat_any _ _).mono ?_
 rintro e w1 ⟨rfl, rfl⟩
 rw [HF.out]
 go_wp2
 go_ret
 exact ⟨rfl, rfl⟩
end
section
theorem floor_any (a b : Int) (hb : 0 < b) (hb2 : b ≤ 4611686018427387904) (ha : -4611686018427387904 ≤ a ∧ a ≤ 4611686018427387904) (w : World) :
  Calls Tryz.prog 221 #[.int .i64 a, .int .i64 b] w fun e w' => e = .returned (.int .i64 (a / b)) ∧ w = w' := by
 obtain ⟨a1, a2⟩ := ha
 have hd := Int.mul_ediv_add_emod a b
 have h1 := Int.emod_nonneg a (by omega : b ≠ 0)
 have h2 := Int.emod_lt_of_pos a hb
 have hq : b ∣ (a - a % b) := ⟨a / b, by omega⟩
 have e1 : (a - a % b).tdiv b = a / b := by
  rw [Int.tdiv_eq_ediv_of_dvd hq]
  have : a - a % b = b * (a / b) := by omega
  rw [this, Int.mul_ediv_cancel_left _ (by omega)]
 rcases Int.lt_or_le a 0 with h0 | h0
 ·have e3 := neg_tmod' a b
  have e4 : (-a).tmod b = (-a) % b := Int.tmod_eq_emod_of_nonneg (by omega)
  have e5 := Int.emod_nonneg (-a) (by omega : b ≠ 0)
  have e6 := Int.emod_lt_of_pos (-a) hb
  have hr := Int.mul_ediv_add_emod (-a) b
  by_cases hm : a.tmod b < 0
  ·have hm2 : a.tmod b + b = a % b := by
    have e7 : a % b = (b - (-a) % b) % b := by
     have : a = (b - (-a) % b) + b * (-((-a) / b) - 1) := by rw [Int.mul_sub, Int.mul_neg]; omega
     calc a % b = ((b - (-a) % b) + b * (-((-a) / b) - 1)) % b := by rw [← this]
      _ = _ := by rw [Int.add_mul_emod_self_left]
    rw [e7, Int.emod_eq_of_lt (by omega) (by omega)]; omega
   have HM2 := zz hm2
   have HE1 := zz e1
   have b2 : -4611686018427387904 ≤ a.tmod b := by omega
   clear hm2 e1 e3 e4 e5 e6 hr hq hd
   go_enter Tryz.func221, Tryz.ntmps221
   go_wp2
   go_ret
   exact ⟨ret_int (by rw [HM2.out, HE1.out]), rfl⟩
  ·have hz : (-a) % b = 0 := by omega
   have hz2 : a % b = 0 := Int.emod_eq_zero_of_dvd (by have := Int.dvd_of_emod_eq_zero hz; exact (Int.dvd_neg.1 this))
   rw [hz2, Int.sub_zero] at e1
   have hz3 : a.tmod b = 0 := by omega
   have HE1 := zz e1
   have HZ := zz hz3
   have b2 : 0 ≤ a.tmod b := by omega
   have b3 : a.tmod b ≤ 0 := by omega
   clear hm e1 e3 e4 e5 e6 hr hq hd hz hz2 hz3
   go_enter Tryz.func221, Tryz.ntmps221
   go_wp2
   go_ret
   exact ⟨ret_int (by rw [HZ.out, Int.sub_zero, HE1.out]), rfl⟩
 ·have e9 : (a - a % b) / b = a / b := by rw [← e1, Int.tdiv_eq_ediv_of_dvd hq]
  have HE1 := zz e9
  have h5 : a % b ≤ a := by
   have : 0 ≤ a / b := Int.ediv_nonneg h0 (by omega)
   have : 0 ≤ b * (a / b) := Int.mul_nonneg (by omega) this
   omega
  have h6 : 0 ≤ a - a % b := by omega
  clear e1 hq hd e9
  go_enter Tryz.func221, Tryz.ntmps221
  go_wp2
  go_ret
  exact ⟨ret_int (by rw [HE1.out]), rfl⟩
theorem between_any (n a b : Int) (w : World) : Calls Tryz.prog 220 #[.int .i64 n, .int .i64 a, .int .i64 b] w fun e w' => e = .returned (.int .i64 (if n < a then a else if b < n then b else n)) ∧ w = w' := by
 by_cases h1 : n < a
 ·rw [if_pos h1]
  go_enter Tryz.func220, Tryz.ntmps220
  go_wp2
  go_ret
  exact ⟨rfl, rfl⟩
 ·rw [if_neg h1]
  have g1 : a ≤ n := by omega
  clear h1
  by_cases h2 : b < n
  ·rw [if_pos h2]
   go_enter Tryz.func220, Tryz.ntmps220
   go_wp2
   go_ret
   exact ⟨rfl, rfl⟩
  ·rw [if_neg h2]
   have g2 : n ≤ b := by omega
   clear h2
   go_enter Tryz.func220, Tryz.ntmps220
   go_wp2
   go_ret
   exact ⟨rfl, rfl⟩
end
section
variable {a b : Int} (ha : F32 a) (hb : F32 b) (w : World)
include ha hb
theorem r01Mul_any : Calls Tryz.prog 256 #[.int .i32 a, .int .i32 b] w fun e w' => e = .returned (.int .i32 (fmul a b)) ∧ w = w' := by
 have hm := mul_f32 ha hb
 obtain ⟨a1, a2⟩ := ha
 obtain ⟨b1, b2⟩ := hb
 have hf : sat (a * b / 65536) = fmul a b := rfl
 have HF := zz hf
 have hwr : IntKind.i64.wrap (a * b) = a * b := by rw [IntKind.wrap_i64]; omega
 have HM := zz hm
 clear hf hm
 go_enter Tryz.func256, Tryz.ntmps256
 go_wp2_with fail
 refine (floor_any _ _ (by decide) (by decide) HM.out _).mono ?_
 rintro e w1 ⟨rfl, rfl⟩
 go_wp2_with fail
 refine (r01Sat_any _ _).mono ?_
 rintro e w1 ⟨rfl, rfl⟩
 rw [HF.out]
 go_wp2
 go_ret
 exact ⟨rfl, rfl⟩
end
section
variable {a : Int} (ha : F32 a) (w : World)
include ha
theorem fNeg_any : Calls Tryz.prog 309 #[.int .i32 a] w fun e w' => e = .returned (.int .i32 (sat (-a))) ∧ w = w' := by
 have h0 : F32 0 := by unfold F32; omega
 have HA := zz ha
 have H0 := zz h0
 clear ha h0
 go_enter Tryz.func309, Tryz.ntmps309
 go_wp2_with fail
 refine (fSub_any H0.out HA.out _).mono ?_
 rintro e w1 ⟨rfl, rfl⟩
 rw [Int.zero_sub]
 go_wp2
 go_ret
 exact ⟨rfl, rfl⟩
end
theorem fdown_any (a b : Int) (hb : b ≠ 0) (ha : -4611686018427387904 ≤ a ∧ a ≤ 4611686018427387904) (hb2 : F32 b) (w : World) :
  Calls Tryz.prog 322 #[.int .i64 a, .int .i64 b] w fun e w' => e = .returned (.int .i64 (fdown a b)) ∧ w = w' := by
 have hs := tdiv_signs a b hb
 obtain ⟨a1, a2⟩ := ha
 obtain ⟨b1, b2⟩ := hb2
 have hb0 : (b == 0) = false := by simpa using hb
 have hbd : -4611686018427387904 ≤ a.tdiv b ∧ a.tdiv b ≤ 4611686018427387904 := by
  have h1 := Int.natAbs_tdiv a b
  have h2 : a.natAbs.div b.natAbs ≤ a.natAbs := Nat.div_le_self _ _
  rw [← h1] at h2
  omega
 obtain ⟨c1, c2⟩ := hbd
 obtain ⟨r, hr⟩ : ∃ r, fdown a b = r := ⟨_, rfl⟩
 rw [hr] at hs ⊢
 have HS := zz hs
 clear hs hr
 by_cases hm : a.tmod b = 0
 ·have hm0 : (a.tmod b != 0) = false := by simpa using hm
  have HM := zz hm
  clear hm
  go_enter Tryz.func322, Tryz.ntmps322
  go_wp2
  go_ret
  exact ⟨ret_int (by rw [HS.out, if_neg (by rw [HM.out]; simp)]), rfl⟩
 ·have hm0 : (a.tmod b != 0) = true := by simpa using hm
  have HM := zz hm
  clear hm
  rcases Int.lt_or_le a 0 with h1 | h1
  ·have d1 : decide (a < 0) = true := by simpa using h1
   rcases Int.lt_or_le b 0 with h2 | h2
   ·have d2 : decide (b < 0) = true := by simpa using h2
    go_enter Tryz.func322, Tryz.ntmps322
    go_wp2
    go_ret
    exact ⟨ret_int (by rw [HS.out, if_neg (by simp [d1, d2])]), rfl⟩
   ·have d2 : decide (b < 0) = false := by simpa using h2
    go_enter Tryz.func322, Tryz.ntmps322
    go_wp2
    go_ret
    exact ⟨ret_int (by rw [HS.out, if_pos ⟨HM.out, by simp [d1, d2]⟩]), rfl⟩
  ·have d1 : decide (a < 0) = false := by simpa using h1
   rcases Int.lt_or_le b 0 with h2 | h2
   ·have d2 : decide (b < 0) = true := by simpa using h2
    have e1 : a.tmod b = a % b := Int.tmod_eq_emod_of_nonneg h1
    rw [e1] at HM hm0 HS
    clear e1
    go_enter Tryz.func322, Tryz.ntmps322
    go_wp2
    go_ret
    exact ⟨ret_int (by rw [HS.out, if_pos ⟨HM.out, by simp [d1, d2]⟩]), rfl⟩
   ·have d2 : decide (b < 0) = false := by simpa using h2
    have e1 : a.tmod b = a % b := Int.tmod_eq_emod_of_nonneg h1
    have e2 : a.tdiv b = a / b := Int.tdiv_eq_ediv_of_nonneg h1
    rw [e1] at HM hm0 HS
    rw [e2] at c1 c2 HS
    clear e1 e2
    go_enter Tryz.func322, Tryz.ntmps322
    go_wp2
    go_ret
    exact ⟨ret_int (by rw [HS.out, if_neg (by simp [d1, d2])]), rfl⟩
theorem fdown_neg (a b : Int) (hb : b < 0) : (-a) / (-b) = fdown a b := by unfold fdown; rw [if_pos hb]
theorem fdown_pos' (a b : Int) (hb : ¬ b < 0) : a / b = fdown a b := by unfold fdown; rw [if_neg hb]
section
variable {a b : Int} (ha : F32 a) (hb : F32 b) (w : World)
include ha hb
theorem fDiv_any : Calls Tryz.prog 318 #[.int .i32 a, .int .i32 b] w fun e w' => e = .returned (.int .i32 (fdiv a b)) ∧ w = w' := by
 have HB := zz hb
 obtain ⟨a1, a2⟩ := ha
 obtain ⟨b1, b2⟩ := hb
 by_cases h0 : b = 0
 ·subst h0
  clear b1 b2
  rcases Int.lt_trichotomy a 0 with h | h | h
  ·have e : fdiv a 0 = -2147483648 := by unfold fdiv; rw [if_pos rfl, if_neg (by omega), if_pos h]
   rw [e]; clear e
   go_enter Tryz.func318, Tryz.ntmps318
   go_wp2
   go_ret
   exact ⟨rfl, rfl⟩
  ·subst h
   have e : fdiv 0 0 = 0 := rfl
   rw [e]; clear e
   go_enter Tryz.func318, Tryz.ntmps318
   go_wp2
   go_ret
   exact ⟨rfl, rfl⟩
  ·have e : fdiv a 0 = 2147483647 := by unfold fdiv; rw [if_pos rfl, if_pos h]
   rw [e]; clear e
   go_enter Tryz.func318, Tryz.ntmps318
   go_wp2
   go_ret
   exact ⟨rfl, rfl⟩
 ·have e : fdiv a b = sat (fdown (a * 65536) b) := by unfold fdiv; rw [if_neg h0]
  have HE := zz e
  have hb0 : (b != 0) = true := by simpa using h0
  have H0 := zz h0
  rw [e]
  clear e h0
  go_enter Tryz.func318, Tryz.ntmps318
  go_wp2_with fail
  refine (fdown_any _ _ H0.out (by omega) HB.out _).mono ?_
  rintro e w1 ⟨rfl, rfl⟩
  go_wp2_with fail
  refine (fSat_any _ _).mono ?_
  rintro e w1 ⟨rfl, rfl⟩
  go_wp2
  go_ret
  exact ⟨rfl, rfl⟩
theorem r01Div_any : Calls Tryz.prog 298 #[.int .i32 a, .int .i32 b] w fun e w' => e = .returned (.int .i32 (fdiv a b)) ∧ w = w' := by
 obtain ⟨a1, a2⟩ := ha
 obtain ⟨b1, b2⟩ := hb
 by_cases h0 : b = 0
 ·subst h0
  clear b1 b2
  rcases Int.lt_trichotomy a 0 with h | h | h
  ·have e : fdiv a 0 = -2147483648 := by unfold fdiv; rw [if_pos rfl, if_neg (by omega), if_pos h]
   rw [e]; clear e
   go_enter Tryz.func298, Tryz.ntmps298
   go_wp2
   go_ret
   exact ⟨rfl, rfl⟩
  ·subst h
   have e : fdiv 0 0 = 0 := rfl
   rw [e]; clear e
   go_enter Tryz.func298, Tryz.ntmps298
   go_wp2
   go_ret
   exact ⟨rfl, rfl⟩
  ·have e : fdiv a 0 = 2147483647 := by unfold fdiv; rw [if_pos rfl, if_pos h]
   rw [e]; clear e
   go_enter Tryz.func298, Tryz.ntmps298
   go_wp2
   go_ret
   exact ⟨rfl, rfl⟩
 ·have e : fdiv a b = sat (fdown (a * 65536) b) := by unfold fdiv; rw [if_neg h0]
  have hb0 : (b == 0) = false := by simpa using h0
  by_cases h1 : b < 0
  ·have e2 : (-a * 65536) / (-b) = fdown (a * 65536) b := by rw [← fdown_neg _ _ h1, Int.neg_mul]
   obtain ⟨q, hq⟩ : ∃ q, fdown (a * 65536) b = q := ⟨_, rfl⟩
   rw [e, hq]
   rw [hq] at e2
   have E2 := zz e2
   clear e e2 h0 hq
   go_enter Tryz.func298, Tryz.ntmps298
   go_wp2_with fail
   refine (floor_any _ _ (by omega) (by omega) (by omega) _).mono ?_
   rw [E2.out]
   rintro e w1 ⟨rfl, rfl⟩
   go_wp2_with fail
   refine (r01Sat_any _ _).mono ?_
   rintro e w1 ⟨rfl, rfl⟩
   go_wp2
   go_ret
   exact ⟨rfl, rfl⟩
  ·have e2 : (a * 65536) / b = fdown (a * 65536) b := fdown_pos' _ _ h1
   rw [e, ← e2]
   have h2 : 0 < b := by omega
   clear e e2 h0 h1
   go_enter Tryz.func298, Tryz.ntmps298
   go_wp2_with fail
   refine (floor_any _ _ (by omega) (by omega) (by omega) _).mono ?_
   rintro e w1 ⟨rfl, rfl⟩
   go_wp2_with fail
   refine (r01Sat_any _ _).mono ?_
   rintro e w1 ⟨rfl, rfl⟩
   go_wp2
   go_ret
   exact ⟨rfl, rfl⟩
end
end
end Go.Proofs.YtibeihcpehikoaaGreat
