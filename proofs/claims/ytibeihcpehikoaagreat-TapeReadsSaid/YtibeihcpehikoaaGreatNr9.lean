/-
  The walks beneath: FixP, Fix.
-/
import Derived.Laws.BitsLemmas
import Derived.Test.YtibeihcpehikoaaGreatNr1
import Derived.Test.YtibeihcpehikoaaGreatRows
namespace Go.Proofs.YtibeihcpehikoaaGreat
section
open Go.RowKit

def F32 (n : Int) : Prop := -2147483648 ≤ n ∧ n ≤ 2147483647
def sat (n : Int) : Int := max (-2147483648) (min n 2147483647)
theorem sat_bd (n : Int) : F32 (sat n) := by unfold sat F32; omega
theorem sat_id {n : Int} (h : F32 n) : sat n = n := by unfold sat; unfold F32 at h; omega
theorem mul_bd {a b A B : Int} (ha : -A ≤ a ∧ a ≤ A) (hb : -B ≤ b ∧ b ≤ B) : -(A * B) ≤ a * b ∧ a * b ≤ A * B := by
  have hA : 0 ≤ A := by omega
  have hB : 0 ≤ B := by omega
  have h1 : a.natAbs ≤ A.natAbs := by omega
  have h2 : b.natAbs ≤ B.natAbs := by omega
  have h3 := Nat.mul_le_mul h1 h2
  rw [← Int.natAbs_mul, ← Int.natAbs_mul] at h3
  have h4 : 0 ≤ A * B := Int.mul_nonneg hA hB
  omega
theorem mul_f32 {a b : Int} (ha : F32 a) (hb : F32 b) : -4611686018427387904 ≤ a * b ∧ a * b ≤ 4611686018427387904 := by
  unfold F32 at ha hb
  have := mul_bd (a := a) (b := b) (A := 2147483648) (B := 2147483648) (by omega) (by omega)
  omega
def fmul (a b : Int) : Int := sat (a * b / 65536)
/-- Divided, down. -/
def fdown (a b : Int) : Int := if b < 0 then (-a) / (-b) else a / b
def fdiv (a b : Int) : Int := if b = 0 then (if 0 < a then 2147483647 else if a < 0 then -2147483648 else 0) else sat (fdown (a * 65536) b)
theorem fmul_bd (a b : Int) : F32 (fmul a b) := sat_bd _
theorem fdiv_bd (a b : Int) : F32 (fdiv a b) := by
  unfold fdiv
  split
  · unfold F32; split
    · omega
    · split <;> omega
  · exact sat_bd _
theorem ediv_neg_num {a b : Int} (hb : 0 < b) : (-a) / b = if a % b = 0 then -(a / b) else -(a / b) - 1 := by
  have h1 := Int.mul_ediv_add_emod a b
  have h2 := Int.emod_nonneg a (by omega : b ≠ 0)
  have h3 := Int.emod_lt_of_pos a hb
  split
  · rename_i h0
    have : -a = b * (-(a / b)) := by rw [Int.mul_neg]; omega
    rw [this, Int.mul_ediv_cancel_left _ (by omega)]
  · rename_i h0
    have : -a = (b - a % b) + b * (-(a / b) - 1) := by rw [Int.mul_sub, Int.mul_neg]; omega
    rw [this, Int.add_mul_ediv_left _ _ (by omega), Int.ediv_eq_zero_of_lt (by omega) (by omega)]
    omega
/-- The quotient and the remainder of Go, as the plain ones of sizes. -/
theorem tdiv_signs (a b : Int) (hb : b ≠ 0) : fdown a b = if a.tmod b ≠ 0 ∧ (decide (a < 0) != decide (b < 0)) = true then a.tdiv b - 1 else a.tdiv b := by
  unfold fdown
  rcases Int.lt_or_gt_of_ne hb with hb | hb
  · rw [if_pos hb]
    obtain ⟨c, rfl⟩ : ∃ c, b = -c := ⟨-b, by omega⟩
    rw [Int.tdiv_neg, Int.tmod_neg, Int.neg_neg]
    rcases Int.lt_or_le a 0 with ha | ha
    · obtain ⟨d, rfl⟩ : ∃ d, a = -d := ⟨-a, by omega⟩
      have e : (decide (-d < 0) != decide (-c < 0)) = false := by simp; omega
      rw [e, if_neg (by simp), Int.neg_tdiv, Int.neg_neg, Int.neg_neg, Int.tdiv_eq_ediv_of_nonneg (by omega)]
    · rcases Int.lt_or_eq_of_le ha with ha | rfl
      · have e : (decide (a < 0) != decide (-c < 0)) = true := by simp; omega
        rw [e, ediv_neg_num (by omega), Int.tdiv_eq_ediv_of_nonneg (by omega), Int.tmod_eq_emod_of_nonneg (by omega)]
        by_cases h0 : a % c = 0
        · rw [if_pos h0, if_neg (by simp [h0])]
        · rw [if_neg h0, if_pos ⟨h0, rfl⟩]
      · simp
  · rw [if_neg (by omega)]
    rcases Int.lt_or_le a 0 with ha | ha
    · obtain ⟨d, rfl⟩ : ∃ d, a = -d := ⟨-a, by omega⟩
      have e : (decide (-d < 0) != decide (b < 0)) = true := by simp; omega
      rw [e, ediv_neg_num hb, Int.neg_tdiv, Int.neg_tmod, Int.tdiv_eq_ediv_of_nonneg (by omega), Int.tmod_eq_emod_of_nonneg (by omega)]
      by_cases h0 : d % b = 0
      · rw [if_pos h0, if_neg (by simp [h0])]
      · rw [if_neg h0, if_pos ⟨by omega, rfl⟩]
    · have e : (decide (a < 0) != decide (b < 0)) = false := by simp; omega
      rw [e, if_neg (by simp), Int.tdiv_eq_ediv_of_nonneg ha]

def bisect : Nat → Nat → Nat → Nat
  | 0, lo, _ => lo
  | k + 1, lo, n => if (lo + 2 ^ k) * (lo + 2 ^ k) ≤ n then bisect k (lo + 2 ^ k) n else bisect k lo n
theorem bisect_spec : ∀ (k lo n : Nat), lo * lo ≤ n → n < (lo + 2 ^ k) * (lo + 2 ^ k) → bisect k lo n * bisect k lo n ≤ n ∧ n < (bisect k lo n + 1) * (bisect k lo n + 1)
  | 0, lo, n, h1, h2 => by simpa [bisect] using ⟨h1, h2⟩
  | k + 1, lo, n, h1, h2 => by
    unfold bisect
    split
    · exact bisect_spec k _ n ‹_› (by rw [Nat.pow_succ] at h2; rw [Nat.add_assoc]; have : 2 ^ k + 2 ^ k = 2 ^ k * 2 := by omega
                                      rw [this]; exact h2)
    · exact bisect_spec k lo n h1 (by omega)
def isqrt (n : Nat) : Nat := bisect 33 0 n
theorem isqrt_spec (n : Nat) (h : n < 18446744073709551616) : isqrt n * isqrt n ≤ n ∧ n < (isqrt n + 1) * (isqrt n + 1) :=
  bisect_spec 33 0 n (Nat.zero_le _) (by simp; omega)
theorem sqrt_unique {n r s : Nat} (h1 : r * r ≤ n) (h2 : n < (r + 1) * (r + 1)) (h3 : s * s ≤ n) (h4 : n < (s + 1) * (s + 1)) : r = s := by
  rcases Nat.lt_trichotomy r s with h | h | h
  · have := Nat.mul_le_mul (show r + 1 ≤ s from h) (show r + 1 ≤ s from h); omega
  · exact h
  · have := Nat.mul_le_mul (show s + 1 ≤ r from h) (show s + 1 ≤ r from h); omega
theorem isqrt_of {n r : Nat} (h : n < 18446744073709551616) (h1 : r * r ≤ n) (h2 : n < (r + 1) * (r + 1)) : isqrt n = r := sqrt_unique (isqrt_spec n h).1 (isqrt_spec n h).2 h1 h2

/-- A mask of low bits. -/
theorem mask_i64 (x : Int) (i : Nat) (hi : i ≤ 62) : bits .and .i64 x (2 ^ i - 1) = x % 2 ^ i := by
  have hpos : 0 < 2 ^ i := Nat.two_pow_pos i
  have hc : ((2 : Int) ^ i - 1) = ((2 ^ i - 1 : Nat) : Int) := by rw [Int.natCast_sub hpos]; simp
  have hle : 2 ^ i ≤ 2 ^ 62 := Nat.pow_le_pow_right (by decide) hi
  have hm : (2 ^ i - 1) % 2 ^ 64 = 2 ^ i - 1 := Nat.mod_eq_of_lt (by omega)
  rw [hc]
  have e1 : ((x % ((2 ^ 64 : Nat) : Int)).toNat % 2 ^ i : Nat) = (x % ((2 ^ i : Nat) : Int)).toNat := by
    have hd : ((2 ^ i : Nat) : Int) ∣ ((2 ^ 64 : Nat) : Int) := Int.natCast_dvd_natCast.2 (Nat.pow_dvd_pow 2 (by omega))
    have h0 : 0 ≤ x % ((2 ^ 64 : Nat) : Int) := Int.emod_nonneg _ (by decide)
    have h1 : 0 ≤ x % ((2 ^ i : Nat) : Int) := Int.emod_nonneg _ (by omega)
    have h2 : (((x % ((2 ^ 64 : Nat) : Int)).toNat % 2 ^ i : Nat) : Int) = (((x % ((2 ^ i : Nat) : Int)).toNat : Nat) : Int) := by
      rw [Int.natCast_emod, Int.toNat_of_nonneg h0, Int.toNat_of_nonneg h1, Int.emod_emod_of_dvd _ hd]
    exact_mod_cast h2
  have hlt : (x % ((2 ^ i : Nat) : Int)).toNat < 2 ^ i := by
    have h1 : 0 ≤ x % ((2 ^ i : Nat) : Int) := Int.emod_nonneg _ (by omega)
    have h2 : x % ((2 ^ i : Nat) : Int) < ((2 ^ i : Nat) : Int) := Int.emod_lt_of_pos _ (by omega)
    omega
  have h2 : bits .and .i64 x (((2 ^ i - 1 : Nat) : Int)) = IntKind.i64.wrap (((BitVec.ofInt 64 x &&& BitVec.ofNat 64 (2 ^ i - 1)).toNat : Nat) : Int) := by
    simp only [bits, BitVec.ofInt_natCast]; rfl
  have h3 : bits .and .i64 x (((2 ^ i - 1 : Nat) : Int)) = IntKind.i64.wrap ((((x % ((2 ^ i : Nat) : Int)).toNat : Nat) : Int)) := by
    rw [h2, BitVec.toNat_and, BitVec.toNat_ofNat, BitVec.toNat_ofInt, hm, Nat.and_two_pow_sub_one_eq_mod, e1]
  rw [h3, IntKind.wrap_i64]
  have h1 : 0 ≤ x % ((2 ^ i : Nat) : Int) := Int.emod_nonneg _ (by omega)
  have h5 : ((2 ^ i : Nat) : Int) = (2 : Int) ^ i := by simp
  rw [h5] at h1 hlt ⊢
  have h6 : (((x % (2 : Int) ^ i).toNat : Nat) : Int) = x % (2 : Int) ^ i := Int.toNat_of_nonneg h1
  rw [h6]
  have h7 : x % (2 : Int) ^ i < 4611686018427387904 := by
    have : (((x % (2 : Int) ^ i).toNat : Nat) : Int) < ((2 ^ i : Nat) : Int) := by exact_mod_cast hlt
    omega
  omega
end
section
open Go.RowKit
set_option maxRecDepth 100000

set_option maxHeartbeats 400000 in
theorem fwithin_any (a b c : Int) (w : World) : Calls Tryz.prog 312 #[.int .i64 a, .int .i64 b, .int .i64 c] w fun e w' => e = .returned (.int .i64 (max b (min a c))) ∧ w = w' := by
  go_enter Tryz.func312, Tryz.ntmps312
  go_wp2
  all_goals
    go_ret
    exact ⟨ret_int (by omega), rfl⟩
theorem sat_low (n : Int) : -2147483648 ≤ sat n ∧ sat n ≤ 2147483647 := sat_bd n
set_option maxHeartbeats 400000 in
theorem fSat_any (n : Int) (w : World) : Calls Tryz.prog 290 #[.int .i64 n] w fun e w' => e = .returned (.int .i32 (sat n)) ∧ w = w' := by
  have hb := sat_low n
  have hs : max (-2147483648) (min n 2147483647) = sat n := rfl
  have HS := Lib.hid hs
  have hw : IntKind.i32.wrap (sat n) = sat n := by rw [IntKind.wrap_i32]; omega
  clear hs
  go_enter Tryz.func290, Tryz.ntmps290
  go_wp2_with fail
  refine (fwithin_any _ _ _ _).mono ?_
  rw [HS.out]
  rintro e w1 ⟨rfl, rfl⟩
  go_wp2
  go_ret
  exact ⟨rfl, rfl⟩
section
variable {a b : Int} (ha : F32 a) (hb : F32 b) (w : World)
include ha hb
set_option maxHeartbeats 400000 in
theorem fAdd_any : Calls Tryz.prog 245 #[.int .i32 a, .int .i32 b] w fun e w' => e = .returned (.int .i32 (sat (a + b))) ∧ w = w' := by
  obtain ⟨a1, a2⟩ := ha
  obtain ⟨b1, b2⟩ := hb
  go_enter Tryz.func245, Tryz.ntmps245
  go_wp2_with fail
  refine (fSat_any _ _).mono ?_
  rintro e w1 ⟨rfl, rfl⟩
  go_wp2
  go_ret
  exact ⟨rfl, rfl⟩
set_option maxHeartbeats 400000 in
theorem fSub_any : Calls Tryz.prog 288 #[.int .i32 a, .int .i32 b] w fun e w' => e = .returned (.int .i32 (sat (a - b))) ∧ w = w' := by
  obtain ⟨a1, a2⟩ := ha
  obtain ⟨b1, b2⟩ := hb
  go_enter Tryz.func288, Tryz.ntmps288
  go_wp2_with fail
  refine (fSat_any _ _).mono ?_
  rintro e w1 ⟨rfl, rfl⟩
  go_wp2
  go_ret
  exact ⟨rfl, rfl⟩
set_option maxHeartbeats 400000 in
theorem fMul_any : Calls Tryz.prog 281 #[.int .i32 a, .int .i32 b] w fun e w' => e = .returned (.int .i32 (fmul a b)) ∧ w = w' := by
  have hm := mul_f32 ha hb
  obtain ⟨a1, a2⟩ := ha
  obtain ⟨b1, b2⟩ := hb
  have hf : sat (a * b / 65536) = fmul a b := rfl
  have HF := Lib.hid hf
  have hwr : IntKind.i64.wrap (a * b) = a * b := by rw [IntKind.wrap_i64]; omega
  clear hf
  go_enter Tryz.func281, Tryz.ntmps281
  go_wp2_with fail
  refine (fSat_any _ _).mono ?_
  rintro e w1 ⟨rfl, rfl⟩
  rw [HF.out]
  go_wp2
  go_ret
  exact ⟨rfl, rfl⟩
end
section
variable {a b : Int} (ha : F32 a) (hb : F32 b) (w : World)
include ha hb
end
section
variable {a : Int} (ha : F32 a) (w : World)
include ha
set_option maxHeartbeats 400000 in
theorem fNeg_any : Calls Tryz.prog 309 #[.int .i32 a] w fun e w' => e = .returned (.int .i32 (sat (-a))) ∧ w = w' := by
  have h0 : F32 0 := by unfold F32; omega
  have HA := Lib.hid ha
  have H0 := Lib.hid h0
  clear ha h0
  go_enter Tryz.func309, Tryz.ntmps309
  go_wp2_with fail
  refine (fSub_any H0.out HA.out _).mono ?_
  rintro e w1 ⟨rfl, rfl⟩
  rw [Int.zero_sub]
  go_wp2
  go_ret
  exact ⟨rfl, rfl⟩
end

set_option maxHeartbeats 400000 in
theorem fdown_any (a b : Int) (hb : b ≠ 0) (ha : -4611686018427387904 ≤ a ∧ a ≤ 4611686018427387904) (hb2 : F32 b) (w : World) :
    Calls Tryz.prog 322 #[.int .i64 a, .int .i64 b] w fun e w' => e = .returned (.int .i64 (fdown a b)) ∧ w = w' := by
  have hs := tdiv_signs a b hb
  obtain ⟨a1, a2⟩ := ha
  obtain ⟨b1, b2⟩ := hb2
  have hb0 : (b == 0) = false := by simpa using hb
  have hbd : -4611686018427387904 ≤ a.tdiv b ∧ a.tdiv b ≤ 4611686018427387904 := by
    have h1 := Int.natAbs_tdiv a b
    have h2 : a.natAbs.div b.natAbs ≤ a.natAbs := Nat.div_le_self _ _
    rw [← h1] at h2
    omega
  obtain ⟨c1, c2⟩ := hbd
  obtain ⟨r, hr⟩ : ∃ r, fdown a b = r := ⟨_, rfl⟩
  rw [hr] at hs ⊢
  have HS := Lib.hid hs
  clear hs hr
  by_cases hm : a.tmod b = 0
  · have hm0 : (a.tmod b != 0) = false := by simpa using hm
    have HM := Lib.hid hm
    clear hm
    go_enter Tryz.func322, Tryz.ntmps322
    go_wp2
    go_ret
    exact ⟨ret_int (by rw [HS.out, if_neg (by rw [HM.out]; simp)]), rfl⟩
  · have hm0 : (a.tmod b != 0) = true := by simpa using hm
    have HM := Lib.hid hm
    clear hm
    rcases Int.lt_or_le a 0 with h1 | h1
    · have d1 : decide (a < 0) = true := by simpa using h1
      rcases Int.lt_or_le b 0 with h2 | h2
      · have d2 : decide (b < 0) = true := by simpa using h2
        go_enter Tryz.func322, Tryz.ntmps322
        go_wp2
        go_ret
        exact ⟨ret_int (by rw [HS.out, if_neg (by simp [d1, d2])]), rfl⟩
      · have d2 : decide (b < 0) = false := by simpa using h2
        go_enter Tryz.func322, Tryz.ntmps322
        go_wp2
        go_ret
        exact ⟨ret_int (by rw [HS.out, if_pos ⟨HM.out, by simp [d1, d2]⟩]), rfl⟩
    · have d1 : decide (a < 0) = false := by simpa using h1
      rcases Int.lt_or_le b 0 with h2 | h2
      · have d2 : decide (b < 0) = true := by simpa using h2
        have e1 : a.tmod b = a % b := Int.tmod_eq_emod_of_nonneg h1
        rw [e1] at HM hm0 HS
        clear e1
        go_enter Tryz.func322, Tryz.ntmps322
        go_wp2
        go_ret
        exact ⟨ret_int (by rw [HS.out, if_pos ⟨HM.out, by simp [d1, d2]⟩]), rfl⟩
      · have d2 : decide (b < 0) = false := by simpa using h2
        have e1 : a.tmod b = a % b := Int.tmod_eq_emod_of_nonneg h1
        have e2 : a.tdiv b = a / b := Int.tdiv_eq_ediv_of_nonneg h1
        rw [e1] at HM hm0 HS
        rw [e2] at c1 c2 HS
        clear e1 e2
        go_enter Tryz.func322, Tryz.ntmps322
        go_wp2
        go_ret
        exact ⟨ret_int (by rw [HS.out, if_neg (by simp [d1, d2])]), rfl⟩
section
variable {a b : Int} (ha : F32 a) (hb : F32 b) (w : World)
include ha hb
set_option maxHeartbeats 400000 in
theorem fDiv_any : Calls Tryz.prog 318 #[.int .i32 a, .int .i32 b] w fun e w' => e = .returned (.int .i32 (fdiv a b)) ∧ w = w' := by
  have HB := Lib.hid hb
  obtain ⟨a1, a2⟩ := ha
  obtain ⟨b1, b2⟩ := hb
  by_cases h0 : b = 0
  · subst h0
    clear b1 b2
    rcases Int.lt_trichotomy a 0 with h | h | h
    · have e : fdiv a 0 = -2147483648 := by unfold fdiv; rw [if_pos rfl, if_neg (by omega), if_pos h]
      rw [e]; clear e
      go_enter Tryz.func318, Tryz.ntmps318
      go_wp2
      go_ret
      exact ⟨rfl, rfl⟩
    · subst h
      have e : fdiv 0 0 = 0 := rfl
      rw [e]; clear e
      go_enter Tryz.func318, Tryz.ntmps318
      go_wp2
      go_ret
      exact ⟨rfl, rfl⟩
    · have e : fdiv a 0 = 2147483647 := by unfold fdiv; rw [if_pos rfl, if_pos h]
      rw [e]; clear e
      go_enter Tryz.func318, Tryz.ntmps318
      go_wp2
      go_ret
      exact ⟨rfl, rfl⟩
  · have e : fdiv a b = sat (fdown (a * 65536) b) := by unfold fdiv; rw [if_neg h0]
    have HE := Lib.hid e
    have hb0 : (b != 0) = true := by simpa using h0
    have H0 := Lib.hid h0
    rw [e]
    clear e h0
    go_enter Tryz.func318, Tryz.ntmps318
    go_wp2_with fail
    refine (fdown_any _ _ H0.out (by omega) HB.out _).mono ?_
    rintro e w1 ⟨rfl, rfl⟩
    go_wp2_with fail
    refine (fSat_any _ _).mono ?_
    rintro e w1 ⟨rfl, rfl⟩
    go_wp2
    go_ret
    exact ⟨rfl, rfl⟩
end
end
end Go.Proofs.YtibeihcpehikoaaGreat
