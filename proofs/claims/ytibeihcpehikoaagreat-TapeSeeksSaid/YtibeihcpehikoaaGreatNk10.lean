/-
  The walks of the wave, of whole square roots, of lengths and steps: the program's and the document's.
-/
import Derived.Laws.Bits64b
import Derived.Lib.ItoaNum
import Derived.Test.YtibeihcpehikoaaGreatNk9
import Derived.Test.YtibeihcpehikoaaGreatShelf
namespace Go.Proofs.YtibeihcpehikoaaGreat
open Go.RowKit
set_option maxRecDepth 100000
set_option maxHeartbeats 1000000
section
theorem or_add (r j : Nat) (hd : 2 ^ (j + 1) ∣ r) : r ||| 2 ^ j = r + 2 ^ j := by
 obtain ⟨a, rfl⟩ := hd
 exact (Nat.two_pow_add_eq_or_of_lt (Nat.pow_lt_pow_right (by decide) (by omega)) a).symm
theorem bitLen_lt (n : Nat) (h : n < 18446744073709551616) : n < 2 ^ Lib.bitLen n ∧ Lib.bitLen n ≤ 64 := by
 by_cases h0 : n = 0
 ·subst h0; decide
 ·have h2 := Lib.bitLenAux_bounds 64 n (by simpa using h) h0
  refine ⟨h2.2.2, ?_⟩
  rcases Nat.lt_or_ge 64 (Lib.bitLen n) with h3 | h3
  ·have : 2 ^ 64 ≤ 2 ^ (Lib.bitLen n - 1) := Nat.pow_le_pow_right (by decide) (by omega)
   have h4 := h2.2.1
   unfold Lib.bitLen at this h3
   omega
  ·exact h3
theorem root_start (n : Nat) (h : n < 18446744073709551616) : n < 2 ^ (Lib.bitLen n / 2 + 1) * 2 ^ (Lib.bitLen n / 2 + 1) := by
 have h1 := (bitLen_lt n h).1
 rw [← Nat.pow_add]
 exact Nat.lt_of_lt_of_le h1 (Nat.pow_le_pow_right (by decide) (by omega))
def rtRel (n : Nat) (v b : Value) : Prop := ∃ r j : Nat, v = .int .u64 r ∧ r * r ≤ n ∧ n < (r + 2 ^ j) * (r + 2 ^ j) ∧ 2 ^ j ∣ r ∧ j ≤ 33 ∧ b = .int .u64 ((2 ^ j / 2 : Nat) : Int)
theorem pow_half (j : Nat) : 2 ^ (j + 1) / 2 = 2 ^ j := by rw [Nat.pow_succ, Nat.mul_div_cancel _ (by decide)]
theorem rt_le {r n : Nat} (h : r * r ≤ n) (hn : n < 18446744073709551616) : r < 4294967296 := by
 rcases Nat.lt_or_ge r 4294967296 with h1 | h1
 ·exact h1
 ·have := Nat.mul_le_mul h1 h1; omega
theorem tRoot_any (n : Nat) (h : n < 18446744073709551616) (w : World) : Calls Tryz.prog 310 #[.int .u64 n] w fun e w' => e = .returned (.int .u64 (isqrt n)) ∧ w = w' := by
 have hl := (bitLen_lt n h).2
 have hst := root_start n h
 obtain ⟨m, hm⟩ : ∃ m, Lib.bitLen n = m := ⟨_, rfl⟩
 rw [hm] at hl hst
 have HST := zz hst
 have HM := zz hm
 clear hst hm
 go_enter Tryz.func310, Tryz.ntmps310
 go_wp2_with fail
 refine (Tryz.bits_Len64 _ _ (by omega) (by omega)).mono ?_
 rw [Int.toNat_natCast, HM.out]
 rintro e w1 ⟨rfl, rfl⟩
 go_wp2
 go_loop [3, 4] (fun v b => rtRel n v b) (fun _ b => (intOf b).toNat)
 case atStart =>
  refine ⟨0, m / 2 + 1, rfl, Nat.zero_le _, by simpa using HST.out, Nat.dvd_zero _, by omega, ?_⟩
  rw [pow_half, IntKind.wrap_u64]
  have h2 : 2 ^ (m / 2) ≤ 2 ^ 32 := Nat.pow_le_pow_right (by decide) (by omega)
  have h3 : ((2 : Int) ^ (m / 2)) = ((2 ^ (m / 2) : Nat) : Int) := by simp
  rw [h3]
  obtain ⟨q, hq⟩ : ∃ q : Nat, 2 ^ (m / 2) = q := ⟨_, rfl⟩
  rw [hq] at h2 ⊢
  congr 1
  omega
 case round =>
  obtain ⟨r, j, rfl, h1, h2, h3, h4, rfl⟩ := hrel
  have hr := rt_le h1 h
  rcases Nat.eq_zero_or_pos j with hj | hj
  ·subst hj
   have e := isqrt_of h h1 (by simpa using h2)
   have HE := zz e
   clear h1 h2 h3 h4 e
   go_wp2
   go_ret
   exact ⟨ret_int (by rw [HE.out]), rfl⟩
  ·obtain ⟨k, rfl⟩ : ∃ k, j = k + 1 := ⟨j - 1, by omega⟩
   rw [pow_half]
   have hor := or_add r k h3
   have hk : 2 ^ k ≤ 4294967296 := (show 2 ^ k ≤ 2 ^ 32 from Nat.pow_le_pow_right (by decide) (by omega))
   have hk0 : 0 < 2 ^ k := Nat.two_pow_pos k
   have hsum : 2 ^ (k + 1) = 2 ^ k + 2 ^ k := by rw [Nat.pow_succ]; omega
   obtain ⟨b, hb⟩ : ∃ b, 2 ^ k = b := ⟨_, rfl⟩
   have hhalf : 2 ^ k / 2 = b / 2 := by rw [hb]
   rw [hsum] at h2 h3
   rw [hb] at hk hk0 hor h2 h3 ⊢
   have hor2 : bits .or .u64 (r : Int) (b : Int) = ((r + b : Nat) : Int) := by rw [bits_or_u64_nat r b (by omega) (by omega), hor]
   obtain ⟨t, ht⟩ : ∃ t, r + b = t := ⟨_, rfl⟩
   rw [ht] at hor2
   have htl : t < 8589934592 := by omega
   have HT := zz ht
   have H2 := zz h2
   have H3 := zz h3
   have HB := zz hb
   have H1 := zz h1
   have hbb : (0 : Int) < (b : Int) := by omega
   have hdt : b ∣ t := by
    rw [← ht]
    exact Nat.dvd_add (Nat.dvd_trans ⟨2, by omega⟩ h3) (Nat.dvd_refl b)
   have HDT := zz hdt
   have HDR : Hid (b ∣ r) := zz (Nat.dvd_trans ⟨2, by omega⟩ h3)
   clear h1 h2 h3 hor ht hb hsum hhalf hdt
   by_cases hc : t * t ≤ n
   ·have hq : t * t / 18446744073709551616 = 0 := Nat.div_eq_of_lt (by omega)
    have hm : t * t % 18446744073709551616 = t * t := Nat.mod_eq_of_lt (by omega)
    have HQ := zz hq
    have HM2 := zz hm
    have hcc : ((t * t : Nat) : Int) ≤ (n : Int) := by omega
    have HC := zz hc
    clear hq hm hc
    go_wp2_with fail
    refine (Tryz.bits_Mul64 t t (by omega) (by omega) _).mono ?_
    rw [HQ.out, HM2.out]
    obtain ⟨q, hq⟩ : ∃ q, t * t = q := ⟨_, rfl⟩
    rw [hq] at hcc ⊢
    clear hq
    rintro e w2 ⟨rfl, rfl⟩
    go_wp2
    go_round
    case rel =>
     refine ⟨t, k, rfl, HC.out, ?_, ?_, by omega, ?_⟩
     ·rw [HB.out]; have := H2.out; rw [← HT.out, Nat.add_assoc]; exact this
     ·rw [HB.out]; exact HDT.out
     ·rw [HB.out]; rfl
    case measure => simp [intOf]; omega
   ·have hgo : ∀ q l : Nat, q = t * t / 18446744073709551616 → l = t * t % 18446744073709551616 → ((q : Int) == 0) = false ∨ (((q : Int) == 0) = true ∧ (n : Int) < l) := by
     rintro q l rfl rfl
     by_cases hz : t * t / 18446744073709551616 = 0
     ·refine .inr ⟨by rw [hz]; rfl, ?_⟩
      have : t * t % 18446744073709551616 = t * t := Nat.mod_eq_of_lt (by omega)
      rw [this]; omega
     ·refine .inl ?_
      simp only [beq_eq_false_iff_ne, ne_eq]
      omega
    have HC := zz hc
    clear hc
    go_wp2_with fail
    refine (Tryz.bits_Mul64 t t (by omega) (by omega) _).mono ?_
    obtain ⟨q, hq⟩ : ∃ q, t * t / 18446744073709551616 = q := ⟨_, rfl⟩
    obtain ⟨l, hl⟩ : ∃ l, t * t % 18446744073709551616 = l := ⟨_, rfl⟩
    rcases hgo q l hq.symm hl.symm with hz | ⟨hz, hlt⟩
    all_goals
     rw [hq, hl]
     clear hgo hq hl
     rintro e w2 ⟨rfl, rfl⟩
     go_wp2
     go_round
     case rel =>
      refine ⟨r, k, rfl, H1.out, ?_, ?_, by omega, ?_⟩
      ·rw [HB.out, HT.out]; exact Nat.lt_of_not_le HC.out
      ·rw [HB.out]; exact HDR.out
      ·rw [HB.out]; rfl
     case measure => simp [intOf]; omega
theorem pow_sub_half (j : Nat) : 2 ^ (j + 1) = 2 ^ j + 2 ^ j := by rw [Nat.pow_succ]; omega
def rhRel (n : Nat) (v b : Value) : Prop := ∃ r j : Nat, v = .int .u64 r ∧ r * r ≤ n ∧ n < (r + 2 ^ j) * (r + 2 ^ j) ∧ r + 2 ^ j ≤ 4294967296 ∧ b = .int .u64 ((r + 2 ^ j : Nat) : Int)
theorem r02Root_any (n : Nat) (h : n < 18446744073709551616) (w : World) : Calls Tryz.prog 297 #[.int .u64 n] w fun e w' => e = .returned (.int .u64 (isqrt n)) ∧ w = w' := by
 go_enter Tryz.func297, Tryz.ntmps297
 go_wp2
 go_loop [3, 4] (fun v b => rhRel n v b) (fun v b => (intOf b - intOf v).toNat)
 case atStart => exact ⟨0, 32, rfl, Nat.zero_le _, by simpa using h, by decide, rfl⟩
 case round =>
  obtain ⟨r, j, rfl, h1, h2, h4, rfl⟩ := hrel
  rcases Nat.eq_zero_or_pos j with hj | hj
  ·subst hj
   have e := isqrt_of h h1 (by simpa using h2)
   have HE := zz e
   have hs : r + 2 ^ 0 = r + 1 := rfl
   rw [hs] at h4 ⊢
   clear h1 h2 e hs
   go_wp2
   go_ret
   exact ⟨ret_int (by rw [HE.out]), rfl⟩
  ·obtain ⟨k, rfl⟩ : ∃ k, j = k + 1 := ⟨j - 1, by omega⟩
   have hk0 : 0 < 2 ^ k := Nat.two_pow_pos k
   rw [pow_sub_half] at h2 h4 ⊢
   obtain ⟨b, hb⟩ : ∃ b, 2 ^ k = b := ⟨_, rfl⟩
   rw [hb] at hk0 h2 h4 ⊢
   obtain ⟨t, ht⟩ : ∃ t, t = r + b := ⟨_, rfl⟩
   obtain ⟨u, hu⟩ : ∃ u, u = r + (b + b) := ⟨_, rfl⟩
   rw [← hu] at h2 h4 ⊢
   have htl : t < 4294967296 := by omega
   have hmid : ((r : Int) + (u : Int)) / 2 = (t : Int) := by omega
   have hgt : (1 : Int) < (u : Int) - (r : Int) := by omega
   have hsq : t * t < 18446744073709551616 := by
    have := Nat.mul_le_mul (show t ≤ 4294967295 by omega) (show t ≤ 4294967295 by omega)
    omega
   have hwr : IntKind.u64.wrap ((t : Int) * (t : Int)) = ((t * t : Nat) : Int) := by
    rw [← Int.natCast_mul, IntKind.wrap_u64]; omega
   have hru : (r : Int) ≤ (u : Int) := by omega
   have HT := zz ht
   have HU := zz hu
   have HB := zz hb
   have H1 := zz h1
   have H2 := zz h2
   clear h1 h2 ht hu hb
   by_cases hc : t * t ≤ n
   ·have HC := zz hc
    have hcc : ((t * t : Nat) : Int) ≤ (n : Int) := by omega
    clear hc
    go_wp2
    go_round
    case rel =>
     refine ⟨t, k, by rw [hmid], HC.out, ?_, ?_, ?_⟩
     ·rw [HB.out]; have := HT.out; have := HU.out; have e : t + b = u := by omega
      rw [e]; exact H2.out
     ·rw [HB.out]; have := HT.out; have := HU.out; omega
     ·rw [HB.out]; have := HT.out; have := HU.out; have e : t + b = u := by omega
      rw [e]
    case measure => have := HT.out; have := HU.out; simp [intOf]; omega
   ·have HC := zz hc
    have hcc : (n : Int) < ((t * t : Nat) : Int) := by omega
    clear hc
    go_wp2
    go_round
    case rel =>
     refine ⟨r, k, rfl, H1.out, ?_, ?_, ?_⟩
     ·rw [HB.out, ← HT.out]; exact Nat.lt_of_not_le HC.out
     ·rw [HB.out]; have := HT.out; omega
     ·rw [HB.out, ← HT.out, hmid]
    case measure => have := HT.out; have := HU.out; simp [intOf]; omega
theorem sq_nonneg' (x : Int) : 0 ≤ x * x := by
 rcases Int.le_total 0 x with h | h
 ·exact Int.mul_nonneg h h
 ·have := Int.mul_nonneg (show 0 ≤ -x by omega) (show 0 ≤ -x by omega)
  rwa [Int.neg_mul_neg] at this
def sinP (x : Int) : Int := x * (32768 - x)
def sinN (p : Int) : Int := p * 1048576 / (5368709120 - 4 * p)
def sinZ (angle : Int) : Int := if 32768 ≤ angle % 65536 then -(sinN (sinP (angle % 65536 % 32768))) else sinN (sinP (angle % 65536 % 32768))
theorem sinP_bd (x : Int) (h0 : 0 ≤ x) (h1 : x < 32768) : 0 ≤ sinP x ∧ sinP x ≤ 268435456 := by
 unfold sinP
 refine ⟨Int.mul_nonneg h0 (by omega), ?_⟩
 have h := sq_nonneg' (x - 16384)
 have e : (x - 16384) * (x - 16384) = x * x - 32768 * x + 268435456 := by rw [Int.sub_mul, Int.mul_sub, Int.mul_sub]; omega
 have e2 : x * (32768 - x) = 32768 * x - x * x := by rw [Int.mul_sub]; omega
 omega
theorem sinN_bd (p : Int) (h0 : 0 ≤ p) (h1 : p ≤ 268435456) : 0 ≤ sinN p ∧ sinN p ≤ 65536 := by
 unfold sinN
 refine ⟨Int.ediv_nonneg (by omega) (by omega), ?_⟩
 exact Int.ediv_le_of_le_mul (by omega) (by omega)
theorem sinZ_bd (a : Int) : -65536 ≤ sinZ a ∧ sinZ a ≤ 65536 := by
 have h1 := sinP_bd (a % 65536 % 32768) (by omega) (by omega)
 have h2 := sinN_bd _ h1.1 h1.2
 unfold sinZ
 split <;> omega
theorem sinZ_f32 (a : Int) : F32 (sinZ a) := by have := sinZ_bd a; unfold F32; omega
theorem sinZ_mod (a : Int) : sinZ (a % 65536) = sinZ a := by unfold sinZ; rw [Int.emod_emod_of_dvd _ (by decide)]
theorem mask16 (a : Int) : bits .and .i64 a 65535 = a % 65536 := by have := mask_i64 a 16 (by decide); simpa using this
theorem mask15 (a : Int) : bits .and .i64 a 32767 = a % 32768 := by have := mask_i64 a 15 (by decide); simpa using this
theorem tSin_any (n : Int) (w : World) : Calls Tryz.prog 283 #[.int .i64 n] w fun e w' => e = .returned (.int .i32 (sinZ n)) ∧ w = w' := by
 obtain ⟨a, ha⟩ : ∃ a, n % 65536 = a := ⟨_, rfl⟩
 obtain ⟨x, hx⟩ : ∃ x, a % 32768 = x := ⟨_, rfl⟩
 have m1 := mask16 n
 have m2 := mask15 a
 rw [ha] at m1
 rw [hx] at m2
 have a0 : 0 ≤ a := by omega
 have a1 : a < 65536 := by omega
 have x0 : 0 ≤ x := by omega
 have x1 : x < 32768 := by omega
 obtain ⟨p0, p1⟩ := sinP_bd x x0 x1
 obtain ⟨p, hp⟩ : ∃ p, sinP x = p := ⟨_, rfl⟩
 have hp2 : x * (32768 - x) = p := hp
 rw [hp] at p0 p1
 obtain ⟨q0, q1⟩ := sinN_bd p p0 p1
 obtain ⟨q, hq⟩ : ∃ q, sinN p = q := ⟨_, rfl⟩
 have hq2 : p * 1048576 / (5368709120 - 4 * p) = q := hq
 rw [hq] at q0 q1
 have hsat : sat q = q := sat_id (by unfold F32; omega)
 have hsat2 : sat (-q) = -q := sat_id (by unfold F32; omega)
 have hfq : F32 q := by unfold F32; omega
 have HS := zz hsat
 have HS2 := zz hsat2
 have HFQ := zz hfq
 by_cases h : 32768 ≤ a
 ·have hz : sinZ n = -q := by unfold sinZ; rw [ha, hx, hp, hq, if_pos h]
  rw [hz]
  clear ha hx hp hq hz hsat hsat2 hfq
  go_enter Tryz.func283, Tryz.ntmps283
  go_wp2_with fail
  refine (fSat_any _ _).mono ?_
  rw [HS.out]
  rintro e w1 ⟨rfl, rfl⟩
  go_wp2_with fail
  refine (fNeg_any HFQ.out _).mono ?_
  rw [HS2.out]
  rintro e w1 ⟨rfl, rfl⟩
  go_wp2
  go_ret
  exact ⟨rfl, rfl⟩
 ·have hz : sinZ n = q := by unfold sinZ; rw [ha, hx, hp, hq, if_neg h]
  have h' : a < 32768 := by omega
  rw [hz]
  clear ha hx hp hq hz hsat hsat2 hfq h
  go_enter Tryz.func283, Tryz.ntmps283
  go_wp2_with fail
  refine (fSat_any _ _).mono ?_
  rw [HS.out]
  rintro e w1 ⟨rfl, rfl⟩
  go_wp2
  go_ret
  exact ⟨rfl, rfl⟩
theorem cos_arg (n : Int) : sinZ (n % 65536 + 16384) = sinZ (n + 16384) := by rw [← sinZ_mod (n % 65536 + 16384), ← sinZ_mod (n + 16384)]; congr 1; omega
theorem tCos_any (n : Int) (w : World) : Calls Tryz.prog 282 #[.int .i64 n] w fun e w' => e = .returned (.int .i32 (sinZ (n + 16384))) ∧ w = w' := by
 have hc := cos_arg n
 obtain ⟨a, ha⟩ : ∃ a, n % 65536 = a := ⟨_, rfl⟩
 have m1 := mask16 n
 rw [ha] at m1 hc
 have a0 : 0 ≤ a := by omega
 have a1 : a < 65536 := by omega
 have HC := zz hc
 clear ha hc
 go_enter Tryz.func282, Tryz.ntmps282
 go_wp2_with fail
 refine (tSin_any _ _).mono ?_
 rw [HC.out]
 rintro e w1 ⟨rfl, rfl⟩
 go_wp2
 go_ret
 exact ⟨rfl, rfl⟩
theorem r02Sin_any (n : Int) (w : World) : Calls Tryz.prog 257 #[.int .i64 n] w fun e w' => e = .returned (.int .i32 (sinZ n)) ∧ w = w' := by
 obtain ⟨a, ha⟩ : ∃ a, n % 65536 = a := ⟨_, rfl⟩
 obtain ⟨x, hx⟩ : ∃ x, a % 32768 = x := ⟨_, rfl⟩
 have a0 : 0 ≤ a := by omega
 have a1 : a < 65536 := by omega
 have x0 : 0 ≤ x := by omega
 have x1 : x < 32768 := by omega
 obtain ⟨p0, p1⟩ := sinP_bd x x0 x1
 obtain ⟨p, hp⟩ : ∃ p, sinP x = p := ⟨_, rfl⟩
 have hp2 : x * (32768 - x) = p := hp
 rw [hp] at p0 p1
 obtain ⟨q0, q1⟩ := sinN_bd p p0 p1
 obtain ⟨q, hq⟩ : ∃ q, sinN p = q := ⟨_, rfl⟩
 have hq2 : 16 * p * 65536 / (5368709120 - 4 * p) = q := by rw [← hq]; unfold sinN; congr 1; omega
 have hq3 : p * 16 * 65536 / (5368709120 - p * 4) = q := by rw [← hq2]; congr 1 <;> omega
 rw [hq] at q0 q1
 have hz : sinZ n = if 32768 ≤ a then -q else q := by unfold sinZ; rw [ha, hx, hp, hq]
 have hneg : n.tmod 65536 = if n < 0 then (if a = 0 then 0 else a - 65536) else a := by
  by_cases hn : n < 0
  ·rw [if_pos hn, neg_tmod', Int.tmod_eq_emod_of_nonneg (by omega)]
   split <;> omega
  ·rw [if_neg hn, Int.tmod_eq_emod_of_nonneg (by omega), ha]
 have hn2 : 0 ≤ n ∨ (n < 0 ∧ n.tmod 65536 < 0 ∧ n.tmod 65536 + 65536 = a) ∨ (n < 0 ∧ 0 ≤ n.tmod 65536 ∧ a = n.tmod 65536) := by
  rcases Int.lt_or_le n 0 with hn | hn
  ·rw [if_pos hn] at hneg
   split at hneg
   ·exact .inr (.inr ⟨hn, by omega, by omega⟩)
   ·exact .inr (.inl ⟨hn, by omega, by omega⟩)
  ·exact .inl hn
 clear hneg
 rw [hz]
 by_cases h : 32768 ≤ a
 all_goals
  first
   | (rw [if_pos h]; have h' : 32768 ≤ a := h)
   | (rw [if_neg h]; have h' : a < 32768 := by omega)
  clear h hz hp hq
  rcases hn2 with hn | ⟨hn, hlt, hs⟩ | ⟨hn, hge, hs⟩
  ·go_enter Tryz.func257, Tryz.ntmps257
   go_wp2
   go_ret
   exact ⟨rfl, rfl⟩
  ·clear ha
   go_enter Tryz.func257, Tryz.ntmps257
   go_wp2
   go_ret
   exact ⟨rfl, rfl⟩
  ·have hs' := hs.symm
   clear ha hs hge
   go_enter Tryz.func257, Tryz.ntmps257
   go_wp2
   go_ret
   exact ⟨rfl, rfl⟩
def sq (x : Int) : Nat := (x * x).toNat
theorem sq_cast (x : Int) : ((sq x : Nat) : Int) = x * x := Int.toNat_of_nonneg (sq_nonneg' x)
theorem sq_bd {x : Int} (h : F32 x) : sq x ≤ 4611686018427387904 := by
 have := mul_f32 h h
 have := sq_cast x
 omega
section
variable {x : Int} (hx : F32 x) (w : World)
include hx
theorem tsquare_any : Calls Tryz.prog 289 #[.int .i32 x] w fun e w' => e = .returned (.int .u64 (sq x)) ∧ w = w' := by
 have hb := sq_bd hx
 have hc := sq_cast x
 obtain ⟨x1, x2⟩ := hx
 have hw : IntKind.i64.wrap (x * x) = ((sq x : Nat) : Int) := by rw [← hc, IntKind.wrap_i64]; omega
 obtain ⟨s, hs⟩ : ∃ s, sq x = s := ⟨_, rfl⟩
 rw [hs] at hb hw ⊢
 clear hc hs
 go_enter Tryz.func289, Tryz.ntmps289
 go_wp2
 go_ret
 exact ⟨rfl, rfl⟩
end
theorem isqrt_bd (n : Nat) (h : n ≤ 9223372036854775808) : isqrt n < 4294967296 := rt_le (isqrt_spec n (by omega)).1 (by omega)
def norm (x y : Int) : Int := sat (isqrt (sq x + sq y))
theorem norm_bd (x y : Int) : F32 (norm x y) := sat_bd _
section
variable {x y : Int} (hx : F32 x) (hy : F32 y) (w : World)
include hx hy
theorem r02Squares_any : Calls Tryz.prog 219 #[.int .i32 x, .int .i32 y] w fun e w' => e = .returned (.int .u64 ((sq x + sq y : Nat) : Int)) ∧ w = w' := by
 have hb := sq_bd hx
 have hc := sq_cast x
 have hb' := sq_bd hy
 have hc' := sq_cast y
 obtain ⟨x1, x2⟩ := hx
 obtain ⟨y1, y2⟩ := hy
 have hw : IntKind.i64.wrap (x * x) = ((sq x : Nat) : Int) := by rw [← hc, IntKind.wrap_i64]; omega
 have hw' : IntKind.i64.wrap (y * y) = ((sq y : Nat) : Int) := by rw [← hc', IntKind.wrap_i64]; omega
 obtain ⟨s, hs⟩ : ∃ s, sq x = s := ⟨_, rfl⟩
 obtain ⟨t, ht⟩ : ∃ t, sq y = t := ⟨_, rfl⟩
 rw [hs] at hb hw ⊢
 rw [ht] at hb' hw' ⊢
 clear hc hs hc' ht
 go_enter Tryz.func219, Tryz.ntmps219
 go_wp2
 go_ret
 exact ⟨ret_int (by omega), rfl⟩
theorem tLength_any : Calls Tryz.prog 284 #[.int .i32 x, .int .i32 y] w fun e w' => e = .returned (.int .i32 (norm x y)) ∧ w = w' := by
 have hb := sq_bd hx
 have hb' := sq_bd hy
 have hi := isqrt_bd (sq x + sq y) (by omega)
 have HX := zz hx
 have HY := zz hy
 have hn : norm x y = sat (isqrt (sq x + sq y)) := rfl
 rw [hn]
 obtain ⟨s, hs⟩ : ∃ s, sq x = s := ⟨_, rfl⟩
 obtain ⟨t, ht⟩ : ∃ t, sq y = t := ⟨_, rfl⟩
 rw [hs, ht] at hi ⊢
 rw [hs] at hb
 rw [ht] at hb'
 obtain ⟨r, hr⟩ : ∃ r, isqrt (s + t) = r := ⟨_, rfl⟩
 rw [hr] at hi ⊢
 have HS := zz hs
 have HT := zz ht
 have HR := zz hr
 have hsum : IntKind.u64.wrap ((s : Int) + (t : Int)) = ((s + t : Nat) : Int) := by rw [IntKind.wrap_u64]; omega
 clear hx hy hs ht hr hn
 go_enter Tryz.func284, Tryz.ntmps284
 go_wp2_with fail
 refine (tsquare_any HX.out _).mono ?_
 rw [HS.out]
 rintro e w1 ⟨rfl, rfl⟩
 go_wp2_with fail
 refine (tsquare_any HY.out _).mono ?_
 rw [HT.out]
 rintro e w1 ⟨rfl, rfl⟩
 go_wp2_with fail
 first | refine (tRoot_any (s + t) (by omega) _).mono ?_ | (rw [← Int.natCast_add]; refine (tRoot_any (s + t) (by omega) _).mono ?_)
 rw [HR.out]
 rintro e w1 ⟨rfl, rfl⟩
 go_wp2_with fail
 refine (fSat_any _ _).mono ?_
 rintro e w1 ⟨rfl, rfl⟩
 go_wp2
 go_ret
 exact ⟨rfl, rfl⟩
theorem r02Length_any : Calls Tryz.prog 258 #[.int .i32 x, .int .i32 y] w fun e w' => e = .returned (.int .i32 (norm x y)) ∧ w = w' := by
 have hb := sq_bd hx
 have hb' := sq_bd hy
 have hi := isqrt_bd (sq x + sq y) (by omega)
 have hsq : sq x + sq y ≤ 9223372036854775808 := by omega
 have HX := zz hx
 have HY := zz hy
 have hn : norm x y = sat (isqrt (sq x + sq y)) := rfl
 rw [hn]
 obtain ⟨s, hs⟩ : ∃ s, sq x + sq y = s := ⟨_, rfl⟩
 rw [hs] at hi hsq ⊢
 obtain ⟨r, hr⟩ : ∃ r, isqrt s = r := ⟨_, rfl⟩
 rw [hr] at hi ⊢
 have HS := zz hs
 have HR := zz hr
 clear hx hy hs hr hn hb hb'
 go_enter Tryz.func258, Tryz.ntmps258
 go_wp2_with fail
 refine (r02Squares_any HX.out HY.out _).mono ?_
 rw [HS.out]
 rintro e w1 ⟨rfl, rfl⟩
 go_wp2_with fail
 refine (r02Root_any s (by omega) _).mono ?_
 rw [HR.out]
 rintro e w1 ⟨rfl, rfl⟩
 go_wp2_with fail
 refine (r01Sat_any _ _).mono ?_
 rintro e w1 ⟨rfl, rfl⟩
 go_wp2
 go_ret
 exact ⟨rfl, rfl⟩
end
def stepX (x y s : Int) : Int := if norm x y = 0 then 0 else fdiv (fmul x s) (norm x y)
def stepY (x y s : Int) : Int := if norm x y = 0 then 0 else fdiv (fmul y s) (norm x y)
section
variable {x y s : Int} (hx : F32 x) (hy : F32 y) (hs : F32 s) (w : World)
include hx hy hs
theorem tToward_any : Calls Tryz.prog 311 #[.int .i32 x, .int .i32 y, .int .i32 s] w fun e w' => e = .returned (.tuple #[.int .i32 (stepX x y s), .int .i32 (stepY x y s)]) ∧ w = w' := by
 have hn := norm_bd x y
 have HX := zz hx
 have HY := zz hy
 have HS := zz hs
 have h1 : stepX x y s = if norm x y = 0 then 0 else fdiv (fmul x s) (norm x y) := rfl
 have h2 : stepY x y s = if norm x y = 0 then 0 else fdiv (fmul y s) (norm x y) := rfl
 obtain ⟨n, hnn⟩ : ∃ n, norm x y = n := ⟨_, rfl⟩
 rw [hnn] at hn h1 h2
 have HNN := zz hnn
 have HN := zz hn
 obtain ⟨n1, n2⟩ := hn
 rw [h1, h2]
 clear hx hy hs h1 h2 hnn
 by_cases h0 : n = 0
 ·rw [if_pos h0, if_pos h0]
  have hb : (n == 0) = true := by simpa using h0
  clear h0
  go_enter Tryz.func311, Tryz.ntmps311
  go_wp2_with fail
  refine (tLength_any HX.out HY.out _).mono ?_
  rw [HNN.out]
  rintro e w1 ⟨rfl, rfl⟩
  go_wp2
  go_ret2
  exact ⟨rfl, rfl⟩
 ·rw [if_neg h0, if_neg h0]
  have hb : (n == 0) = false := by simpa using h0
  clear h0
  go_enter Tryz.func311, Tryz.ntmps311
  go_wp2_with fail
  refine (tLength_any HX.out HY.out _).mono ?_
  rw [HNN.out]
  rintro e w1 ⟨rfl, rfl⟩
  go_wp2_with fail
  refine (fMul_any HX.out HS.out _).mono ?_
  rintro e w1 ⟨rfl, rfl⟩
  go_wp2_with fail
  refine (fDiv_any (fmul_bd _ _) HN.out _).mono ?_
  rintro e w1 ⟨rfl, rfl⟩
  go_wp2_with fail
  refine (fMul_any HY.out HS.out _).mono ?_
  rintro e w1 ⟨rfl, rfl⟩
  go_wp2_with fail
  refine (fDiv_any (fmul_bd _ _) HN.out _).mono ?_
  rintro e w1 ⟨rfl, rfl⟩
  go_wp2
  go_ret2
  exact ⟨rfl, rfl⟩
theorem r02Toward_any : Calls Tryz.prog 259 #[.int .i32 x, .int .i32 y, .int .i32 s] w fun e w' => e = .returned (.tuple #[.int .i32 (stepX x y s), .int .i32 (stepY x y s)]) ∧ w = w' := by
 have hn := norm_bd x y
 have HX := zz hx
 have HY := zz hy
 have HS := zz hs
 have h1 : stepX x y s = if norm x y = 0 then 0 else fdiv (fmul x s) (norm x y) := rfl
 have h2 : stepY x y s = if norm x y = 0 then 0 else fdiv (fmul y s) (norm x y) := rfl
 obtain ⟨n, hnn⟩ : ∃ n, norm x y = n := ⟨_, rfl⟩
 rw [hnn] at hn h1 h2
 have HNN := zz hnn
 have HN := zz hn
 obtain ⟨n1, n2⟩ := hn
 rw [h1, h2]
 clear hx hy hs h1 h2 hnn
 by_cases h0 : n = 0
 ·rw [if_pos h0, if_pos h0]
  have hb : (n == 0) = true := by simpa using h0
  clear h0
  go_enter Tryz.func259, Tryz.ntmps259
  go_wp2_with fail
  refine (r02Length_any HX.out HY.out _).mono ?_
  rw [HNN.out]
  rintro e w1 ⟨rfl, rfl⟩
  go_wp2
  go_ret2
  exact ⟨rfl, rfl⟩
 ·rw [if_neg h0, if_neg h0]
  have hb : (n == 0) = false := by simpa using h0
  clear h0
  go_enter Tryz.func259, Tryz.ntmps259
  go_wp2_with fail
  refine (r02Length_any HX.out HY.out _).mono ?_
  rw [HNN.out]
  rintro e w1 ⟨rfl, rfl⟩
  go_wp2_with fail
  refine (r01Mul_any HX.out HS.out _).mono ?_
  rintro e w1 ⟨rfl, rfl⟩
  go_wp2_with fail
  refine (r01Div_any (fmul_bd _ _) HN.out _).mono ?_
  rintro e w1 ⟨rfl, rfl⟩
  go_wp2_with fail
  refine (r01Mul_any HY.out HS.out _).mono ?_
  rintro e w1 ⟨rfl, rfl⟩
  go_wp2_with fail
  refine (r01Div_any (fmul_bd _ _) HN.out _).mono ?_
  rintro e w1 ⟨rfl, rfl⟩
  go_wp2
  go_ret2
  exact ⟨rfl, rfl⟩
def nearB (x y r : Int) : Bool := decide (0 ≤ r) && decide (sq x + sq y ≤ sq r)
theorem tNear_any : Calls Tryz.prog 244 #[.int .i32 x, .int .i32 y, .int .i32 s] w fun e w' => e = .returned (.bool (nearB x y s)) ∧ w = w' := by
 have hb := sq_bd hx
 have hb' := sq_bd hy
 have hb2 := sq_bd hs
 have HX := zz hx
 have HY := zz hy
 have HS := zz hs
 have hq : nearB x y s = (decide (0 ≤ s) && decide (sq x + sq y ≤ sq s)) := rfl
 rw [hq]
 obtain ⟨p, hp⟩ : ∃ p, sq x = p := ⟨_, rfl⟩
 obtain ⟨q, hq⟩ : ∃ q, sq y = q := ⟨_, rfl⟩
 obtain ⟨r, hr⟩ : ∃ r, sq s = r := ⟨_, rfl⟩
 rw [hp, hq, hr]
 rw [hp] at hb
 rw [hq] at hb'
 rw [hr] at hb2
 have HP := zz hp
 have HQ := zz hq
 have HR := zz hr
 have hsum : IntKind.u64.wrap ((p : Int) + (q : Int)) = ((p + q : Nat) : Int) := by rw [IntKind.wrap_u64]; omega
 clear hx hy hs hp hq hr
 by_cases h0 : 0 ≤ s
 ·rw [decide_eq_true h0, Bool.true_and]
  obtain ⟨c, hc⟩ : ∃ c, decide (p + q ≤ r) = c := ⟨_, rfl⟩
  rw [hc]
  have hcc : decide (((p + q : Nat) : Int) ≤ (r : Int)) = c := by rw [← hc]; exact decide_eq_decide.2 (by omega)
  have hcc2 : decide ((p : Int) + (q : Int) ≤ (r : Int)) = c := by rw [← hc]; exact decide_eq_decide.2 (by omega)
  clear hc
  go_enter Tryz.func244, Tryz.ntmps244
  go_wp2_with fail
  refine (tsquare_any HX.out _).mono ?_
  rw [HP.out]
  rintro e w1 ⟨rfl, rfl⟩
  go_wp2_with fail
  refine (tsquare_any HY.out _).mono ?_
  rw [HQ.out]
  rintro e w1 ⟨rfl, rfl⟩
  go_wp2_with fail
  refine (tsquare_any HS.out _).mono ?_
  rw [HR.out]
  rintro e w1 ⟨rfl, rfl⟩
  go_wp2
  all_goals
   go_ret
   exact ⟨rfl, rfl⟩
 ·rw [decide_eq_false h0, Bool.false_and]
  have h1 : s < 0 := by omega
  clear h0
  go_enter Tryz.func244, Tryz.ntmps244
  go_wp2
  go_ret
  exact ⟨rfl, rfl⟩
end
end
end Go.Proofs.YtibeihcpehikoaaGreat
