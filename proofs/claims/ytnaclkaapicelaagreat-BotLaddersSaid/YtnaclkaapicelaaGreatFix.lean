/-
  The walks of the numbers: the program's and the document's.
-/
import Derived.Test.YtnaclkaapicelaaGreatFixP
import Derived.Test.YtnaclkaapicelaaGreatOwn
import Derived.Test.YtnaclkaapicelaaGreatRows
namespace Go.Proofs.YtnaclkaapicelaaGreat
open Go.RowKit
set_option maxRecDepth 100000

set_option maxHeartbeats 400000 in
theorem fwithin_any (a b c : Int) (w : World) : Calls Tryz.prog 140 #[.int .i64 a, .int .i64 b, .int .i64 c] w fun e w' => e = .returned (.int .i64 (max b (min a c))) ∧ w = w' := by
  go_enter Tryz.func140, Tryz.ntmps140
  go_wp2
  all_goals
    go_ret
    exact ⟨ret_int (by omega), rfl⟩
theorem sat_low (n : Int) : -2147483648 ≤ sat n ∧ sat n ≤ 2147483647 := sat_bd n
set_option maxHeartbeats 400000 in
theorem fSat_any (n : Int) (w : World) : Calls Tryz.prog 122 #[.int .i64 n] w fun e w' => e = .returned (.int .i32 (sat n)) ∧ w = w' := by
  have hb := sat_low n
  have hs : max (-2147483648) (min n 2147483647) = sat n := rfl
  have HS := Lib.hid hs
  have hw : IntKind.i32.wrap (sat n) = sat n := by rw [IntKind.wrap_i32]; omega
  clear hs
  go_enter Tryz.func122, Tryz.ntmps122
  go_wp2_with fail
  refine (fwithin_any _ _ _ _).mono ?_
  rw [HS.out]
  rintro e w1 ⟨rfl, rfl⟩
  go_wp2
  go_ret
  exact ⟨rfl, rfl⟩
set_option maxHeartbeats 400000 in
theorem r01Sat_any (n : Int) (w : World) : Calls Tryz.prog 117 #[.int .i64 n] w fun e w' => e = .returned (.int .i32 (sat n)) ∧ w = w' := by
  by_cases h1 : 2147483647 < n
  · have hs : sat n = 2147483647 := by unfold sat; omega
    rw [hs]; clear hs
    go_enter Tryz.func117, Tryz.ntmps117
    go_wp2
    go_ret
    exact ⟨rfl, rfl⟩
  · by_cases h2 : n < -2147483648
    · have hs : sat n = -2147483648 := by unfold sat; omega
      rw [hs]; clear hs
      go_enter Tryz.func117, Tryz.ntmps117
      go_wp2
      go_ret
      exact ⟨rfl, rfl⟩
    · have hs : sat n = n := by unfold sat; omega
      rw [hs]; clear hs
      have g1 : n ≤ 2147483647 := by omega
      have g2 : -2147483648 ≤ n := by omega
      clear h1 h2
      go_enter Tryz.func117, Tryz.ntmps117
      go_wp2
      go_ret
      exact ⟨rfl, rfl⟩
section
variable {a b : Int} (ha : F32 a) (hb : F32 b) (w : World)
include ha hb
set_option maxHeartbeats 400000 in
theorem fAdd_any : Calls Tryz.prog 90 #[.int .i32 a, .int .i32 b] w fun e w' => e = .returned (.int .i32 (sat (a + b))) ∧ w = w' := by
  obtain ⟨a1, a2⟩ := ha
  obtain ⟨b1, b2⟩ := hb
  go_enter Tryz.func90, Tryz.ntmps90
  go_wp2_with fail
  refine (fSat_any _ _).mono ?_
  rintro e w1 ⟨rfl, rfl⟩
  go_wp2
  go_ret
  exact ⟨rfl, rfl⟩
set_option maxHeartbeats 400000 in
theorem fSub_any : Calls Tryz.prog 92 #[.int .i32 a, .int .i32 b] w fun e w' => e = .returned (.int .i32 (sat (a - b))) ∧ w = w' := by
  obtain ⟨a1, a2⟩ := ha
  obtain ⟨b1, b2⟩ := hb
  go_enter Tryz.func92, Tryz.ntmps92
  go_wp2_with fail
  refine (fSat_any _ _).mono ?_
  rintro e w1 ⟨rfl, rfl⟩
  go_wp2
  go_ret
  exact ⟨rfl, rfl⟩
set_option maxHeartbeats 400000 in
theorem r10Add_any : Calls Tryz.prog 77 #[.int .i32 a, .int .i32 b] w fun e w' => e = .returned (.int .i32 (sat (a + b))) ∧ w = w' := by
  obtain ⟨a1, a2⟩ := ha
  obtain ⟨b1, b2⟩ := hb
  go_enter Tryz.func77, Tryz.ntmps77
  go_wp2_with fail
  refine (r01Sat_any _ _).mono ?_
  rintro e w1 ⟨rfl, rfl⟩
  go_wp2
  go_ret
  exact ⟨rfl, rfl⟩
set_option maxHeartbeats 400000 in
theorem r10Sub_any : Calls Tryz.prog 116 #[.int .i32 a, .int .i32 b] w fun e w' => e = .returned (.int .i32 (sat (a - b))) ∧ w = w' := by
  obtain ⟨a1, a2⟩ := ha
  obtain ⟨b1, b2⟩ := hb
  go_enter Tryz.func116, Tryz.ntmps116
  go_wp2_with fail
  refine (r01Sat_any _ _).mono ?_
  rintro e w1 ⟨rfl, rfl⟩
  go_wp2
  go_ret
  exact ⟨rfl, rfl⟩
set_option maxHeartbeats 400000 in
theorem fMul_any : Calls Tryz.prog 91 #[.int .i32 a, .int .i32 b] w fun e w' => e = .returned (.int .i32 (fmul a b)) ∧ w = w' := by
  have hm := mul_f32 ha hb
  obtain ⟨a1, a2⟩ := ha
  obtain ⟨b1, b2⟩ := hb
  have hf : sat (a * b / 65536) = fmul a b := rfl
  have HF := Lib.hid hf
  have hwr : IntKind.i64.wrap (a * b) = a * b := by rw [IntKind.wrap_i64]; omega
  clear hf
  go_enter Tryz.func91, Tryz.ntmps91
  go_wp2_with fail
  refine (fSat_any _ _).mono ?_
  rintro e w1 ⟨rfl, rfl⟩
  rw [HF.out]
  go_wp2
  go_ret
  exact ⟨rfl, rfl⟩
end
section
set_option maxHeartbeats 400000 in
theorem floor_any (a b : Int) (hb : 0 < b) (hb2 : b ≤ 4611686018427387904) (ha : -4611686018427387904 ≤ a ∧ a ≤ 4611686018427387904) (w : World) :
    Calls Tryz.prog 80 #[.int .i64 a, .int .i64 b] w fun e w' => e = .returned (.int .i64 (a / b)) ∧ w = w' := by
  obtain ⟨a1, a2⟩ := ha
  have hd := Int.mul_ediv_add_emod a b
  have h1 := Int.emod_nonneg a (by omega : b ≠ 0)
  have h2 := Int.emod_lt_of_pos a hb
  have hq : b ∣ (a - a % b) := ⟨a / b, by omega⟩
  have e1 : (a - a % b).tdiv b = a / b := by
    rw [Int.tdiv_eq_ediv_of_dvd hq]
    have : a - a % b = b * (a / b) := by omega
    rw [this, Int.mul_ediv_cancel_left _ (by omega)]
  rcases Int.lt_or_le a 0 with h0 | h0
  · have e3 := neg_tmod' a b
    have e4 : (-a).tmod b = (-a) % b := Int.tmod_eq_emod_of_nonneg (by omega)
    have e5 := Int.emod_nonneg (-a) (by omega : b ≠ 0)
    have e6 := Int.emod_lt_of_pos (-a) hb
    have hr := Int.mul_ediv_add_emod (-a) b
    by_cases hm : a.tmod b < 0
    · have hm2 : a.tmod b + b = a % b := by
        have e7 : a % b = (b - (-a) % b) % b := by
          have : a = (b - (-a) % b) + b * (-((-a) / b) - 1) := by rw [Int.mul_sub, Int.mul_neg]; omega
          calc a % b = ((b - (-a) % b) + b * (-((-a) / b) - 1)) % b := by rw [← this]
            _ = _ := by rw [Int.add_mul_emod_self_left]
        rw [e7, Int.emod_eq_of_lt (by omega) (by omega)]; omega
      have HM2 := Lib.hid hm2
      have HE1 := Lib.hid e1
      have b2 : -4611686018427387904 ≤ a.tmod b := by omega
      clear hm2 e1 e3 e4 e5 e6 hr hq hd
      go_enter Tryz.func80, Tryz.ntmps80
      go_wp2
      go_ret
      exact ⟨ret_int (by rw [HM2.out, HE1.out]), rfl⟩
    · have hz : (-a) % b = 0 := by omega
      have hz2 : a % b = 0 := Int.emod_eq_zero_of_dvd (by have := Int.dvd_of_emod_eq_zero hz; exact (Int.dvd_neg.1 this))
      rw [hz2, Int.sub_zero] at e1
      have hz3 : a.tmod b = 0 := by omega
      have HE1 := Lib.hid e1
      have HZ := Lib.hid hz3
      have b2 : 0 ≤ a.tmod b := by omega
      have b3 : a.tmod b ≤ 0 := by omega
      clear hm e1 e3 e4 e5 e6 hr hq hd hz hz2 hz3
      go_enter Tryz.func80, Tryz.ntmps80
      go_wp2
      go_ret
      exact ⟨ret_int (by rw [HZ.out, Int.sub_zero, HE1.out]), rfl⟩
  · have e9 : (a - a % b) / b = a / b := by rw [← e1, Int.tdiv_eq_ediv_of_dvd hq]
    have HE1 := Lib.hid e9
    have h5 : a % b ≤ a := by
      have : 0 ≤ a / b := Int.ediv_nonneg h0 (by omega)
      have : 0 ≤ b * (a / b) := Int.mul_nonneg (by omega) this
      omega
    have h6 : 0 ≤ a - a % b := by omega
    clear e1 hq hd e9
    go_enter Tryz.func80, Tryz.ntmps80
    go_wp2
    go_ret
    exact ⟨ret_int (by rw [HE1.out]), rfl⟩
set_option maxHeartbeats 400000 in
theorem between_any (n a b : Int) (w : World) : Calls Tryz.prog 79 #[.int .i64 n, .int .i64 a, .int .i64 b] w fun e w' => e = .returned (.int .i64 (if n < a then a else if b < n then b else n)) ∧ w = w' := by
  by_cases h1 : n < a
  · rw [if_pos h1]
    go_enter Tryz.func79, Tryz.ntmps79
    go_wp2
    go_ret
    exact ⟨rfl, rfl⟩
  · rw [if_neg h1]
    have g1 : a ≤ n := by omega
    clear h1
    by_cases h2 : b < n
    · rw [if_pos h2]
      go_enter Tryz.func79, Tryz.ntmps79
      go_wp2
      go_ret
      exact ⟨rfl, rfl⟩
    · rw [if_neg h2]
      have g2 : n ≤ b := by omega
      clear h2
      go_enter Tryz.func79, Tryz.ntmps79
      go_wp2
      go_ret
      exact ⟨rfl, rfl⟩
end
section
variable {a b : Int} (ha : F32 a) (hb : F32 b) (w : World)
include ha hb
set_option maxHeartbeats 400000 in
theorem r01Mul_any : Calls Tryz.prog 112 #[.int .i32 a, .int .i32 b] w fun e w' => e = .returned (.int .i32 (fmul a b)) ∧ w = w' := by
  have hm := mul_f32 ha hb
  obtain ⟨a1, a2⟩ := ha
  obtain ⟨b1, b2⟩ := hb
  have hf : sat (a * b / 65536) = fmul a b := rfl
  have HF := Lib.hid hf
  have hwr : IntKind.i64.wrap (a * b) = a * b := by rw [IntKind.wrap_i64]; omega
  have HM := Lib.hid hm
  clear hf hm
  go_enter Tryz.func112, Tryz.ntmps112
  go_wp2_with fail
  refine (floor_any _ _ (by decide) (by decide) HM.out _).mono ?_
  rintro e w1 ⟨rfl, rfl⟩
  go_wp2_with fail
  refine (r01Sat_any _ _).mono ?_
  rintro e w1 ⟨rfl, rfl⟩
  rw [HF.out]
  go_wp2
  go_ret
  exact ⟨rfl, rfl⟩
end
section
variable {a : Int} (ha : F32 a) (w : World)
include ha
set_option maxHeartbeats 400000 in
theorem fNeg_any : Calls Tryz.prog 123 #[.int .i32 a] w fun e w' => e = .returned (.int .i32 (sat (-a))) ∧ w = w' := by
  have h0 : F32 0 := by unfold F32; omega
  have HA := Lib.hid ha
  have H0 := Lib.hid h0
  clear ha h0
  go_enter Tryz.func123, Tryz.ntmps123
  go_wp2_with fail
  refine (fSub_any H0.out HA.out _).mono ?_
  rintro e w1 ⟨rfl, rfl⟩
  rw [Int.zero_sub]
  go_wp2
  go_ret
  exact ⟨rfl, rfl⟩
set_option maxHeartbeats 400000 in
theorem fAbs_any : Calls Tryz.prog 141 #[.int .i32 a] w fun e w' => e = .returned (.int .i32 (max a (sat (-a)))) ∧ w = w' := by
  have HA := Lib.hid ha
  clear ha
  go_enter Tryz.func141, Tryz.ntmps141
  go_wp2_with fail
  refine (fNeg_any HA.out _).mono ?_
  rintro e w1 ⟨rfl, rfl⟩
  obtain ⟨s, hs⟩ : ∃ s, sat (-a) = s := ⟨_, rfl⟩
  have HSS := Lib.hid hs
  rw [hs]
  clear hs
  go_wp2
  all_goals
    go_ret
    exact ⟨ret_int (by rw [HSS.out] <;> omega), rfl⟩
end

/-! ### quotients -/
set_option maxHeartbeats 400000 in
theorem fdown_any (a b : Int) (hb : b ≠ 0) (ha : -4611686018427387904 ≤ a ∧ a ≤ 4611686018427387904) (hb2 : F32 b) (w : World) :
    Calls Tryz.prog 153 #[.int .i64 a, .int .i64 b] w fun e w' => e = .returned (.int .i64 (fdown a b)) ∧ w = w' := by
  have hs := tdiv_signs a b hb
  obtain ⟨a1, a2⟩ := ha
  obtain ⟨b1, b2⟩ := hb2
  have hb0 : (b == 0) = false := by simpa using hb
  have hbd : -4611686018427387904 ≤ a.tdiv b ∧ a.tdiv b ≤ 4611686018427387904 := by
    have h1 := Int.natAbs_tdiv a b
    have h2 : a.natAbs.div b.natAbs ≤ a.natAbs := Nat.div_le_self _ _
    rw [← h1] at h2
    omega
  obtain ⟨c1, c2⟩ := hbd
  obtain ⟨r, hr⟩ : ∃ r, fdown a b = r := ⟨_, rfl⟩
  rw [hr] at hs ⊢
  have HS := Lib.hid hs
  clear hs hr
  by_cases hm : a.tmod b = 0
  · have hm0 : (a.tmod b != 0) = false := by simpa using hm
    have HM := Lib.hid hm
    clear hm
    go_enter Tryz.func153, Tryz.ntmps153
    go_wp2
    go_ret
    exact ⟨ret_int (by rw [HS.out, if_neg (by rw [HM.out]; simp)]), rfl⟩
  · have hm0 : (a.tmod b != 0) = true := by simpa using hm
    have HM := Lib.hid hm
    clear hm
    rcases Int.lt_or_le a 0 with h1 | h1
    · have d1 : decide (a < 0) = true := by simpa using h1
      rcases Int.lt_or_le b 0 with h2 | h2
      · have d2 : decide (b < 0) = true := by simpa using h2
        go_enter Tryz.func153, Tryz.ntmps153
        go_wp2
        go_ret
        exact ⟨ret_int (by rw [HS.out, if_neg (by simp [d1, d2])]), rfl⟩
      · have d2 : decide (b < 0) = false := by simpa using h2
        go_enter Tryz.func153, Tryz.ntmps153
        go_wp2
        go_ret
        exact ⟨ret_int (by rw [HS.out, if_pos ⟨HM.out, by simp [d1, d2]⟩]), rfl⟩
    · have d1 : decide (a < 0) = false := by simpa using h1
      rcases Int.lt_or_le b 0 with h2 | h2
      · have d2 : decide (b < 0) = true := by simpa using h2
        have e1 : a.tmod b = a % b := Int.tmod_eq_emod_of_nonneg h1
        rw [e1] at HM hm0 HS
        clear e1
        go_enter Tryz.func153, Tryz.ntmps153
        go_wp2
        go_ret
        exact ⟨ret_int (by rw [HS.out, if_pos ⟨HM.out, by simp [d1, d2]⟩]), rfl⟩
      · have d2 : decide (b < 0) = false := by simpa using h2
        have e1 : a.tmod b = a % b := Int.tmod_eq_emod_of_nonneg h1
        have e2 : a.tdiv b = a / b := Int.tdiv_eq_ediv_of_nonneg h1
        rw [e1] at HM hm0 HS
        rw [e2] at c1 c2 HS
        clear e1 e2
        go_enter Tryz.func153, Tryz.ntmps153
        go_wp2
        go_ret
        exact ⟨ret_int (by rw [HS.out, if_neg (by simp [d1, d2])]), rfl⟩
theorem fdown_neg (a b : Int) (hb : b < 0) : (-a) / (-b) = fdown a b := by unfold fdown; rw [if_pos hb]
theorem fdown_pos' (a b : Int) (hb : ¬ b < 0) : a / b = fdown a b := by unfold fdown; rw [if_neg hb]
section
variable {a b : Int} (ha : F32 a) (hb : F32 b) (w : World)
include ha hb
set_option maxHeartbeats 400000 in
theorem fDiv_any : Calls Tryz.prog 149 #[.int .i32 a, .int .i32 b] w fun e w' => e = .returned (.int .i32 (fdiv a b)) ∧ w = w' := by
  have HB := Lib.hid hb
  obtain ⟨a1, a2⟩ := ha
  obtain ⟨b1, b2⟩ := hb
  by_cases h0 : b = 0
  · subst h0
    clear b1 b2
    rcases Int.lt_trichotomy a 0 with h | h | h
    · have e : fdiv a 0 = -2147483648 := by unfold fdiv; rw [if_pos rfl, if_neg (by omega), if_pos h]
      rw [e]; clear e
      go_enter Tryz.func149, Tryz.ntmps149
      go_wp2
      go_ret
      exact ⟨rfl, rfl⟩
    · subst h
      have e : fdiv 0 0 = 0 := rfl
      rw [e]; clear e
      go_enter Tryz.func149, Tryz.ntmps149
      go_wp2
      go_ret
      exact ⟨rfl, rfl⟩
    · have e : fdiv a 0 = 2147483647 := by unfold fdiv; rw [if_pos rfl, if_pos h]
      rw [e]; clear e
      go_enter Tryz.func149, Tryz.ntmps149
      go_wp2
      go_ret
      exact ⟨rfl, rfl⟩
  · have e : fdiv a b = sat (fdown (a * 65536) b) := by unfold fdiv; rw [if_neg h0]
    have HE := Lib.hid e
    have hb0 : (b != 0) = true := by simpa using h0
    have H0 := Lib.hid h0
    rw [e]
    clear e h0
    go_enter Tryz.func149, Tryz.ntmps149
    go_wp2_with fail
    refine (fdown_any _ _ H0.out (by omega) HB.out _).mono ?_
    rintro e w1 ⟨rfl, rfl⟩
    go_wp2_with fail
    refine (fSat_any _ _).mono ?_
    rintro e w1 ⟨rfl, rfl⟩
    go_wp2
    go_ret
    exact ⟨rfl, rfl⟩
set_option maxHeartbeats 400000 in
theorem r01Div_any : Calls Tryz.prog 136 #[.int .i32 a, .int .i32 b] w fun e w' => e = .returned (.int .i32 (fdiv a b)) ∧ w = w' := by
  obtain ⟨a1, a2⟩ := ha
  obtain ⟨b1, b2⟩ := hb
  by_cases h0 : b = 0
  · subst h0
    clear b1 b2
    rcases Int.lt_trichotomy a 0 with h | h | h
    · have e : fdiv a 0 = -2147483648 := by unfold fdiv; rw [if_pos rfl, if_neg (by omega), if_pos h]
      rw [e]; clear e
      go_enter Tryz.func136, Tryz.ntmps136
      go_wp2
      go_ret
      exact ⟨rfl, rfl⟩
    · subst h
      have e : fdiv 0 0 = 0 := rfl
      rw [e]; clear e
      go_enter Tryz.func136, Tryz.ntmps136
      go_wp2
      go_ret
      exact ⟨rfl, rfl⟩
    · have e : fdiv a 0 = 2147483647 := by unfold fdiv; rw [if_pos rfl, if_pos h]
      rw [e]; clear e
      go_enter Tryz.func136, Tryz.ntmps136
      go_wp2
      go_ret
      exact ⟨rfl, rfl⟩
  · have e : fdiv a b = sat (fdown (a * 65536) b) := by unfold fdiv; rw [if_neg h0]
    have hb0 : (b == 0) = false := by simpa using h0
    by_cases h1 : b < 0
    · have e2 : (-a * 65536) / (-b) = fdown (a * 65536) b := by rw [← fdown_neg _ _ h1, Int.neg_mul]
      obtain ⟨q, hq⟩ : ∃ q, fdown (a * 65536) b = q := ⟨_, rfl⟩
      rw [e, hq]
      rw [hq] at e2
      have E2 := Lib.hid e2
      clear e e2 h0 hq
      go_enter Tryz.func136, Tryz.ntmps136
      go_wp2_with fail
      refine (floor_any _ _ (by omega) (by omega) (by omega) _).mono ?_
      rw [E2.out]
      rintro e w1 ⟨rfl, rfl⟩
      go_wp2_with fail
      refine (r01Sat_any _ _).mono ?_
      rintro e w1 ⟨rfl, rfl⟩
      go_wp2
      go_ret
      exact ⟨rfl, rfl⟩
    · have e2 : (a * 65536) / b = fdown (a * 65536) b := fdown_pos' _ _ h1
      rw [e, ← e2]
      have h2 : 0 < b := by omega
      clear e e2 h0 h1
      go_enter Tryz.func136, Tryz.ntmps136
      go_wp2_with fail
      refine (floor_any _ _ (by omega) (by omega) (by omega) _).mono ?_
      rintro e w1 ⟨rfl, rfl⟩
      go_wp2_with fail
      refine (r01Sat_any _ _).mono ?_
      rintro e w1 ⟨rfl, rfl⟩
      go_wp2
      go_ret
      exact ⟨rfl, rfl⟩
end
end Go.Proofs.YtnaclkaapicelaaGreat
