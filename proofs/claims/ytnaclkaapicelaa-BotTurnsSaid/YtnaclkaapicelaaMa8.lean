/-
  The walks beneath: Turn, Turn2, Aw30.
-/
import Derived.Test.YtnaclkaapicelaaBot2
import Derived.Test.YtnaclkaapicelaaBot3
import Derived.Test.YtnaclkaapicelaaMa2
import Derived.Test.YtnaclkaapicelaaBot4
import Derived.Test.YtnaclkaapicelaaMa5
import Derived.Test.YtnaclkaapicelaaMa3
import Derived.Test.YtnaclkaapicelaaGuard
namespace Go.Proofs.Ytnaclkaapicelaa
open Go.RowKit
set_option maxRecDepth 100000
/-- So far right and up looks one at an angle. -/
def cZ (t : Int) : Int := sinZ (t + 16384)
def sZ (t : Int) : Int := sinZ t
theorem sinZ_half (t : Int) : sinZ (t + 32768) = -sinZ t := by
  unfold sinZ
  by_cases h : 32768 ≤ t % 65536
  · have e1 : (t + 32768) % 65536 = t % 65536 - 32768 := by omega
    rw [if_pos h, e1, if_neg (by omega), Int.neg_neg]
    congr 2; omega
  · have e1 : (t + 32768) % 65536 = t % 65536 + 32768 := by omega
    rw [if_neg h, e1, if_pos (by omega)]
    congr 3; omega
theorem sZ_quart (t : Int) : sZ (t + 16384) = cZ t := rfl
theorem cZ_quart (t : Int) : cZ (t + 16384) = -sZ t := by
  unfold cZ sZ
  rw [show t + 16384 + 16384 = t + 32768 by omega, sinZ_half]
theorem cZ_half (t : Int) : cZ (t + 32768) = -cZ t := by
  unfold cZ
  rw [show t + 32768 + 16384 = t + 16384 + 32768 by omega, sinZ_half]
theorem sZ_half (t : Int) : sZ (t + 32768) = -sZ t := sinZ_half t
def DZ (t : Int) : Int := cZ t * sZ (t + 1024) - sZ t * cZ (t + 1024)
def EZ (t : Int) : Int := cZ t * cZ (t + 1024) + sZ t * sZ (t + 1024)
def NZ (t : Int) : Int := cZ t * cZ t + sZ t * sZ t
theorem quartD (t : Int) : DZ (t + 16384) = DZ t ∧ EZ (t + 16384) = EZ t ∧ NZ (t + 16384) = NZ t := by
  unfold DZ EZ NZ
  rw [show t + 16384 + 1024 = t + 1024 + 16384 by omega]
  simp only [sZ_quart, cZ_quart]
  refine ⟨?_, ?_, ?_⟩
  · rw [Int.neg_mul, Int.mul_neg]; omega
  · rw [Int.neg_mul_neg]; omega
  · rw [Int.neg_mul_neg]; omega
/-- What holds at each angle. -/
def PZ (t : Int) : Prop := 0 < DZ t ∧ 0 < EZ t ∧ 64 ≤ NZ t ∧ (16 * DZ t - EZ t) * (16 * DZ t - EZ t) ≤ NZ t * NZ (t + 1024)
theorem PZ_quart (t : Int) : PZ (t + 16384) ↔ PZ t := by
  unfold PZ
  obtain ⟨h1, h2, h3⟩ := quartD t
  have h4 := (quartD (t + 1024)).2.2
  rw [show t + 16384 + 1024 = t + 1024 + 16384 by omega, h1, h2, h3, h4]
/-! ### the first quarter, in natural numbers -/
def sN (x : Nat) : Nat := x * (32768 - x) * 1048576 / (5368709120 - 4 * (x * (32768 - x)))
theorem sN_cast (x : Nat) (h : x < 32768) : sinZ (x : Int) = (sN x : Int) := by
  have hb := sinP_bd (x : Int) (by omega) (by omega)
  have e0 : (x : Int) % 65536 = x := by omega
  have e1 : (x : Int) % 32768 = x := by omega
  unfold sinZ
  rw [e0, if_neg (by omega), e1]
  have ep : sinP (x : Int) = ((x * (32768 - x) : Nat) : Int) := by
    unfold sinP
    rw [Int.natCast_mul, Int.ofNat_sub (by omega)]
    rfl
  rw [ep] at hb ⊢
  obtain ⟨p, hp⟩ : ∃ p : Nat, x * (32768 - x) = p := ⟨_, rfl⟩
  rw [hp] at hb ⊢
  unfold sinN sN
  rw [hp, Int.natCast_ediv, Int.natCast_mul, Int.ofNat_sub (by omega), Int.natCast_mul]
  rfl
def okA (s c s' c' : Nat) : Bool := Nat.blt (s * c') (c * s') && (Nat.ble (c * c' + s * s') (16 * (c * s' - s * c')) && (Nat.blt 0 (c * c' + s * s') && (Nat.ble 64 (c * c + s * s) &&
  Nat.ble ((16 * (c * s' - s * c') - (c * c' + s * s')) * (16 * (c * s' - s * c') - (c * c' + s * s'))) ((c * c + s * s) * (c' * c' + s' * s')))))
def okB (s c s' c' : Nat) : Bool := Nat.blt (c * c') (s * s') && (Nat.ble (s * s' - c * c') (16 * (c * s' + s * c')) && (Nat.blt 0 (c * s' + s * c') && (Nat.ble 64 (c * c + s * s) &&
  Nat.ble ((16 * (c * s' + s * c') - (s * s' - c * c')) * (16 * (c * s' + s * c') - (s * s' - c * c'))) ((c * c + s * s) * (c' * c' + s' * s')))))
def okN (t : Nat) : Bool := okA (sN t) (sN (t + 16384)) (sN (t + 1024)) (sN (t + 17408))
def okM (t : Nat) : Bool := okB (sN t) (sN (t + 16384)) (sN (t + 1024)) (sN (t + 17408 - 32768))
def allN (f : Nat → Bool) : Nat → Nat → Bool
  | 0, lo => f lo
  | k + 1, lo => allN f k lo && allN f k (lo + 2 ^ k)
theorem allN_at {f : Nat → Bool} : ∀ (k lo : Nat), allN f k lo = true → ∀ t, lo ≤ t → t < lo + 2 ^ k → f t = true
  | 0, lo, h, t, h1, h2 => by
    obtain rfl : t = lo := by simp at h2; omega
    exact h
  | k + 1, lo, h, t, h1, h2 => by
    unfold allN at h
    rw [Bool.and_eq_true] at h
    have e : 2 ^ (k + 1) = 2 ^ k + 2 ^ k := by rw [Nat.pow_succ]; omega
    by_cases ht : t < lo + 2 ^ k
    · exact allN_at k lo h.1 t h1 ht
    · exact allN_at k (lo + 2 ^ k) h.2 t (by omega) (by omega)
theorem all_a : allN okN 13 0 = true := by decide +kernel
theorem all_b : allN okN 12 8192 = true := by decide +kernel
theorem all_c : allN okN 11 12288 = true := by decide +kernel
theorem all_d : allN okN 10 14336 = true := by decide +kernel
theorem all_e : allN okM 10 15360 = true := by decide +kernel
theorem PZ_of {t : Int} {s c s' c' : Int} (h1 : sZ t = s) (h2 : cZ t = c) (h3 : sZ (t + 1024) = s') (h4 : cZ (t + 1024) = c') (hD : 0 < c * s' - s * c') (hE : 0 < c * c' + s * s') (hN : 64 ≤ c * c + s * s) (hG : (16 * (c * s' - s * c') - (c * c' + s * s')) * (16 * (c * s' - s * c') - (c * c' + s * s')) ≤ (c * c + s * s) * (c' * c' + s' * s')) : PZ t := by
  unfold PZ DZ EZ NZ
  rw [h1, h2, h3, h4]
  exact ⟨hD, hE, hN, hG⟩
theorem PZ_first (k : Nat) (hk : k < 16384) : PZ (k : Int) := by
  have h1 : sZ (k : Int) = (sN k : Int) := sN_cast k (by omega)
  have h2 : cZ (k : Int) = (sN (k + 16384) : Int) := sN_cast (k + 16384) (by omega)
  have h3 : sZ ((k : Int) + 1024) = (sN (k + 1024) : Int) := sN_cast (k + 1024) (by omega)
  by_cases h : k < 15360
  · have h4 : cZ ((k : Int) + 1024) = (sN (k + 17408) : Int) := by
      have := sN_cast (k + 17408) (by omega)
      unfold cZ
      rw [← this, show (k : Int) + 1024 + 16384 = ((k + 17408 : Nat) : Int) by omega]
    have hok : okN k = true := by
      by_cases a1 : k < 8192
      · exact allN_at 13 0 all_a k (by omega) (by omega)
      · by_cases a2 : k < 12288
        · exact allN_at 12 8192 all_b k (by omega) (by omega)
        · by_cases a3 : k < 14336
          · exact allN_at 11 12288 all_c k (by omega) (by omega)
          · exact allN_at 10 14336 all_d k (by omega) (by omega)
    unfold okN at hok
    revert h1 h2 h3 h4 hok
    generalize sN k = s
    generalize sN (k + 16384) = c
    generalize sN (k + 1024) = s'
    generalize sN (k + 17408) = c'
    intro h1 h2 h3 h4 hok
    unfold okA at hok
    simp only [Bool.and_eq_true, Nat.blt_eq, Nat.ble_eq] at hok
    obtain ⟨q1, q2, q3, q4, q5⟩ := hok
    refine PZ_of h1 h2 h3 h4 ?_ ?_ ?_ ?_
    · have : ((s * c' : Nat) : Int) < ((c * s' : Nat) : Int) := by exact_mod_cast q1
      simp only [Int.natCast_mul] at this; omega
    · have : ((0 : Nat) : Int) < ((c * c' + s * s' : Nat) : Int) := by exact_mod_cast q3
      simpa using this
    · have : ((64 : Nat) : Int) ≤ ((c * c + s * s : Nat) : Int) := by exact_mod_cast q4
      simpa using this
    · have e1 : ((c * s' - s * c' : Nat) : Int) = (c : Int) * s' - s * c' := by rw [Int.ofNat_sub (Nat.le_of_lt q1)]; simp only [Int.natCast_mul]
      have e2 : ((16 * (c * s' - s * c') - (c * c' + s * s') : Nat) : Int) = 16 * ((c : Int) * s' - s * c') - (c * c' + s * s') := by
        rw [Int.ofNat_sub q2, Int.natCast_mul, e1]; simp
      have := Int.ofNat_le.2 q5
      rw [Int.natCast_mul, e2] at this
      simpa using this
  · have h4 : cZ ((k : Int) + 1024) = -(sN (k + 17408 - 32768) : Int) := by
      have := sN_cast (k + 17408 - 32768) (by omega)
      unfold cZ
      rw [← this, show (k : Int) + 1024 + 16384 = ((k + 17408 - 32768 : Nat) : Int) + 32768 by omega, sinZ_half]
    have hok : okM k = true := allN_at 10 15360 all_e k (by omega) (by omega)
    unfold okM at hok
    revert h1 h2 h3 h4 hok
    generalize sN k = s
    generalize sN (k + 16384) = c
    generalize sN (k + 1024) = s'
    generalize sN (k + 17408 - 32768) = c'
    intro h1 h2 h3 h4 hok
    unfold okB at hok
    simp only [Bool.and_eq_true, Nat.blt_eq, Nat.ble_eq] at hok
    obtain ⟨q1, q2, q3, q4, q5⟩ := hok
    have e0 : (c : Int) * s' - s * (-(c' : Int)) = c * s' + s * c' := by rw [Int.mul_neg]; omega
    have e1 : (c : Int) * (-(c' : Int)) + s * s' = s * s' - c * c' := by rw [Int.mul_neg]; omega
    have e2 : (-(c' : Int)) * (-(c' : Int)) = c' * c' := Int.neg_mul_neg _ _
    refine PZ_of h1 h2 h3 h4 ?_ ?_ ?_ ?_
    · rw [e0]
      have : ((0 : Nat) : Int) < ((c * s' + s * c' : Nat) : Int) := by exact_mod_cast q3
      simpa using this
    · rw [e1]
      have : ((c * c' : Nat) : Int) < ((s * s' : Nat) : Int) := by exact_mod_cast q1
      simp only [Int.natCast_mul] at this; omega
    · have : ((64 : Nat) : Int) ≤ ((c * c + s * s : Nat) : Int) := by exact_mod_cast q4
      simpa using this
    · rw [e0, e1, e2]
      have f1 : ((s * s' - c * c' : Nat) : Int) = (s : Int) * s' - c * c' := by rw [Int.ofNat_sub (Nat.le_of_lt q1)]; simp
      have f2 : ((16 * (c * s' + s * c') - (s * s' - c * c') : Nat) : Int) = 16 * ((c : Int) * s' + s * c') - (s * s' - c * c') := by
        rw [Int.ofNat_sub q2, f1]; simp
      have := Int.ofNat_le.2 q5
      rw [Int.natCast_mul, f2] at this
      simpa using this
theorem PZ_nat : ∀ (q : Nat) (r : Nat), r < 16384 → PZ ((r : Int) + 16384 * (q : Int))
  | 0, r, h => by simpa using PZ_first r h
  | q + 1, r, h => by
    have := PZ_nat q r h
    rw [show (r : Int) + 16384 * ((q + 1 : Nat) : Int) = (r : Int) + 16384 * (q : Int) + 16384 by omega]
    exact (PZ_quart _).2 this
theorem PZ_pos (t : Int) (h : 0 ≤ t) : PZ t := by
  have h1 : 0 ≤ t % 16384 := by omega
  have h2 : t % 16384 < 16384 := by omega
  obtain ⟨r, hr⟩ := Int.eq_ofNat_of_zero_le h1
  obtain ⟨q, hq⟩ := Int.eq_ofNat_of_zero_le (show 0 ≤ t / 16384 by omega)
  have := PZ_nat q r (by omega)
  have e : (r : Int) + 16384 * (q : Int) = t := by omega
  rwa [e] at this
/-! ### what is seen -/
def dotT (a b t : Int) : Int := cZ t * a + sZ t * b
def crossT (a b t : Int) : Int := cZ t * b - sZ t * a
def wellT (d c : Int) : Prop := 0 < d ∧ max c (-c) ≤ d / 16
theorem id_cross (c s c' s' a b : Int) : (c * s' - s * c') * (c' * a + s' * b) = -(c' * b - s' * a) * (c * c' + s * s') + (c * b - s * a) * (c' * c' + s' * s') := by grind
theorem id_dot (c s c' s' a b : Int) : (c * s' - s * c') * (c * a + s * b) = -(c' * b - s' * a) * (c * c + s * s) + (c * b - s * a) * (c * c' + s * s') := by grind
theorem id_sq (c s a b : Int) : (c * a + s * b) * (c * a + s * b) + (c * b - s * a) * (c * b - s * a) = (c * c + s * s) * (a * a + b * b) := by grind
/-- Between two looks, one step apart, nobody is passed by that is not aimed at. -/
theorem between {D E N M d d' q p : Int} (hD : 0 < D) (hE : 0 < E) (hN : 64 ≤ N) (hM : 64 ≤ M) (hG : (16 * D - E) * (16 * D - E) ≤ N * M) (h1 : D * d' = p * E + q * M) (h2 : D * d = p * N + q * E) (hq : 0 < q) (hp : 0 ≤ p) (hw : ¬ (0 < d ∧ q ≤ d / 16)) : 0 < d' ∧ p ≤ d' / 16 := by
  have a1 : 0 < q * M := Int.mul_pos hq (by omega)
  have a2 : 0 ≤ p * E := Int.mul_nonneg hp (Int.le_of_lt hE)
  have a3 : 0 < q * E := Int.mul_pos hq hE
  have a4 : 0 ≤ p * N := Int.mul_nonneg hp (by omega)
  have hd' : 0 < d' := by
    rcases Int.lt_or_le 0 d' with h | h
    · exact h
    · have := Int.mul_nonneg (Int.le_of_lt hD) (show 0 ≤ -d' by omega)
      rw [Int.mul_neg] at this; omega
  have hd : 0 < d := by
    rcases Int.lt_or_le 0 d with h | h
    · exact h
    · have := Int.mul_nonneg (Int.le_of_lt hD) (show 0 ≤ -d by omega)
      rw [Int.mul_neg] at this; omega
  have hq16 : d < 16 * q := by
    have : ¬ q ≤ d / 16 := fun h => hw ⟨hd, h⟩
    omega
  have b1 : D * d < D * (16 * q) := Int.mul_lt_mul_of_pos_left hq16 hD
  obtain ⟨G, hGd⟩ : ∃ G, 16 * D - E = G := ⟨_, rfl⟩
  have b2 : p * N < q * G := by
    have : D * (16 * q) = q * (16 * D) := by grind
    have : q * G = q * (16 * D) - q * E := by rw [← hGd, Int.mul_sub]
    omega
  rw [hGd] at hG
  have hG0 : 0 < G := by
    rcases Int.lt_or_le 0 G with h | h
    · exact h
    · have := Int.mul_nonneg (Int.le_of_lt hq) (show 0 ≤ -G by omega)
      rw [Int.mul_neg] at this; omega
  have b3 : p * N * G < q * G * G := Int.mul_lt_mul_of_pos_right b2 hG0
  have b4 : q * (G * G) ≤ q * (N * M) := Int.mul_le_mul_of_nonneg_left hG (Int.le_of_lt hq)
  have b5 : N * (p * G) < N * (q * M) := by
    have e1 : p * N * G = N * (p * G) := by grind
    have e2 : q * G * G = q * (G * G) := by grind
    have e3 : q * (N * M) = N * (q * M) := by grind
    omega
  have b6 : p * G < q * M := Int.lt_of_mul_lt_mul_left b5 (by omega)
  refine ⟨hd', ?_⟩
  have c1 : D * (16 * p) ≤ D * d' := by
    have e1 : D * (16 * p) = p * G + p * E := by rw [← hGd]; grind
    omega
  have c2 : 16 * p ≤ d' := Int.le_of_mul_le_mul_left c1 hD
  omega
section
variable {a b : Int}
theorem PZ_all (t : Int) : PZ t := by
  by_cases h : 0 ≤ t
  · exact PZ_pos t h
  · have h1 := PZ_pos (t % 65536) (by omega)
    have e : ∀ k : Int, sinZ (t % 65536 + k) = sinZ (t + k) := fun k => by
      rw [← sinZ_mod (t % 65536 + k), ← sinZ_mod (t + k)]; congr 1; omega
    have e0 : sinZ (t % 65536) = sinZ t := sinZ_mod t
    unfold PZ DZ EZ NZ sZ cZ at h1 ⊢
    have e1 : t % 65536 + 1024 + 16384 = t % 65536 + 17408 := by omega
    have e2 : t + 1024 + 16384 = t + 17408 := by omega
    rw [e1, e 16384, e 1024, e 17408, e0] at h1
    rw [e2]
    exact h1
/-- To the left's end and on: a step to the right. -/
theorem step_right (t : Int) (hc : 0 < crossT a b t) (hw : ¬ wellT (dotT a b t) (crossT a b t)) (hc' : crossT a b (t + 1024) ≤ 0) : wellT (dotT a b (t + 1024)) (crossT a b (t + 1024)) := by
  obtain ⟨hD, hE, hN, hG⟩ := PZ_all t
  have hM := (PZ_all (t + 1024)).2.2.1
  have h := between (D := DZ t) (E := EZ t) (N := NZ t) (M := NZ (t + 1024)) (d := dotT a b t) (d' := dotT a b (t + 1024)) (q := crossT a b t) (p := -crossT a b (t + 1024)) hD hE hN hM hG (id_cross _ _ _ _ a b) (id_dot _ _ _ _ a b) hc (by omega)
    (fun k => hw ⟨k.1, by rw [Int.max_eq_left (by omega)]; exact k.2⟩)
  exact ⟨h.1, by rw [Int.max_eq_right (by omega)]; exact h.2⟩
/-- And a step to the left. -/
theorem step_left (t : Int) (hc : crossT a b (t + 1024) < 0) (hw : ¬ wellT (dotT a b (t + 1024)) (crossT a b (t + 1024))) (hc' : 0 ≤ crossT a b t) : wellT (dotT a b t) (crossT a b t) := by
  obtain ⟨hD, hE, hN, hG⟩ := PZ_all t
  have hM := (PZ_all (t + 1024)).2.2.1
  have i1 := id_dot (cZ t) (sZ t) (cZ (t + 1024)) (sZ (t + 1024)) a b
  have i2 := id_cross (cZ t) (sZ t) (cZ (t + 1024)) (sZ (t + 1024)) a b
  have h := between (D := DZ t) (E := EZ t) (N := NZ (t + 1024)) (M := NZ t) (d := dotT a b (t + 1024)) (d' := dotT a b t) (q := -crossT a b (t + 1024)) (p := crossT a b t) hD hE hM hN (by rw [Int.mul_comm (NZ (t + 1024))]; exact hG)
    (by unfold DZ EZ NZ dotT crossT; rw [i1]; omega) (by unfold DZ EZ NZ dotT crossT; rw [i2]; omega) (by omega) hc'
    (fun k => hw ⟨k.1, by rw [Int.max_eq_right (by omega)]; exact k.2⟩)
  exact ⟨h.1, by rw [Int.max_eq_left (by omega)]; exact h.2⟩
end
/-! ### the turning -/
/-- What is pressed: nothing, left, right. -/
def turnT (d c : Int) : Int := if 0 < d ∧ max c (-c) ≤ d / 16 then 0 else if c < 0 then 1 else if 0 < c ∨ d ≤ 0 then 2 else 0
def nextT (a b t : Int) : Int := if turnT (dotT a b t) (crossT a b t) = 1 then (t - 1024) % 65536 else (t + 1024) % 65536
/-- Within so many steps it aims well. -/
def SoonT (a b : Int) : Nat → Int → Prop
  | 0, t => turnT (dotT a b t) (crossT a b t) = 0
  | n + 1, t => turnT (dotT a b t) (crossT a b t) = 0 ∨ ((turnT (dotT a b t) (crossT a b t) = 1 ∨ turnT (dotT a b t) (crossT a b t) = 2) ∧ SoonT a b n (nextT a b t))
theorem see_mod (a b t : Int) : dotT a b (t % 65536) = dotT a b t ∧ crossT a b (t % 65536) = crossT a b t := by
  have e0 : sZ (t % 65536) = sZ t := sinZ_mod t
  have e1 : cZ (t % 65536) = cZ t := cos_arg t
  unfold dotT crossT
  rw [e0, e1]
  exact ⟨rfl, rfl⟩
theorem soon_mono {a b : Int} : ∀ (n m : Nat) (t : Int), n ≤ m → SoonT a b n t → SoonT a b m t
  | 0, 0, _, _, h => h
  | 0, _ + 1, _, _, h => .inl h
  | n + 1, 0, _, hm, _ => by omega
  | n + 1, m + 1, t, hm, h => by
    rcases h with h | ⟨h1, h2⟩
    · exact .inl h
    · exact .inr ⟨h1, soon_mono n m _ (by omega) h2⟩
theorem soon_now {a b : Int} (n : Nat) (t : Int) (h : turnT (dotT a b t) (crossT a b t) = 0) : SoonT a b n t := soon_mono 0 n t (Nat.zero_le _) h
theorem soon_mod {a b : Int} : ∀ (n : Nat) (t : Int), SoonT a b n (t % 65536) ↔ SoonT a b n t
  | 0, t => by
    unfold SoonT
    rw [(see_mod a b t).1, (see_mod a b t).2]
  | n + 1, t => by
    unfold SoonT
    have e : nextT a b (t % 65536) = nextT a b t := by
      unfold nextT
      rw [(see_mod a b t).1, (see_mod a b t).2]
      split <;> omega
    rw [(see_mod a b t).1, (see_mod a b t).2, e]
theorem turn_well {d c : Int} (h : wellT d c) : turnT d c = 0 := by unfold wellT at h; unfold turnT; rw [if_pos h]
theorem turn_right {d c : Int} (h : ¬ wellT d c) (hc : 0 < c) : turnT d c = 2 := by
  unfold wellT at h
  unfold turnT
  rw [if_neg h, if_neg (by omega), if_pos (.inl hc)]
theorem turn_left {d c : Int} (h : ¬ wellT d c) (hc : c < 0) : turnT d c = 1 := by
  unfold wellT at h
  unfold turnT
  rw [if_neg h, if_pos hc]
theorem soon_right {a b : Int} : ∀ (j : Nat) (t : Int), 0 < crossT a b t → crossT a b (t + 1024 * (j : Int)) ≤ 0 → SoonT a b j t
  | 0, t, h, h' => by simp at h'; omega
  | j + 1, t, h, h' => by
    by_cases hw : wellT (dotT a b t) (crossT a b t)
    · exact .inl (turn_well hw)
    · have ht := turn_right hw h
      refine .inr ⟨.inr ht, ?_⟩
      have e : nextT a b t = (t + 1024) % 65536 := by unfold nextT; rw [if_neg (by rw [ht]; decide)]
      rw [e, soon_mod]
      by_cases hn : crossT a b (t + 1024) ≤ 0
      · exact soon_now _ _ (turn_well (step_right t h hw hn))
      · exact soon_right j (t + 1024) (by omega) (by rw [show t + 1024 + 1024 * (j : Int) = t + 1024 * ((j + 1 : Nat) : Int) by omega]; exact h')
theorem soon_left {a b : Int} : ∀ (j : Nat) (t : Int), crossT a b t < 0 → 0 ≤ crossT a b (t - 1024 * (j : Int)) → SoonT a b j t
  | 0, t, h, h' => by simp at h'; omega
  | j + 1, t, h, h' => by
    by_cases hw : wellT (dotT a b t) (crossT a b t)
    · exact .inl (turn_well hw)
    · have ht := turn_left hw h
      refine .inr ⟨.inl ht, ?_⟩
      have e : nextT a b t = (t - 1024) % 65536 := by unfold nextT; rw [if_pos ht]
      rw [e, soon_mod]
      by_cases hn : 0 ≤ crossT a b (t - 1024)
      · have et : t - 1024 + 1024 = t := by omega
        exact soon_now _ _ (turn_well (step_left (t - 1024) (by rw [et]; exact h) (by rw [et]; exact hw) hn))
      · exact soon_left j (t - 1024) (by omega) (by rw [show t - 1024 - 1024 * (j : Int) = t - 1024 * ((j + 1 : Nat) : Int) by omega]; exact h')
theorem cross_half (a b t : Int) : crossT a b (t + 32768) = -crossT a b t ∧ dotT a b (t + 32768) = -dotT a b t := by
  unfold crossT dotT
  rw [cZ_half, sZ_half]
  simp only [Int.neg_mul]
  omega
theorem id_back (c s c' s' a b : Int) : (c * c + s * s) * (c' * b - s' * a) = -(c * a + s * b) * (c * s' - s * c') + (c * b - s * a) * (c * c' + s * s') := by grind
theorem sq_pos {x : Int} (h : x ≠ 0) : 0 < x * x := by
  rcases Int.lt_or_gt_of_ne h with h | h
  · have := Int.mul_pos (show 0 < -x by omega) (show 0 < -x by omega)
    rwa [Int.neg_mul_neg] at this
  · exact Int.mul_pos h h
/-- From any angle it aims well within 33 steps. -/
theorem soon_all (a b t : Int) (hab : a ≠ 0 ∨ b ≠ 0) : SoonT a b 33 t := by
  rcases Int.lt_trichotomy (crossT a b t) 0 with h | h | h
  · refine soon_mono 32 33 t (by decide) (soon_left 32 t h ?_)
    have := (cross_half a b (t - 32768)).1
    rw [show t - 32768 + 32768 = t by omega] at this
    rw [show t - 1024 * ((32 : Nat) : Int) = t - 32768 by omega]
    omega
  · by_cases hd : 0 < dotT a b t
    · refine soon_now _ _ (turn_well ⟨hd, ?_⟩)
      rw [h]
      show max 0 (-0) ≤ _
      omega
    · have ht : turnT (dotT a b t) (crossT a b t) = 2 := by
        unfold turnT
        rw [h, if_neg (fun k => hd k.1), if_neg (by decide), if_pos (.inr (by omega))]
      refine .inr ⟨.inr ht, ?_⟩
      have e : nextT a b t = (t + 1024) % 65536 := by unfold nextT; rw [if_neg (by rw [ht]; decide)]
      rw [e, soon_mod]
      obtain ⟨hD, hE, hN, -⟩ := PZ_all t
      have hd0 : dotT a b t < 0 := by
        rcases Int.lt_or_le (dotT a b t) 0 with k | k
        · exact k
        · have hz : dotT a b t = 0 := by omega
          have hs : dotT a b t * dotT a b t + crossT a b t * crossT a b t = NZ t * (a * a + b * b) := id_sq (cZ t) (sZ t) a b
          rw [hz, h] at hs
          have : 0 < a * a + b * b := by
            have ha := sq_nonneg' a
            have hb := sq_nonneg' b
            rcases hab with h0 | h0
            · have := sq_pos h0; omega
            · have := sq_pos h0; omega
          have := Int.mul_pos (show 0 < NZ t by omega) this
          simp at hs; omega
      have hi : NZ t * crossT a b (t + 1024) = -dotT a b t * DZ t + crossT a b t * EZ t := id_back (cZ t) (sZ t) (cZ (t + 1024)) (sZ (t + 1024)) a b
      rw [h, Int.zero_mul, Int.add_zero] at hi
      have hp : 0 < -dotT a b t * DZ t := Int.mul_pos (by omega) hD
      have hc : 0 < crossT a b (t + 1024) := by
        rcases Int.lt_or_le 0 (crossT a b (t + 1024)) with k | k
        · exact k
        · have := Int.mul_nonneg (show 0 ≤ NZ t by omega) (show 0 ≤ -crossT a b (t + 1024) by omega)
          rw [Int.mul_neg] at this; omega
      refine soon_right 32 (t + 1024) hc ?_
      have := (cross_half a b (t + 1024)).1
      rw [show t + 1024 + 1024 * ((32 : Nat) : Int) = t + 1024 + 32768 by omega]
      omega
  · refine soon_mono 32 33 t (by decide) (soon_right 32 t h ?_)
    have := (cross_half a b t).1
    rw [show t + 1024 * ((32 : Nat) : Int) = t + 32768 by omega]
    omega
/-- One that aims well aims well by an eighth, too. -/
theorem well_eighth {a b t : Int} (hab : a ≠ 0 ∨ b ≠ 0) (h : turnT (dotT a b t) (crossT a b t) = 0) : 0 < dotT a b t ∧ crossT a b t < dotT a b t / 8 ∧ -crossT a b t < dotT a b t / 8 := by
  have hw : 0 < dotT a b t ∧ max (crossT a b t) (-crossT a b t) ≤ dotT a b t / 16 := by
    unfold turnT at h
    split at h
    · assumption
    · split at h
      · cases h
      · split at h
        · cases h
        · rename_i h1 h2 h3
          exact absurd ⟨by omega, by omega⟩ h1
  obtain ⟨hd, hm⟩ := hw
  have hs : dotT a b t * dotT a b t + crossT a b t * crossT a b t = NZ t * (a * a + b * b) := id_sq (cZ t) (sZ t) a b
  have hN := (PZ_all t).2.2.1
  have hq : 1 ≤ a * a + b * b := by
    have ha := sq_nonneg' a
    have hb := sq_nonneg' b
    rcases hab with h0 | h0
    · have := sq_pos h0; omega
    · have := sq_pos h0; omega
  have hge : 64 ≤ NZ t * (a * a + b * b) := by
    have := Int.mul_le_mul hN hq (by decide) (by omega)
    omega
  have h8 : 8 ≤ dotT a b t := by
    rcases Int.lt_or_le (dotT a b t) 8 with k | k
    · have hc0 : crossT a b t = 0 := by omega
      rw [hc0] at hs
      have hd7 : dotT a b t * dotT a b t ≤ 7 * 7 := Int.mul_le_mul (by omega) (by omega) (by omega) (by decide)
      omega
    · exact k
  omega
end Go.Proofs.Ytnaclkaapicelaa

namespace Go.Proofs.Ytnaclkaapicelaa
open Go.RowKit
set_option maxRecDepth 100000
set_option linter.unusedSimpArgs false
def plF (x y f : Int) : Nat → Int := fun j => if j = 0 then x else if j = 1 then y else if j = 4 then f else if j = 5 then 3 else 0
/-- Behind so many frames: one stands in the middle and looks somewhere, the other one stands somewhere. -/
def TB (a b f i : Int) : Nat → Int := putP (putP (upd (upd (upd (fun _ => 0) 0 i) 1 1) 3 (600 - i)) 0 (plF 0 0 f)) 1 (plF (a * 65536) (b * 65536) 32768)
section
variable {a b f i : Int}
theorem TB_p0 (j : Nat) (hj : j < 10) : TB a b f i (4 + j) = plF 0 0 f j := by
  unfold TB
  rw [putP_other _ 1 _ _ (.inl (by omega))]
  exact putP_at _ 0 _ j hj
theorem TB_p1 (j : Nat) (hj : j < 10) : TB a b f i (14 + j) = plF (a * 65536) (b * 65536) 32768 j := putP_at _ 1 _ j hj
theorem TB_hd (j : Nat) (hj : j < 4) : TB a b f i j = if j = 0 then i else if j = 1 then 1 else if j = 3 then 600 - i else 0 := by
  unfold TB
  rw [putP_other _ 1 _ _ (.inl (by omega)), putP_other _ 0 _ _ (.inl (by omega))]
  unfold upd
  have : j = 0 ∨ j = 1 ∨ j = 2 ∨ j = 3 := by omega
  rcases this with rfl | rfl | rfl | rfl <;> simp
theorem TB_sh (j : Nat) (hj : 24 ≤ j) : TB a b f i j = 0 := by
  unfold TB
  rw [putP_other _ 1 _ _ (.inr (by omega)), putP_other _ 0 _ _ (.inr (by omega))]
  unfold upd
  rw [if_neg (by omega), if_neg (by omega), if_neg (by omega)]
/-- What a player does who only turns. -/
theorem play_turn {S : Nat → Int} {k n : Nat} {F g : Int} (hn : n = 0 ∨ n = 1 ∨ n = 2) (h2 : getP S k 2 = 0) (h3 : getP S k 3 = 0) (h6 : getP S k 6 = 0) (h7 : getP S k 7 = 0) (h8 : getP S k 8 = 0)
    (hg : (getP S k 4 - (if bit n 1 then 1024 else 0) + (if bit n 2 then 1024 else 0)) % 65536 = g) (h0 : -3932160 ≤ getP S k 0 ∧ getP S k 0 ≤ 3932160) (h1 : -3932160 ≤ getP S k 1 ∧ getP S k 1 ≤ 3932160) :
    playS k n F (S, []) = (putP S k (upd (getP S k) 4 g), []) := by
  obtain ⟨p, hp⟩ : ∃ p, getP S k = p := ⟨_, rfl⟩
  rw [hp] at h2 h3 h6 h7 h8 hg h0 h1 ⊢
  have bits : bit n 4 = false ∧ bit n 8 = false ∧ bit n 16 = false ∧ bit n 32 = false := by
    rcases hn with rfl | rfl | rfl <;> decide
  obtain ⟨b4, b8, b16, b32⟩ := bits
  have hid : ∀ (p : Nat → Int) (j : Nat) (v : Int), v = p j → upd p j v = p := fun p j v h => by
    funext m
    unfold upd
    split
    · rename_i e; rw [e, h]
    · rfl
  have e1 : pCool p = p := by
    unfold pCool
    rw [h6, h7, hid p 6 _ (by rw [h6]; decide), hid p 7 _ (by rw [h7]; decide)]
  have e2 : pFace p n = upd p 4 g := by rw [pFace_eq, hg]
  obtain ⟨q, hq⟩ : ∃ q, upd p 4 g = q := ⟨_, rfl⟩
  have q2 : q 2 = 0 := by rw [← hq]; exact h2
  have q3 : q 3 = 0 := by rw [← hq]; exact h3
  have q0 : q 0 = p 0 := by rw [← hq]; rfl
  have q1 : q 1 = p 1 := by rw [← hq]; rfl
  have e3 : pBrake q n = q := by unfold pBrake; rw [b8]; rfl
  have e4 : pThrust q n = q := by unfold pThrust; rw [b4]; rfl
  have e5 : pDash q n = q := by unfold pDash; rw [b32]; rfl
  have e6 : pSlow q = q := by
    unfold pSlow
    rw [q2, q3, hid q 2 _ (by rw [q2]; decide), hid q 3 _ (by rw [q3]; decide)]
  have hpad : ∀ x : Int, -3932160 ≤ x → x ≤ 3932160 → padd x 0 = x := fun x h h' => by unfold padd sat; omega
  have w0 : wallP (q 0) (q 2) (-3932160) 3932160 = q 0 := by unfold wallP; rw [q2, hpad (q 0) (by omega) (by omega), if_neg (by omega), if_neg (by omega)]
  have w1 : wallP (q 1) (q 3) (-3932160) 3932160 = q 1 := by unfold wallP; rw [q3, hpad (q 1) (by omega) (by omega), if_neg (by omega), if_neg (by omega)]
  have v0 : wallV (q 0) (q 2) (-3932160) 3932160 = q 2 := by unfold wallV; rw [q2, hpad (q 0) (by omega) (by omega), if_neg (by omega), if_neg (by omega)]
  have v1 : wallV (q 1) (q 3) (-3932160) 3932160 = q 3 := by unfold wallV; rw [q3, hpad (q 1) (by omega) (by omega), if_neg (by omega), if_neg (by omega)]
  have e7 : pMove q = q := by
    unfold pMove
    rw [w0, w1, v0, v1, hid q 0 _ rfl, hid q 1 _ rfl, hid q 2 _ rfl, hid q 3 _ rfl]
  have e8 : wMove q = 0 := by
    unfold wMove wallW
    rw [q2, q3, hpad (q 0) (by omega) (by omega), hpad (q 1) (by omega) (by omega), if_neg (by omega), if_neg (by omega), if_neg (by omega), if_neg (by omega)]
    rfl
  have es : steerP p n = q := by unfold steerP; rw [e1, e2, hq, e3, e4, e5, e6]
  have el : steerL k p n F [] = [] := by
    unfold steerL lDash lThrust
    rw [b32, b4]; rfl
  have em : lMove k q F [] = [] := by unfold lMove; rw [e8]; rfl
  unfold playS
  dsimp only
  rw [hp, if_neg (by rw [h8]; decide), if_neg (by rw [h8]; decide), b16, es, el, em, e7, hq, if_neg (by decide)]
theorem f_far (h : 10 ≤ a ∨ a ≤ -10) (ha : -49 ≤ a ∧ a ≤ 49) : 274877906944 < (a * 65536) * (a * 65536) := by
  rcases h with h | h
  · have := Int.mul_le_mul (show (655360 : Int) ≤ a * 65536 by omega) (show (655360 : Int) ≤ a * 65536 by omega) (by decide) (by omega)
    omega
  · have := Int.mul_le_mul (show (655360 : Int) ≤ -(a * 65536) by omega) (show (655360 : Int) ≤ -(a * 65536) by omega) (by decide) (by omega)
    rw [Int.neg_mul_neg] at this
    omega
theorem TB_touch (hfar : (10 ≤ a ∨ a ≤ -10) ∨ (10 ≤ b ∨ b ≤ -10)) (ha : -49 ≤ a ∧ a ≤ 49) (hb : -49 ≤ b ∧ b ≤ 49) : touchB 0 0 262144 (a * 65536) (b * 65536) 262144 = false := by
  have e1 : psub (a * 65536) 0 = a * 65536 := by unfold psub sat; omega
  have e2 : psub (b * 65536) 0 = b * 65536 := by unfold psub sat; omega
  have e3 : padd 262144 262144 = 524288 := by decide
  have e4 : sq 524288 = 274877906944 := by decide
  unfold touchB nearB
  rw [e1, e2, e3, e4]
  have : ¬ (sq (a * 65536) + sq (b * 65536) ≤ 274877906944) := by
    unfold sq
    rcases hfar with h | h
    · have := f_far h ha; omega
    · have := f_far h hb; omega
  rw [decide_eq_false this]
  simp
theorem flyTo_none {S : Nat → Int} {F : Int} {L : List Ev} (h : ∀ k, k < 6 → S (24 + k * 6 + 4) = 0) : ∀ k, k ≤ 6 → flyTo F (S, L) k = (S, L)
  | 0, _ => rfl
  | k + 1, hk => by
    show flyS k F (flyTo F (S, L) k) = (S, L)
    rw [flyTo_none h k (by omega)]
    unfold flyS
    rw [if_pos (h k (by omega))]
theorem step_turn (hfar : (10 ≤ a ∨ a ≤ -10) ∨ (10 ≤ b ∨ b ≤ -10)) (ha : -49 ≤ a ∧ a ≤ 49) (hb : -49 ≤ b ∧ b ≤ 49) (hi : 0 ≤ i ∧ i < 100) {n : Nat} {g : Int} (hn : n = 1 ∧ g = (f - 1024) % 65536 ∨ n = 2 ∧ g = (f + 1024) % 65536) :
    stepS n 0 (TB a b f i) = (TB a b g (i + 1), []) := by
  obtain ⟨S, hS⟩ : ∃ S, TB a b f i = S := ⟨_, rfl⟩
  have p0 : ∀ j, j < 10 → S (4 + j) = plF 0 0 f j := fun j hj => by rw [← hS]; exact TB_p0 j hj
  have p1 : ∀ j, j < 10 → S (14 + j) = plF (a * 65536) (b * 65536) 32768 j := fun j hj => by rw [← hS]; exact TB_p1 j hj
  have hd : ∀ j, j < 4 → S j = if j = 0 then i else if j = 1 then 1 else if j = 3 then 600 - i else 0 := fun j hj => by rw [← hS]; exact TB_hd j hj
  have sh : ∀ j, 24 ≤ j → S j = 0 := fun j hj => by rw [← hS]; exact TB_sh j hj
  rw [hS]
  have s1 : playS 0 n (S 0) (S, []) = (putP S 0 (upd (getP S 0) 4 g), []) := by
    refine play_turn (by rcases hn with h | h <;> omega) (p0 2 (by decide)) (p0 3 (by decide)) (p0 6 (by decide)) (p0 7 (by decide)) (p0 8 (by decide)) ?_ ?_ ?_
    · have e : getP S 0 4 = f := p0 4 (by decide)
      rw [e]
      rcases hn with ⟨rfl, rfl⟩ | ⟨rfl, rfl⟩
      · rw [show bit 1 1 = true from rfl, show bit 1 2 = false from rfl]; simp
      · rw [show bit 2 1 = false from rfl, show bit 2 2 = true from rfl]; simp
    · have e : getP S 0 0 = 0 := p0 0 (by decide)
      rw [e]; decide
    · have e : getP S 0 1 = 0 := p0 1 (by decide)
      rw [e]; decide
  obtain ⟨T, hT⟩ : ∃ T, putP S 0 (upd (getP S 0) 4 g) = T := ⟨_, rfl⟩
  rw [hT] at s1
  have t1 : ∀ j, j < 10 → T (14 + j) = plF (a * 65536) (b * 65536) 32768 j := fun j hj => by
    rw [← hT, putP_other S 0 _ _ (.inr (by omega))]; exact p1 j hj
  have s2 : playS 1 0 (S 0) (T, []) = (T, []) := by
    have := play_turn (S := T) (k := 1) (n := 0) (F := S 0) (g := 32768) (.inl rfl) (t1 2 (by decide)) (t1 3 (by decide)) (t1 6 (by decide)) (t1 7 (by decide)) (t1 8 (by decide)) (by
        have e : getP T 1 4 = 32768 := t1 4 (by decide)
        rw [e]; decide) (by
        have e : getP T 1 0 = a * 65536 := t1 0 (by decide)
        rw [e]; omega) (by
        have e : getP T 1 1 = b * 65536 := t1 1 (by decide)
        rw [e]; omega)
    rw [this]
    have e : upd (getP T 1) 4 32768 = getP T 1 := by
      funext m
      unfold upd
      split
      · rename_i e; rw [e]; exact (t1 4 (by decide)).symm
      · rfl
    rw [e, putP_get]
  have tp : ∀ j, j < 10 → T (4 + j) = upd (getP S 0) 4 g j := fun j hj => by rw [← hT]; exact putP_at S 0 _ j hj
  have s3 : clashS (S 0) (T, []) = (T, []) := by
    have x4 : T 4 = 0 := (tp 0 (by decide)).trans (p0 0 (by decide))
    have x5 : T 5 = 0 := (tp 1 (by decide)).trans (p0 1 (by decide))
    have x14 : T 14 = a * 65536 := t1 0 (by decide)
    have x15 : T 15 = b * 65536 := t1 1 (by decide)
    have hc : clashB T = false := by
      unfold clashB
      rw [x4, x5, x14, x15, TB_touch hfar ha hb, Bool.and_false, Bool.and_false]
    show (if clashB T then _ else (T, [])) = _
    rw [hc]; rfl
  have s4 : flyTo (S 0) (T, []) 6 = (T, []) := flyTo_none (fun k hk => by
    rw [← hT, putP_other S 0 _ _ (.inr (by omega))]; exact sh _ (by omega)) 6 (by decide)
  have h3 : T 3 = 600 - i := by rw [← hT, putP_other S 0 _ _ (.inl (by omega))]; exact hd 3 (by decide)
  have s5 : roundS (S 0) (T, []) = (upd T 3 (T 3 - 1), []) := by
    have x13 : T 13 = 0 := (tp 9 (by decide)).trans (p0 9 (by decide))
    have x23 : T 23 = 0 := t1 9 (by decide)
    have ho : overB T = false := by
      unfold overB
      rw [h3, x13, x23, decide_eq_false (by omega)]
      decide
    show (if overB T then _ else (upd T 3 (T 3 - 1), [])) = _
    rw [ho]; rfl
  unfold stepS
  dsimp only
  rw [s1, s2, s3, s4, s5]
  dsimp only
  have h0 : S 0 = i := hd 0 (by decide)
  rw [h0, h3]
  congr 1
  funext m
  unfold upd
  by_cases m0 : m = 0
  · subst m0
    rw [if_pos rfl]
    exact (TB_hd 0 (by decide)).symm
  · rw [if_neg m0]
    by_cases m3 : m = 3
    · subst m3
      rw [if_pos rfl]
      have := TB_hd (a := a) (b := b) (f := g) (i := i + 1) 3 (by decide)
      rw [this]
      simp; omega
    · rw [if_neg m3, ← hT]
      by_cases mh : m < 4
      · rw [putP_other S 0 _ _ (.inl (by omega)), hd m mh, TB_hd m mh, if_neg m0, if_neg m0, if_neg m3]
        simp [m3]
      · by_cases mp : m < 14
        · obtain ⟨j, rfl⟩ : ∃ j, m = 4 + j := ⟨m - 4, by omega⟩
          have := putP_at S 0 (upd (getP S 0) 4 g) j (by omega)
          rw [TB_p0 j (by omega)]
          rw [show 4 + j = 4 + 0 * 10 + j by omega, this]
          unfold upd
          by_cases j4 : j = 4
          · subst j4; rfl
          · rw [if_neg j4]
            have := p0 j (by omega)
            rw [show getP S 0 j = S (4 + j) from rfl, this]
            unfold plF
            simp [j4]
        · rw [putP_other S 0 _ _ (.inr (by omega))]
          by_cases mq : m < 24
          · obtain ⟨j, rfl⟩ : ∃ j, m = 14 + j := ⟨m - 14, by omega⟩
            rw [p1 j (by omega), TB_p1 j (by omega)]
          · rw [sh m (by omega), TB_sh m (by omega)]
theorem wf_i32 {n : Int} (h : -2147483648 ≤ n ∧ n ≤ 2147483647) : (Lit.int .i32 n).wf = true := by
  have : IntKind.i32.min ≤ n ∧ n ≤ IntKind.i32.max := h
  simpa [Lit.wf] using this
theorem wf_i64 {n : Int} (h : -9223372036854775808 ≤ n ∧ n ≤ 9223372036854775807) : (Lit.int .i64 n).wf = true := by
  have : IntKind.i64.min ≤ n ∧ n ≤ IntKind.i64.max := h
  simpa [Lit.wf] using this
theorem wf_u32 {n : Int} (h : 0 ≤ n ∧ n ≤ 4294967295) : (Lit.int .u32 n).wf = true := by
  have : IntKind.u32.min ≤ n ∧ n ≤ IntKind.u32.max := h
  simpa [Lit.wf] using this
theorem plF_wf {x y g : Int} (hx : -3932160 ≤ x ∧ x ≤ 3932160) (hy : -3932160 ≤ y ∧ y ≤ 3932160) (hg : 0 ≤ g ∧ g ≤ 65535) (m : Nat) (hm : m < 10) : (Lit.int (kdP m) (plF x y g m)).wf = true := by
  have : m = 0 ∨ m = 1 ∨ m = 2 ∨ m = 3 ∨ m = 4 ∨ m = 5 ∨ m = 6 ∨ m = 7 ∨ m = 8 ∨ m = 9 := by omega
  rcases this with rfl | rfl | rfl | rfl | rfl | rfl | rfl | rfl | rfl | rfl
  · exact wf_i32 (by show _ ≤ x ∧ x ≤ _; omega)
  · exact wf_i32 (by show _ ≤ y ∧ y ≤ _; omega)
  · exact wf_i32 (show (-2147483648 : Int) ≤ 0 ∧ (0 : Int) ≤ 2147483647 by decide)
  · exact wf_i32 (show (-2147483648 : Int) ≤ 0 ∧ (0 : Int) ≤ 2147483647 by decide)
  · exact wf_i64 (by show _ ≤ g ∧ g ≤ _; omega)
  · exact wf_i64 (show (-9223372036854775808 : Int) ≤ 3 ∧ (3 : Int) ≤ 9223372036854775807 by decide)
  · exact wf_i64 (show (-9223372036854775808 : Int) ≤ 0 ∧ (0 : Int) ≤ 9223372036854775807 by decide)
  · exact wf_i64 (show (-9223372036854775808 : Int) ≤ 0 ∧ (0 : Int) ≤ 9223372036854775807 by decide)
  · exact wf_i64 (show (-9223372036854775808 : Int) ≤ 0 ∧ (0 : Int) ≤ 9223372036854775807 by decide)
  · exact wf_i64 (show (-9223372036854775808 : Int) ≤ 0 ∧ (0 : Int) ≤ 9223372036854775807 by decide)
theorem zero_wf (j : Fin 60) : (Lit.int (kdS j.1) 0).wf = true := by revert j; decide +kernel
theorem TB_fit (ha : -49 ≤ a ∧ a ≤ 49) (hb : -49 ≤ b ∧ b ≤ 49) (hi : 0 ≤ i ∧ i ≤ 100) (hf : 0 ≤ f ∧ f ≤ 65535) : FitS (TB a b f i) := fun j hj => by
  by_cases h4 : j < 4
  · rw [TB_hd j h4]
    have : j = 0 ∨ j = 1 ∨ j = 2 ∨ j = 3 := by omega
    rcases this with rfl | rfl | rfl | rfl
    · exact wf_i64 (by show _ ≤ i ∧ i ≤ _; omega)
    · exact wf_u32 (show (0 : Int) ≤ 1 ∧ (1 : Int) ≤ 4294967295 by decide)
    · exact wf_i64 (show (-9223372036854775808 : Int) ≤ 0 ∧ (0 : Int) ≤ 9223372036854775807 by decide)
    · exact wf_i64 (by show _ ≤ 600 - i ∧ 600 - i ≤ _; omega)
  · by_cases h14 : j < 14
    · obtain ⟨m, rfl⟩ : ∃ m, j = 4 + m := ⟨j - 4, by omega⟩
      rw [TB_p0 m (by omega), show kdS (4 + m) = kdP m from kdS_p 0 m (by decide) (by omega)]
      exact plF_wf (by decide) (by decide) hf m (by omega)
    · by_cases h24 : j < 24
      · obtain ⟨m, rfl⟩ : ∃ m, j = 14 + m := ⟨j - 14, by omega⟩
        rw [TB_p1 m (by omega), show kdS (14 + m) = kdP m from kdS_p 1 m (by decide) (by omega)]
        exact plF_wf (by omega) (by omega) (by decide) m (by omega)
      · rw [TB_sh j (by omega)]
        exact zero_wf ⟨j, hj⟩
theorem TB_right (ha : -49 ≤ a ∧ a ≤ 49) (hb : -49 ≤ b ∧ b ≤ 49) (hi : 0 ≤ i ∧ i ≤ 100) (hf : 0 ≤ f ∧ f ≤ 65535) : rightS (TB a b f i) = true := by
  refine (rightS_iff _).2 ⟨fun k hk => ?_, ?_, ?_, ?_, ?_, ?_⟩
  · unfold shotB
    rw [(shotZ_iff (getS (TB a b f i) k)).2 ⟨TB_sh (24 + k * 6 + 0) (by omega), TB_sh (24 + k * 6 + 1) (by omega), TB_sh (24 + k * 6 + 2) (by omega), TB_sh (24 + k * 6 + 3) (by omega), TB_sh (24 + k * 6 + 4) (by omega), TB_sh (24 + k * 6 + 5) (by omega)⟩]
    rfl
  · have e : ∀ j, j < 10 → getP (TB a b f i) 0 j = plF 0 0 f j := fun j hj => TB_p0 j hj
    rw [playerB_iff]
    rw [e 0 (by decide), e 1 (by decide), e 4 (by decide), e 5 (by decide), e 6 (by decide), e 7 (by decide), e 8 (by decide), e 9 (by decide)]
    refine ⟨hf, ?_, ?_, ?_, ?_, ?_, ?_, ?_⟩ <;> simp [plF]
  · have e : ∀ j, j < 10 → getP (TB a b f i) 1 j = plF (a * 65536) (b * 65536) 32768 j := fun j hj => TB_p1 j hj
    rw [playerB_iff]
    rw [e 0 (by decide), e 1 (by decide), e 4 (by decide), e 5 (by decide), e 6 (by decide), e 7 (by decide), e 8 (by decide), e 9 (by decide)]
    refine ⟨?_, ?_, ?_, ?_, ?_, ?_, ⟨?_, ?_, ?_, ?_⟩, ?_⟩ <;> simp [plF] <;> omega
  · rw [TB_hd 0 (by decide)]; simp; omega
  · rw [TB_hd 2 (by decide)]; simp
  · rw [TB_hd 3 (by decide)]; simp; omega
theorem TB_ok (ha : -49 ≤ a ∧ a ≤ 49) (hb : -49 ≤ b ∧ b ≤ 49) (hi : 0 ≤ i ∧ i ≤ 100) (hf : 0 ≤ f ∧ f ≤ 65535) : StOk (TB a b f i) := StOk.of (TB_fit ha hb hi hf) (TB_right ha hb hi hf)
theorem fmul_whole {x m : Int} (hx : -65536 ≤ x ∧ x ≤ 65536) (hm : -49 ≤ m ∧ m ≤ 49) : fmul x (m * 65536) = x * m ∧ -3211264 ≤ x * m ∧ x * m ≤ 3211264 := by
  have hb : -3211264 ≤ x * m ∧ x * m ≤ 3211264 := by
    rcases Int.le_total 0 x with h | h
    · have h1 := Int.mul_le_mul_of_nonneg_left hm.2 h
      have h2 := Int.mul_le_mul_of_nonneg_left hm.1 h
      omega
    · have h1 := Int.mul_le_mul_of_nonneg_left hm.2 (show 0 ≤ -x by omega)
      have h2 := Int.mul_le_mul_of_nonneg_left hm.1 (show 0 ≤ -x by omega)
      simp only [Int.neg_mul] at h1 h2
      omega
  refine ⟨?_, hb⟩
  unfold fmul
  have e : x * (m * 65536) / 65536 = x * m := by
    rw [← Int.mul_assoc]; exact Int.mul_ediv_cancel _ (by decide)
  rw [e]
  unfold sat
  omega
theorem TB_see (ha : -49 ≤ a ∧ a ≤ 49) (hb : -49 ≤ b ∧ b ≤ 49) : dotZ (TB a b f i) 0 = dotT a b f ∧ crossZ (TB a b f i) 0 = crossT a b f ∧ (-6422528 ≤ crossT a b f ∧ crossT a b f ≤ 6422528) := by
  have x4 : TB a b f i 4 = 0 := TB_p0 0 (by decide)
  have x5 : TB a b f i 5 = 0 := TB_p0 1 (by decide)
  have x8 : TB a b f i 8 = f := TB_p0 4 (by decide)
  have x14 : TB a b f i 14 = a * 65536 := TB_p1 0 (by decide)
  have x15 : TB a b f i 15 = b * 65536 := TB_p1 1 (by decide)
  have hdx : dxZ (TB a b f i) 0 = a * 65536 := by
    show psub (TB a b f i 14) (TB a b f i 4) = _
    rw [x14, x4]; unfold psub sat; omega
  have hdy : dyZ (TB a b f i) 0 = b * 65536 := by
    show psub (TB a b f i 15) (TB a b f i 5) = _
    rw [x15, x5]; unfold psub sat; omega
  have hfc : faceZ (TB a b f i) 0 = f := x8
  have hc := sinZ_bd (f + 16384)
  have hs := sinZ_bd f
  obtain ⟨m1, b1⟩ := fmul_whole hc ha
  obtain ⟨m2, b2⟩ := fmul_whole hs hb
  obtain ⟨m3, b3⟩ := fmul_whole hc hb
  obtain ⟨m4, b4⟩ := fmul_whole hs ha
  unfold dotZ crossZ dotT crossT cZ sZ
  rw [hdx, hdy, hfc, m1, m2, m3, m4]
  refine ⟨?_, ?_, ?_⟩
  · unfold padd sat; omega
  · unfold psub sat; omega
  · omega
theorem TB_press (ha : -49 ≤ a ∧ a ≤ 49) (hb : -49 ≤ b ∧ b ≤ 49) (hi : 0 ≤ i ∧ i ≤ 100) (hf : 0 ≤ f ∧ f ≤ 65535) : pressZ (TB a b f i) 0 0 = turnT (dotT a b f) (crossT a b f) := by
  obtain ⟨h1, h2, h3⟩ := TB_see (i := i) (f := f) ha hb
  have h12 : TB a b f i 12 = 0 := TB_p0 8 (by decide)
  have hdn : downB (TB a b f i) 0 = false := by
    show decide (0 < TB a b f i 12) = false
    rw [h12]; decide
  unfold pressZ
  rw [TB_right ha hb hi hf, show ((0 : Int).toNat) = 0 from rfl, hdn, if_pos (by decide)]
  unfold pressTo
  rw [h1, h2]
  have ea : aimsB (dotT a b f) (crossT a b f) = decide (0 < dotT a b f ∧ max (crossT a b f) (-crossT a b f) ≤ dotT a b f / 16) := by
    unfold aimsB
    rw [sat_id (by unfold F32; omega)]
    rw [Bool.decide_and]
  unfold turnZ turnT
  rw [ea]
  simp
/-- The beginning, changed. -/
theorem TB_begin (f a b : Int) : stCells (upd (upd (upd (upd (upd (beginS 1) 4 0) 5 0) 8 f) 14 (a * 65536)) 15 (b * 65536)) = stCells (TB a b f 0) := by
  refine rowOf_congr fun j hj => ?_
  congr 1
  by_cases h4 : j < 4
  · rw [TB_hd j h4]
    have : j = 0 ∨ j = 1 ∨ j = 2 ∨ j = 3 := by omega
    rcases this with rfl | rfl | rfl | rfl <;> rfl
  · by_cases h14 : j < 14
    · obtain ⟨m, rfl⟩ : ∃ m, j = 4 + m := ⟨j - 4, by omega⟩
      rw [TB_p0 m (by omega)]
      have : m = 0 ∨ m = 1 ∨ m = 2 ∨ m = 3 ∨ m = 4 ∨ m = 5 ∨ m = 6 ∨ m = 7 ∨ m = 8 ∨ m = 9 := by omega
      rcases this with rfl | rfl | rfl | rfl | rfl | rfl | rfl | rfl | rfl | rfl <;> rfl
    · by_cases h24 : j < 24
      · obtain ⟨m, rfl⟩ : ∃ m, j = 14 + m := ⟨j - 14, by omega⟩
        rw [TB_p1 m (by omega)]
        have : m = 0 ∨ m = 1 ∨ m = 2 ∨ m = 3 ∨ m = 4 ∨ m = 5 ∨ m = 6 ∨ m = 7 ∨ m = 8 ∨ m = 9 := by omega
        rcases this with rfl | rfl | rfl | rfl | rfl | rfl | rfl | rfl | rfl | rfl <;> rfl
      · rw [TB_sh j (by omega)]
        unfold beginS putP upd
        simp [show ¬ j = 0 by omega, show ¬ j = 1 by omega, show ¬ j = 3 by omega, show ¬ j = 4 by omega, show ¬ j = 5 by omega, show ¬ j = 8 by omega, show ¬ j = 14 by omega, show ¬ j = 15 by omega, show ¬ j < 14 by omega, show ¬ j < 24 by omega]
end
end Go.Proofs.Ytnaclkaapicelaa

namespace Go.Proofs.Ytnaclkaapicelaa
open Go.RowKit
set_option maxRecDepth 100000
set_option linter.unusedSimpArgs false
theorem begin1_fit : FitS (beginS 1) := by
  have : ∀ i : Fin 60, (Lit.int (kdS i.1) (beginS 1 i.1)).wf = true := by decide +kernel
  exact fun i hi => this ⟨i, hi⟩
theorem begin1_see : dotZ (beginS 1) 0 = 4194304 ∧ crossZ (beginS 1) 0 = 0 ∧ pressZ (beginS 1) 0 1 = 4 := by decide +kernel
set_option maxHeartbeats 4000000 in
theorem awake30_any (w : World) : Calls Try.prog 15 #[] w fun e w' => e = .returned (.bool true) ∧ Below w.heap.size w w' := by
  obtain ⟨S, hS⟩ : ∃ S, beginS 1 = S := ⟨_, rfl⟩
  have hsee := begin1_see
  have hfit := begin1_fit
  rw [hS] at hsee hfit
  obtain ⟨h1, h2, h3⟩ := hsee
  have HSI : Hid (∀ W, Calls Try.prog 16 #[.agg (stCells S).toArray, .int .i64 0] W fun e w' => e = .returned (.tuple #[.int .i32 4194304, .int .i32 0]) ∧ Below W.heap.size W w') := Lib.hid (fun W => by
    have := sight_any S 0 W (by decide) hfit
    rw [h1, h2] at this
    exact this)
  have HPR : Hid (∀ W, Calls Try.prog 18 #[.agg (stCells S).toArray, .int .i64 0, .int .i64 1] W fun e w' => e = .returned (.int .u8 4) ∧ Below W.heap.size W w') := Lib.hid (fun W => by
    have := press_any S W 0 1 hfit
    rw [h3] at this
    exact this)
  have HBG : Hid (∀ W, Calls Try.prog 20 #[.int .u32 1] W fun e w' => e = .returned (.agg (stCells S).toArray) ∧ Below W.heap.size W w') := Lib.hid (fun W => by rw [← hS]; exact r12Begin_any 1 W)
  have HSZ : Hid ((stCells S).toArray.size = 60) := Lib.hid (by rw [List.size_toArray, stCells_length])
  clear h1 h2 h3 hS hfit
  go_enter Try.func15, Try.ntmps15
  go_upto_region 2 with (first
    | (go_at_call 20; refine (HBG.out _).mono ?_; rintro e w1 ⟨rfl, hb1⟩; have HB1 := Lib.hid hb1; clear hb1)
    | (refine wpList_store_mid rfl 33 (.tmp 1) (.tmp 4) rfl w1.heap.size 0 (stCells S).toArray rfl rfl (there_new _ _ _ (by rw [HSZ.out]; rfl)) (by kernel_rfl) (all_oneCell_toArray (int_one _)) ?_))
  refine named_put (F := fun W => Code.wp _ _ _ _ W) (by rw [Array.length_toList, List.size_toArray, stCells_length]; rfl) ?_
  intro w2 hk2 hb2 hz2
  rw [Array.toArray_toList] at hk2
  have HK2 := Lib.hid hk2
  have HB2 := Lib.hid (bTrans HB1.out hb2)
  have hl2 := hk2.lt
  clear hk2 hb2 hz2 HB1
  go_wp2_with (first
    | (refine wpList_load_mid rfl 33 (.tmp 1) rfl w1.heap.size 0 rfl (stCells S) _ (Blk.range HK2.out) Try.underlying33 rfl (by kernel_rfl) ?_)
    | (refine wpList_load_midG rfl 33 (.tmp 1) rfl w1.heap.size 0 rfl (stCells S) _ (Blk.range HK3.out) Try.underlying33 rfl (by kernel_rfl) ?_)
    | (go_at_call 16; refine (HSI.out _).mono ?_; rintro e w3 ⟨rfl, k3⟩; have HK3 := Lib.hid (HK2.out.on k3); have HB3 := Lib.hid (bTrans HB2.out k3); clear k3)
    | (go_at_call 18; refine (HPR.out _).mono ?_; rintro e w4 ⟨rfl, k4⟩; have HB4 := Lib.hid (bTrans HB3.out k4); clear k4))
  go_ret
  exact ⟨rfl, HB4.out⟩
end Go.Proofs.Ytnaclkaapicelaa
