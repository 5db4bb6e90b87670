/-
  The walks beneath: RdP, StrP, RdT, RdW, TapW.
-/
import Derived.Test.YtibeihcpehikoaaGreatNs3
import Derived.Test.YtibeihcpehikoaaGreatNs4
namespace Go.Proofs.YtibeihcpehikoaaGreat
section
/-- A number's bytes are read: the number, how many bytes, the error. -/
def rdGo : List UInt8 → Nat → Nat → Nat × Nat × Int
  | [], _, _ => (0, 0, 3)
  | c :: r, i, n =>
    if 9 < i ∨ (i = 9 ∧ 1 < c.toNat % 128) ∨ (c.toNat = 0 ∧ 0 < i) then (0, 0, 4)
    else if c.toNat < 128 then (n + c.toNat % 128 * 128 ^ i, i + 1, 0)
    else rdGo r (i + 1) (n + c.toNat % 128 * 128 ^ i)
def rdN (s : List UInt8) : Nat × Nat × Int := rdGo s 0 0
theorem pow128_mono {i j : Nat} (h : i ≤ j) : 128 ^ i ≤ 128 ^ j := Nat.pow_le_pow_right (by decide) h
theorem rd_room {m i : Nat} (h : m * 128 ^ i < 18446744073709551616) (hm : 0 < m) : i ≤ 9 ∧ (i = 9 → m ≤ 1) := by
  have h1 : i ≤ 9 := by
    rcases Nat.lt_or_ge 9 i with h2 | h2
    · have h3 := pow128_mono (i := 10) (j := i) h2
      have h4 : 128 ^ i ≤ m * 128 ^ i := Nat.le_mul_of_pos_left _ hm
      have h5 : (128 : Nat) ^ 10 = 1180591620717411303424 := by decide
      omega
    · exact h2
  refine ⟨h1, fun h2 => ?_⟩
  subst h2
  have h5 : (128 : Nat) ^ 9 = 9223372036854775808 := by decide
  rw [h5] at h
  omega
theorem rdGo_numB : ∀ (m : Nat) (i n : Nat) (r : List UInt8), m * 128 ^ i < 18446744073709551616 → (i = 0 ∨ 0 < m) → rdGo (numB m ++ r) i n = (n + m * 128 ^ i, i + (numB m).length, 0) := by
  intro m
  induction m using Nat.strongRecOn with
  | _ m ih =>
    intro i n r hm hi
    by_cases h : m < 128
    · rw [numB_small h, List.cons_append, rdGo, u8_nat (by omega : m < 256)]
      rw [if_neg (by
        intro h9
        rcases Nat.eq_zero_or_pos m with h0 | h0
        · omega
        · obtain ⟨h1, h2⟩ := rd_room hm h0
          omega), if_pos h, Nat.mod_eq_of_lt h]
      rfl
    · have hd : 0 < m / 128 := by omega
      obtain ⟨h1, h2⟩ := rd_room hm (by omega)
      have hv : (UInt8.ofNat (128 + m % 128)).toNat = 128 + m % 128 := u8_nat (by omega)
      have h3 : m / 128 * 128 ^ (i + 1) = m / 128 * 128 * 128 ^ i := by rw [Nat.pow_succ, Nat.mul_comm (128 ^ i), Nat.mul_assoc]
      have h4 : m / 128 * 128 * 128 ^ i ≤ m * 128 ^ i := Nat.mul_le_mul_right _ (Nat.div_mul_le_self m 128)
      rw [numB_big h, List.cons_append, rdGo, hv, if_neg (by omega), if_neg (by omega), ih (m / 128) (by omega) (i + 1) _ r (by omega) (.inr hd), List.length_cons]
      have h5 : (128 + m % 128) % 128 = m % 128 := by omega
      have h6 : m % 128 * 128 ^ i + m / 128 * 128 ^ (i + 1) = m * 128 ^ i := by
        rw [h3, ← Nat.add_mul]
        congr 1
        omega
      rw [h5]
      refine Prod.ext ?_ (Prod.ext ?_ rfl)
      · show n + m % 128 * 128 ^ i + m / 128 * 128 ^ (i + 1) = _
        omega
      · show i + 1 + (numB (m / 128)).length = i + ((numB (m / 128)).length + 1)
        omega
theorem rdN_numB {m : Nat} (r : List UInt8) (hm : m < 18446744073709551616) : rdN (numB m ++ r) = (m, (numB m).length, 0) := by
  unfold rdN
  rw [rdGo_numB m 0 0 r (by simpa using hm) (.inl rfl)]
  simp
theorem rd_add {i n c : Nat} (hn : n < 128 ^ i) (hi : i ≤ 9) (hc : i = 9 → c % 128 ≤ 1) : n + c % 128 * 128 ^ i < 128 ^ (i + 1) ∧ n + c % 128 * 128 ^ i < 18446744073709551616 := by
  have h1 : c % 128 * 128 ^ i ≤ 127 * 128 ^ i := Nat.mul_le_mul_right _ (by omega)
  have h2 : 128 ^ (i + 1) = 128 * 128 ^ i := by rw [Nat.pow_succ, Nat.mul_comm]
  refine ⟨by omega, ?_⟩
  by_cases h9 : i = 9
  · subst h9
    have h5 : (128 : Nat) ^ 9 = 9223372036854775808 := by decide
    rw [h5] at hn h1 ⊢
    have := hc rfl
    omega
  · have h3 := pow128_mono (i := i + 1) (j := 9) (by omega)
    have h5 : (128 : Nat) ^ 9 = 9223372036854775808 := by decide
    omega
/-- What is read fits. -/
theorem rdGo_fits : ∀ (l : List UInt8) (i n : Nat), n < 128 ^ i → (rdGo l i n).1 < 18446744073709551616 ∧ (rdGo l i n).2.1 ≤ i + l.length ∧ ((rdGo l i n).2.2 = 0 ∨ (rdGo l i n).2.2 = 3 ∨ (rdGo l i n).2.2 = 4) ∧ ((rdGo l i n).2.2 = 0 → i < (rdGo l i n).2.1)
  | [], i, n, _ => ⟨by show 0 < _; decide, Nat.zero_le _, .inr (.inl rfl), fun h => by cases h⟩
  | c :: r, i, n, hn => by
    rw [rdGo]
    by_cases h1 : 9 < i ∨ (i = 9 ∧ 1 < c.toNat % 128) ∨ (c.toNat = 0 ∧ 0 < i)
    · rw [if_pos h1]
      exact ⟨by decide, Nat.zero_le _, .inr (.inr rfl), fun h => by cases h⟩
    · rw [if_neg h1]
      have ha := rd_add (c := c.toNat) hn (by omega) (by omega)
      by_cases h2 : c.toNat < 128
      · rw [if_pos h2]
        exact ⟨ha.2, by rw [List.length_cons]; show i + 1 ≤ _; omega, .inl rfl, fun _ => Nat.lt_succ_self _⟩
      · rw [if_neg h2]
        obtain ⟨q1, q2, q3, q4⟩ := rdGo_fits r (i + 1) _ ha.1
        exact ⟨q1, by rw [List.length_cons]; omega, q3, fun h => by have := q4 h; omega⟩
theorem rdN_fits (l : List UInt8) : (rdN l).1 < 18446744073709551616 ∧ (rdN l).2.1 ≤ l.length ∧ ((rdN l).2.2 = 0 ∨ (rdN l).2.2 = 3 ∨ (rdN l).2.2 = 4) ∧ ((rdN l).2.2 = 0 → 0 < (rdN l).2.1) := by
  have := rdGo_fits l 0 0 (by decide)
  rwa [Nat.zero_add] at this
end
section
/-- How many at the head are x. -/
def headN (x : Nat) : List Nat → Nat
  | [] => 0
  | y :: l => if y = x then headN x l + 1 else 0
theorem headN_le (x : Nat) : ∀ l, headN x l ≤ l.length
  | [] => Nat.le_refl _
  | y :: l => by
    have := headN_le x l
    unfold headN
    rw [List.length_cons]
    split <;> omega
theorem headN_hit {x : Nat} {l : List Nat} {j : Nat} (h : j < l.length) (hx : l[j] = x) : headN x (l.drop j) = headN x (l.drop (j + 1)) + 1 := by
  rw [List.drop_eq_getElem_cons h, headN, if_pos hx]
theorem headN_miss {x : Nat} {l : List Nat} {j : Nat} (h : j < l.length) (hx : l[j] ≠ x) : headN x (l.drop j) = 0 := by
  rw [List.drop_eq_getElem_cons h, headN, if_neg hx]
theorem headN_end {x : Nat} {l : List Nat} {j : Nat} (h : l.length ≤ j) : headN x (l.drop j) = 0 := by
  rw [List.drop_of_length_le h]; rfl
def runsF : Nat → List Nat → List (Nat × Nat)
  | 0, _ => []
  | _ + 1, [] => []
  | f + 1, x :: r => (x, headN x r + 1) :: runsF f (r.drop (headN x r))
theorem runsF_fuel : ∀ (f g : Nat) (l : List Nat), l.length ≤ f → l.length ≤ g → runsF f l = runsF g l
  | 0, 0, _, _, _ => rfl
  | 0, _ + 1, l, h, _ => by
    have : l = [] := List.eq_nil_of_length_eq_zero (by omega)
    subst this; rfl
  | _ + 1, 0, l, _, h => by
    have : l = [] := List.eq_nil_of_length_eq_zero (by omega)
    subst this; rfl
  | f + 1, g + 1, [], _, _ => rfl
  | f + 1, g + 1, x :: r, h1, h2 => by
    rw [List.length_cons] at h1 h2
    show (x, headN x r + 1) :: runsF f (r.drop (headN x r)) = (x, headN x r + 1) :: runsF g (r.drop (headN x r))
    rw [runsF_fuel f g (r.drop (headN x r)) (by rw [List.length_drop]; omega) (by rw [List.length_drop]; omega)]
/-- The stretches: the input, and how many. -/
def runsL (l : List Nat) : List (Nat × Nat) := runsF l.length l
theorem runsL_nil : runsL [] = [] := rfl
theorem runsL_cons (x : Nat) (r : List Nat) : runsL (x :: r) = (x, headN x r + 1) :: runsL (r.drop (headN x r)) := by
  unfold runsL
  rw [List.length_cons, runsF, runsF_fuel r.length (r.drop (headN x r)).length _ (by rw [List.length_drop]; omega) (Nat.le_refl _)]
theorem runsL_mem : ∀ (f : Nat) (l : List Nat), l.length ≤ f → ∀ p ∈ runsF f l, p.1 ∈ l ∧ 1 ≤ p.2 ∧ p.2 ≤ l.length
  | 0, _, _, p, hp => by simp [runsF] at hp
  | _ + 1, [], _, p, hp => by simp [runsF] at hp
  | f + 1, x :: r, h, p, hp => by
    rw [List.length_cons] at h
    have hle := headN_le x r
    rw [runsF] at hp
    rcases List.mem_cons.1 hp with rfl | hp
    · exact ⟨by simp, by simp, by simp; omega⟩
    · obtain ⟨h1, h2, h3⟩ := runsL_mem f (r.drop (headN x r)) (by rw [List.length_drop]; omega) p hp
      rw [List.length_drop] at h3
      exact ⟨List.mem_cons_of_mem _ (List.mem_of_mem_drop h1), h2, by rw [List.length_cons]; omega⟩
theorem runsL_len : ∀ (f : Nat) (l : List Nat), l.length ≤ f → (runsF f l).length ≤ l.length
  | 0, _, _ => Nat.zero_le _
  | _ + 1, [], _ => Nat.le_refl _
  | f + 1, x :: r, h => by
    rw [List.length_cons] at h
    have h2 := runsL_len f (r.drop (headN x r)) (by rw [List.length_drop]; omega)
    rw [List.length_drop] at h2
    rw [runsF, List.length_cons, List.length_cons]
    omega
/-- One stretch's bytes. -/
def runB (p : Nat × Nat) : List UInt8 := UInt8.ofNat p.1 :: numB p.2
def runsB (l : List (Nat × Nat)) : List UInt8 := l.flatMap runB
/-- The bytes of inputs. -/
def insB (l : List Nat) : List UInt8 := runsB (runsL l)
theorem runsB_snoc (l : List (Nat × Nat)) (p : Nat × Nat) : runsB (l ++ [p]) = runsB l ++ runB p := by unfold runsB; rw [List.flatMap_append]; simp
theorem runB_len (p : Nat × Nat) (h : p.2 < 18446744073709551616) : (runB p).length ≤ 11 := by
  unfold runB
  have := numB_le h
  rw [List.length_cons]; omega
theorem runsB_len : ∀ (l : List (Nat × Nat)), (∀ p ∈ l, p.2 < 18446744073709551616) → (runsB l).length ≤ 11 * l.length
  | [], _ => Nat.le_refl _
  | p :: l, h => by
    have h1 := runB_len p (h p (by simp))
    have h2 := runsB_len l (fun q hq => h q (by simp [hq]))
    have e : runsB (p :: l) = runB p ++ runsB l := by unfold runsB; rw [List.flatMap_cons]
    rw [e, List.length_append, List.length_cons]
    omega
end
section
theorem insB_cons (x : Nat) (r : List Nat) : insB (x :: r) = UInt8.ofNat x :: (numB (headN x r + 1) ++ insB (r.drop (headN x r))) := by
  unfold insB
  rw [runsL_cons]
  unfold runsB
  rw [List.flatMap_cons]
  rfl
theorem head_split (x : Nat) : ∀ r : List Nat, x :: r = List.replicate (headN x r + 1) x ++ r.drop (headN x r)
  | [] => rfl
  | y :: r => by
    unfold headN
    by_cases h : y = x
    · rw [if_pos h, List.drop_succ_cons, h, List.replicate_succ, List.cons_append, ← head_split x r]
    · rw [if_neg h]; rfl
theorem data_ext (s t : ByteArray) (h : s.data.toList = t.data.toList) : s = t := by
  apply ByteArray.ext
  exact Array.toList_inj.1 h
theorem ba_len (s : ByteArray) : s.data.toList.length = s.size := rfl
theorem ba_back (s : ByteArray) : (⟨s.data.toList.toArray⟩ : ByteArray) = s := data_ext _ _ rfl
theorem extract_take (s : ByteArray) (a : Nat) : (s.extract 0 a).data.toList = s.data.toList.take a := by
  have : (s.extract 0 a).data = s.data.extract 0 a := by simp
  rw [this, Array.toList_extract, List.extract_eq_take_drop]
  simp
theorem drop_cons (s : ByteArray) (k : Nat) (h : k < s.size) : s.data.toList.drop k = s[k] :: s.data.toList.drop (k + 1) := by
  rw [List.drop_eq_getElem_cons (by exact h), bytes_get s k h]
end
section
open Go.RowKit
set_option maxRecDepth 100000
theorem wraps_u64 (n : Int) (h₀ : 0 ≤ n) (h₁ : n < 2 ^ 64) : IntKind.u64.wrap n = n := by
  rw [IntKind.wrap_u64]; omega
theorem u64_orlow (n a : Int) (i : Nat) (hn0 : 0 ≤ n) (hn : n < 2 ^ i) (hi : i ≤ 64) (ha0 : 0 ≤ a) (ha : a % 2 ^ i = 0) (ha1 : a < 2 ^ 64) : bits .or .u64 n a = n + a := by
  have hc : bits .or .u64 n a = bits .or .u64 a n := by simp only [bits, BitVec.or_comm]
  have hp : (2 : Int) ^ i ≤ 2 ^ 64 := by
    have : (2 : Nat) ^ i ≤ 2 ^ 64 := Nat.pow_le_pow_right (by decide) hi
    exact_mod_cast this
  rw [hc, bits_join .u64 64 (by decide) wraps_u64 i a n ha0 ha ha1 hn0 hn (by omega)]
  omega
def RdR (s : ByteArray) : Ending := .returned (.tuple #[.int .u64 ((rdN s.data.toList).1 : Nat), .int .i64 ((rdN s.data.toList).2.1 : Nat), .int .i64 (rdN s.data.toList).2.2])
set_option maxHeartbeats 4000000 in
theorem rd_any (s : ByteArray) (w : World) (hs : s.size ≤ 1000000000000) : Calls Tryz.prog 167 #[.string s] w fun e w' => e = RdR s ∧ w = w' := by
  go_enter Tryz.func167, Tryz.ntmps167
  go_wp2
  go_loop [5, 11] (fun nv i => ∃ k n : Nat, k ≤ s.size ∧ k ≤ 10 ∧ i = .int .i64 k ∧ nv = .int .u64 n ∧ n < 128 ^ k ∧ n < 18446744073709551616 ∧ Hid (rdGo (s.data.toList.drop k) k n = rdN s.data.toList)) (fun _ i => s.size - (intOf i).toNat)
  case atStart => exact ⟨0, 0, Nat.zero_le _, by decide, rfl, rfl, by decide, by decide, Lib.hid rfl⟩
  case round =>
    obtain ⟨k, n, hk, hk10, rfl, rfl, hn, hn64, HG⟩ := hrel
    by_cases hlt : k < s.size
    · have hd := drop_cons s k hlt
      have hcb := UInt8.toNat_lt s[k]
      have HG2 : Hid (rdGo (s[k] :: s.data.toList.drop (k + 1)) k n = rdN s.data.toList) := Lib.hid (by rw [← hd]; exact HG.out)
      by_cases h10 : k = 10
      · subst h10
        have HE : Hid (rdN s.data.toList = (0, 0, 4)) := Lib.hid (by rw [← HG2.out, rdGo, if_pos (.inl (by decide))])
        clear HG HG2 hd hn
        go_wp2
        go_ret3
        exact ⟨by unfold RdR; rw [HE.out]; rfl, rfl⟩
      · obtain rfl | rfl | rfl | rfl | rfl | rfl | rfl | rfl | rfl | rfl : k = 0 ∨ k = 1 ∨ k = 2 ∨ k = 3 ∨ k = 4 ∨ k = 5 ∨ k = 6 ∨ k = 7 ∨ k = 8 ∨ k = 9 := by omega
        · obtain rfl : n = 0 := by have h1 : (128 : Nat) ^ 0 = 1 := rfl; omega
          have hor : bits .or .u64 0 ((s[0].toNat : Int) % 128) = (s[0].toNat : Int) % 128 := by
            have := u64_orlow 0 ((s[0].toNat : Int) % 128) 0 (by omega) (by decide) (by decide) (by omega) (by omega) (by omega)
            rwa [Int.zero_add] at this
          by_cases hC : s[0].toNat < 128
          · have HE : Hid (rdN s.data.toList = (s[0].toNat % 128, 1, 0)) := Lib.hid (by rw [← HG2.out, rdGo, if_neg (by omega), if_pos hC]; simp)
            clear HG HG2 hd
            by_cases hZ : s[0].toNat = 0
            · go_wp2
              go_ret3
              exact ⟨by unfold RdR; rw [HE.out]; simp only [hZ]; rfl, rfl⟩
            · go_wp2
              go_ret3
              exact ⟨by unfold RdR; rw [HE.out]; first | (simp; done) | (simp; omega), rfl⟩
          · have HN : Hid (rdGo (s.data.toList.drop 1) 1 (s[0].toNat % 128) = rdN s.data.toList) := Lib.hid (by rw [← HG2.out, rdGo, if_neg (by omega), if_neg hC]; simp)
            clear HG HG2 hd
            go_wp2
            go_round
            case rel => exact ⟨1, s[0].toNat % 128, by omega, by decide, by go_num, by go_num, by omega, by omega, HN⟩
            case measure => simp [intOf]; omega
        ·
          have hp : (128 : Nat) ^ 1 = 128 := by decide
          rw [hp] at hn
          by_cases hA : 1 = 9 ∧ 1 < s[1].toNat % 128
          · have HE : Hid (rdN s.data.toList = (0, 0, 4)) := Lib.hid (by rw [← HG2.out, rdGo, if_pos (.inr (.inl hA))])
            first
              | (exfalso; omega)
              | (have hl := hA.2
                 have hq : (IntKind.u64.wrap ((s[1].toNat : Int) % 128 * 128) / 128 != (s[1].toNat : Int) % 128) = true := by
                   rw [IntKind.wrap_u64]
                   simp
                   omega
                 clear hA HG HG2 hd
                 go_wp2
                 go_ret3
                 exact ⟨by unfold RdR; rw [HE.out]; rfl, rfl⟩)
          have hsh : IntKind.u64.wrap ((s[1].toNat : Int) % 128 * 128) = (s[1].toNat : Int) % 128 * 128 := by
            rw [IntKind.wrap_u64]
            omega
          have hq : ((s[1].toNat : Int) % 128 * 128 / 128 != (s[1].toNat : Int) % 128) = false := by
            rw [Int.mul_ediv_cancel _ (by decide)]
            simp
          by_cases hB : s[1].toNat = 0 ∧ 0 < 1
          · have HE : Hid (rdN s.data.toList = (0, 0, 4)) := Lib.hid (by rw [← HG2.out, rdGo, if_pos (.inr (.inr hB))])
            first
              | (exfalso; omega)
              | (have h0 := hB.1
                 clear hB HG HG2 hd hA
                 go_wp2
                 go_ret3
                 exact ⟨by unfold RdR; rw [HE.out]; rfl, rfl⟩)
          have hor : bits .or .u64 (n : Int) ((s[1].toNat : Int) % 128 * 128) = (n : Int) + (s[1].toNat : Int) % 128 * 128 := u64_orlow _ _ 7 (by omega) (by omega) (by decide) (by omega) (by omega) (by omega)
          have ha := rd_add (n := n) (i := 1) (c := s[1].toNat) (by rw [hp]; exact hn) (by omega) (by omega)
          by_cases hC : s[1].toNat < 128
          · have HE : Hid (rdN s.data.toList = (n + s[1].toNat % 128 * 128, 1 + 1, 0)) := Lib.hid (by rw [← HG2.out, rdGo, if_neg (by omega), if_pos hC, hp])
            clear HG HG2 hd hA
            by_cases hZ : s[1].toNat = 0
            · first
                | (exfalso; omega)
                | (go_wp2
                   go_ret3
                   exact ⟨by unfold RdR; rw [HE.out]; first | (simp; done) | (simp; omega), rfl⟩)
            · go_wp2
              go_ret3
              exact ⟨by unfold RdR; rw [HE.out]; first | (simp; done) | (simp; omega), rfl⟩
          · have HN : Hid (rdGo (s.data.toList.drop (1 + 1)) (1 + 1) (n + s[1].toNat % 128 * 128) = rdN s.data.toList) := Lib.hid (by rw [← HG2.out, rdGo, if_neg (by omega), if_neg hC, hp])
            rw [hp] at ha
            clear HG HG2 hd hA
            go_wp2
            go_round
            case rel => exact ⟨1 + 1, n + s[1].toNat % 128 * 128, by omega, by decide, by go_num, by go_num, ha.1, ha.2, HN⟩
            case measure => simp [intOf]; omega
        ·
          have hp : (128 : Nat) ^ 2 = 16384 := by decide
          rw [hp] at hn
          by_cases hA : 2 = 9 ∧ 1 < s[2].toNat % 128
          · have HE : Hid (rdN s.data.toList = (0, 0, 4)) := Lib.hid (by rw [← HG2.out, rdGo, if_pos (.inr (.inl hA))])
            first
              | (exfalso; omega)
              | (have hl := hA.2
                 have hq : (IntKind.u64.wrap ((s[2].toNat : Int) % 128 * 16384) / 16384 != (s[2].toNat : Int) % 128) = true := by
                   rw [IntKind.wrap_u64]
                   simp
                   omega
                 clear hA HG HG2 hd
                 go_wp2
                 go_ret3
                 exact ⟨by unfold RdR; rw [HE.out]; rfl, rfl⟩)
          have hsh : IntKind.u64.wrap ((s[2].toNat : Int) % 128 * 16384) = (s[2].toNat : Int) % 128 * 16384 := by
            rw [IntKind.wrap_u64]
            omega
          have hq : ((s[2].toNat : Int) % 128 * 16384 / 16384 != (s[2].toNat : Int) % 128) = false := by
            rw [Int.mul_ediv_cancel _ (by decide)]
            simp
          by_cases hB : s[2].toNat = 0 ∧ 0 < 2
          · have HE : Hid (rdN s.data.toList = (0, 0, 4)) := Lib.hid (by rw [← HG2.out, rdGo, if_pos (.inr (.inr hB))])
            first
              | (exfalso; omega)
              | (have h0 := hB.1
                 clear hB HG HG2 hd hA
                 go_wp2
                 go_ret3
                 exact ⟨by unfold RdR; rw [HE.out]; rfl, rfl⟩)
          have hor : bits .or .u64 (n : Int) ((s[2].toNat : Int) % 128 * 16384) = (n : Int) + (s[2].toNat : Int) % 128 * 16384 := u64_orlow _ _ 14 (by omega) (by omega) (by decide) (by omega) (by omega) (by omega)
          have ha := rd_add (n := n) (i := 2) (c := s[2].toNat) (by rw [hp]; exact hn) (by omega) (by omega)
          by_cases hC : s[2].toNat < 128
          · have HE : Hid (rdN s.data.toList = (n + s[2].toNat % 128 * 16384, 2 + 1, 0)) := Lib.hid (by rw [← HG2.out, rdGo, if_neg (by omega), if_pos hC, hp])
            clear HG HG2 hd hA
            by_cases hZ : s[2].toNat = 0
            · first
                | (exfalso; omega)
                | (go_wp2
                   go_ret3
                   exact ⟨by unfold RdR; rw [HE.out]; first | (simp; done) | (simp; omega), rfl⟩)
            · go_wp2
              go_ret3
              exact ⟨by unfold RdR; rw [HE.out]; first | (simp; done) | (simp; omega), rfl⟩
          · have HN : Hid (rdGo (s.data.toList.drop (2 + 1)) (2 + 1) (n + s[2].toNat % 128 * 16384) = rdN s.data.toList) := Lib.hid (by rw [← HG2.out, rdGo, if_neg (by omega), if_neg hC, hp])
            rw [hp] at ha
            clear HG HG2 hd hA
            go_wp2
            go_round
            case rel => exact ⟨2 + 1, n + s[2].toNat % 128 * 16384, by omega, by decide, by go_num, by go_num, ha.1, ha.2, HN⟩
            case measure => simp [intOf]; omega
        ·
          have hp : (128 : Nat) ^ 3 = 2097152 := by decide
          rw [hp] at hn
          by_cases hA : 3 = 9 ∧ 1 < s[3].toNat % 128
          · have HE : Hid (rdN s.data.toList = (0, 0, 4)) := Lib.hid (by rw [← HG2.out, rdGo, if_pos (.inr (.inl hA))])
            first
              | (exfalso; omega)
              | (have hl := hA.2
                 have hq : (IntKind.u64.wrap ((s[3].toNat : Int) % 128 * 2097152) / 2097152 != (s[3].toNat : Int) % 128) = true := by
                   rw [IntKind.wrap_u64]
                   simp
                   omega
                 clear hA HG HG2 hd
                 go_wp2
                 go_ret3
                 exact ⟨by unfold RdR; rw [HE.out]; rfl, rfl⟩)
          have hsh : IntKind.u64.wrap ((s[3].toNat : Int) % 128 * 2097152) = (s[3].toNat : Int) % 128 * 2097152 := by
            rw [IntKind.wrap_u64]
            omega
          have hq : ((s[3].toNat : Int) % 128 * 2097152 / 2097152 != (s[3].toNat : Int) % 128) = false := by
            rw [Int.mul_ediv_cancel _ (by decide)]
            simp
          by_cases hB : s[3].toNat = 0 ∧ 0 < 3
          · have HE : Hid (rdN s.data.toList = (0, 0, 4)) := Lib.hid (by rw [← HG2.out, rdGo, if_pos (.inr (.inr hB))])
            first
              | (exfalso; omega)
              | (have h0 := hB.1
                 clear hB HG HG2 hd hA
                 go_wp2
                 go_ret3
                 exact ⟨by unfold RdR; rw [HE.out]; rfl, rfl⟩)
          have hor : bits .or .u64 (n : Int) ((s[3].toNat : Int) % 128 * 2097152) = (n : Int) + (s[3].toNat : Int) % 128 * 2097152 := u64_orlow _ _ 21 (by omega) (by omega) (by decide) (by omega) (by omega) (by omega)
          have ha := rd_add (n := n) (i := 3) (c := s[3].toNat) (by rw [hp]; exact hn) (by omega) (by omega)
          by_cases hC : s[3].toNat < 128
          · have HE : Hid (rdN s.data.toList = (n + s[3].toNat % 128 * 2097152, 3 + 1, 0)) := Lib.hid (by rw [← HG2.out, rdGo, if_neg (by omega), if_pos hC, hp])
            clear HG HG2 hd hA
            by_cases hZ : s[3].toNat = 0
            · first
                | (exfalso; omega)
                | (go_wp2
                   go_ret3
                   exact ⟨by unfold RdR; rw [HE.out]; first | (simp; done) | (simp; omega), rfl⟩)
            · go_wp2
              go_ret3
              exact ⟨by unfold RdR; rw [HE.out]; first | (simp; done) | (simp; omega), rfl⟩
          · have HN : Hid (rdGo (s.data.toList.drop (3 + 1)) (3 + 1) (n + s[3].toNat % 128 * 2097152) = rdN s.data.toList) := Lib.hid (by rw [← HG2.out, rdGo, if_neg (by omega), if_neg hC, hp])
            rw [hp] at ha
            clear HG HG2 hd hA
            go_wp2
            go_round
            case rel => exact ⟨3 + 1, n + s[3].toNat % 128 * 2097152, by omega, by decide, by go_num, by go_num, ha.1, ha.2, HN⟩
            case measure => simp [intOf]; omega
        ·
          have hp : (128 : Nat) ^ 4 = 268435456 := by decide
          rw [hp] at hn
          by_cases hA : 4 = 9 ∧ 1 < s[4].toNat % 128
          · have HE : Hid (rdN s.data.toList = (0, 0, 4)) := Lib.hid (by rw [← HG2.out, rdGo, if_pos (.inr (.inl hA))])
            first
              | (exfalso; omega)
              | (have hl := hA.2
                 have hq : (IntKind.u64.wrap ((s[4].toNat : Int) % 128 * 268435456) / 268435456 != (s[4].toNat : Int) % 128) = true := by
                   rw [IntKind.wrap_u64]
                   simp
                   omega
                 clear hA HG HG2 hd
                 go_wp2
                 go_ret3
                 exact ⟨by unfold RdR; rw [HE.out]; rfl, rfl⟩)
          have hsh : IntKind.u64.wrap ((s[4].toNat : Int) % 128 * 268435456) = (s[4].toNat : Int) % 128 * 268435456 := by
            rw [IntKind.wrap_u64]
            omega
          have hq : ((s[4].toNat : Int) % 128 * 268435456 / 268435456 != (s[4].toNat : Int) % 128) = false := by
            rw [Int.mul_ediv_cancel _ (by decide)]
            simp
          by_cases hB : s[4].toNat = 0 ∧ 0 < 4
          · have HE : Hid (rdN s.data.toList = (0, 0, 4)) := Lib.hid (by rw [← HG2.out, rdGo, if_pos (.inr (.inr hB))])
            first
              | (exfalso; omega)
              | (have h0 := hB.1
                 clear hB HG HG2 hd hA
                 go_wp2
                 go_ret3
                 exact ⟨by unfold RdR; rw [HE.out]; rfl, rfl⟩)
          have hor : bits .or .u64 (n : Int) ((s[4].toNat : Int) % 128 * 268435456) = (n : Int) + (s[4].toNat : Int) % 128 * 268435456 := u64_orlow _ _ 28 (by omega) (by omega) (by decide) (by omega) (by omega) (by omega)
          have ha := rd_add (n := n) (i := 4) (c := s[4].toNat) (by rw [hp]; exact hn) (by omega) (by omega)
          by_cases hC : s[4].toNat < 128
          · have HE : Hid (rdN s.data.toList = (n + s[4].toNat % 128 * 268435456, 4 + 1, 0)) := Lib.hid (by rw [← HG2.out, rdGo, if_neg (by omega), if_pos hC, hp])
            clear HG HG2 hd hA
            by_cases hZ : s[4].toNat = 0
            · first
                | (exfalso; omega)
                | (go_wp2
                   go_ret3
                   exact ⟨by unfold RdR; rw [HE.out]; first | (simp; done) | (simp; omega), rfl⟩)
            · go_wp2
              go_ret3
              exact ⟨by unfold RdR; rw [HE.out]; first | (simp; done) | (simp; omega), rfl⟩
          · have HN : Hid (rdGo (s.data.toList.drop (4 + 1)) (4 + 1) (n + s[4].toNat % 128 * 268435456) = rdN s.data.toList) := Lib.hid (by rw [← HG2.out, rdGo, if_neg (by omega), if_neg hC, hp])
            rw [hp] at ha
            clear HG HG2 hd hA
            go_wp2
            go_round
            case rel => exact ⟨4 + 1, n + s[4].toNat % 128 * 268435456, by omega, by decide, by go_num, by go_num, ha.1, ha.2, HN⟩
            case measure => simp [intOf]; omega
        ·
          have hp : (128 : Nat) ^ 5 = 34359738368 := by decide
          rw [hp] at hn
          by_cases hA : 5 = 9 ∧ 1 < s[5].toNat % 128
          · have HE : Hid (rdN s.data.toList = (0, 0, 4)) := Lib.hid (by rw [← HG2.out, rdGo, if_pos (.inr (.inl hA))])
            first
              | (exfalso; omega)
              | (have hl := hA.2
                 have hq : (IntKind.u64.wrap ((s[5].toNat : Int) % 128 * 34359738368) / 34359738368 != (s[5].toNat : Int) % 128) = true := by
                   rw [IntKind.wrap_u64]
                   simp
                   omega
                 clear hA HG HG2 hd
                 go_wp2
                 go_ret3
                 exact ⟨by unfold RdR; rw [HE.out]; rfl, rfl⟩)
          have hsh : IntKind.u64.wrap ((s[5].toNat : Int) % 128 * 34359738368) = (s[5].toNat : Int) % 128 * 34359738368 := by
            rw [IntKind.wrap_u64]
            omega
          have hq : ((s[5].toNat : Int) % 128 * 34359738368 / 34359738368 != (s[5].toNat : Int) % 128) = false := by
            rw [Int.mul_ediv_cancel _ (by decide)]
            simp
          by_cases hB : s[5].toNat = 0 ∧ 0 < 5
          · have HE : Hid (rdN s.data.toList = (0, 0, 4)) := Lib.hid (by rw [← HG2.out, rdGo, if_pos (.inr (.inr hB))])
            first
              | (exfalso; omega)
              | (have h0 := hB.1
                 clear hB HG HG2 hd hA
                 go_wp2
                 go_ret3
                 exact ⟨by unfold RdR; rw [HE.out]; rfl, rfl⟩)
          have hor : bits .or .u64 (n : Int) ((s[5].toNat : Int) % 128 * 34359738368) = (n : Int) + (s[5].toNat : Int) % 128 * 34359738368 := u64_orlow _ _ 35 (by omega) (by omega) (by decide) (by omega) (by omega) (by omega)
          have ha := rd_add (n := n) (i := 5) (c := s[5].toNat) (by rw [hp]; exact hn) (by omega) (by omega)
          by_cases hC : s[5].toNat < 128
          · have HE : Hid (rdN s.data.toList = (n + s[5].toNat % 128 * 34359738368, 5 + 1, 0)) := Lib.hid (by rw [← HG2.out, rdGo, if_neg (by omega), if_pos hC, hp])
            clear HG HG2 hd hA
            by_cases hZ : s[5].toNat = 0
            · first
                | (exfalso; omega)
                | (go_wp2
                   go_ret3
                   exact ⟨by unfold RdR; rw [HE.out]; first | (simp; done) | (simp; omega), rfl⟩)
            · go_wp2
              go_ret3
              exact ⟨by unfold RdR; rw [HE.out]; first | (simp; done) | (simp; omega), rfl⟩
          · have HN : Hid (rdGo (s.data.toList.drop (5 + 1)) (5 + 1) (n + s[5].toNat % 128 * 34359738368) = rdN s.data.toList) := Lib.hid (by rw [← HG2.out, rdGo, if_neg (by omega), if_neg hC, hp])
            rw [hp] at ha
            clear HG HG2 hd hA
            go_wp2
            go_round
            case rel => exact ⟨5 + 1, n + s[5].toNat % 128 * 34359738368, by omega, by decide, by go_num, by go_num, ha.1, ha.2, HN⟩
            case measure => simp [intOf]; omega
        ·
          have hp : (128 : Nat) ^ 6 = 4398046511104 := by decide
          rw [hp] at hn
          by_cases hA : 6 = 9 ∧ 1 < s[6].toNat % 128
          · have HE : Hid (rdN s.data.toList = (0, 0, 4)) := Lib.hid (by rw [← HG2.out, rdGo, if_pos (.inr (.inl hA))])
            first
              | (exfalso; omega)
              | (have hl := hA.2
                 have hq : (IntKind.u64.wrap ((s[6].toNat : Int) % 128 * 4398046511104) / 4398046511104 != (s[6].toNat : Int) % 128) = true := by
                   rw [IntKind.wrap_u64]
                   simp
                   omega
                 clear hA HG HG2 hd
                 go_wp2
                 go_ret3
                 exact ⟨by unfold RdR; rw [HE.out]; rfl, rfl⟩)
          have hsh : IntKind.u64.wrap ((s[6].toNat : Int) % 128 * 4398046511104) = (s[6].toNat : Int) % 128 * 4398046511104 := by
            rw [IntKind.wrap_u64]
            omega
          have hq : ((s[6].toNat : Int) % 128 * 4398046511104 / 4398046511104 != (s[6].toNat : Int) % 128) = false := by
            rw [Int.mul_ediv_cancel _ (by decide)]
            simp
          by_cases hB : s[6].toNat = 0 ∧ 0 < 6
          · have HE : Hid (rdN s.data.toList = (0, 0, 4)) := Lib.hid (by rw [← HG2.out, rdGo, if_pos (.inr (.inr hB))])
            first
              | (exfalso; omega)
              | (have h0 := hB.1
                 clear hB HG HG2 hd hA
                 go_wp2
                 go_ret3
                 exact ⟨by unfold RdR; rw [HE.out]; rfl, rfl⟩)
          have hor : bits .or .u64 (n : Int) ((s[6].toNat : Int) % 128 * 4398046511104) = (n : Int) + (s[6].toNat : Int) % 128 * 4398046511104 := u64_orlow _ _ 42 (by omega) (by omega) (by decide) (by omega) (by omega) (by omega)
          have ha := rd_add (n := n) (i := 6) (c := s[6].toNat) (by rw [hp]; exact hn) (by omega) (by omega)
          by_cases hC : s[6].toNat < 128
          · have HE : Hid (rdN s.data.toList = (n + s[6].toNat % 128 * 4398046511104, 6 + 1, 0)) := Lib.hid (by rw [← HG2.out, rdGo, if_neg (by omega), if_pos hC, hp])
            clear HG HG2 hd hA
            by_cases hZ : s[6].toNat = 0
            · first
                | (exfalso; omega)
                | (go_wp2
                   go_ret3
                   exact ⟨by unfold RdR; rw [HE.out]; first | (simp; done) | (simp; omega), rfl⟩)
            · go_wp2
              go_ret3
              exact ⟨by unfold RdR; rw [HE.out]; first | (simp; done) | (simp; omega), rfl⟩
          · have HN : Hid (rdGo (s.data.toList.drop (6 + 1)) (6 + 1) (n + s[6].toNat % 128 * 4398046511104) = rdN s.data.toList) := Lib.hid (by rw [← HG2.out, rdGo, if_neg (by omega), if_neg hC, hp])
            rw [hp] at ha
            clear HG HG2 hd hA
            go_wp2
            go_round
            case rel => exact ⟨6 + 1, n + s[6].toNat % 128 * 4398046511104, by omega, by decide, by go_num, by go_num, ha.1, ha.2, HN⟩
            case measure => simp [intOf]; omega
        ·
          have hp : (128 : Nat) ^ 7 = 562949953421312 := by decide
          rw [hp] at hn
          by_cases hA : 7 = 9 ∧ 1 < s[7].toNat % 128
          · have HE : Hid (rdN s.data.toList = (0, 0, 4)) := Lib.hid (by rw [← HG2.out, rdGo, if_pos (.inr (.inl hA))])
            first
              | (exfalso; omega)
              | (have hl := hA.2
                 have hq : (IntKind.u64.wrap ((s[7].toNat : Int) % 128 * 562949953421312) / 562949953421312 != (s[7].toNat : Int) % 128) = true := by
                   rw [IntKind.wrap_u64]
                   simp
                   omega
                 clear hA HG HG2 hd
                 go_wp2
                 go_ret3
                 exact ⟨by unfold RdR; rw [HE.out]; rfl, rfl⟩)
          have hsh : IntKind.u64.wrap ((s[7].toNat : Int) % 128 * 562949953421312) = (s[7].toNat : Int) % 128 * 562949953421312 := by
            rw [IntKind.wrap_u64]
            omega
          have hq : ((s[7].toNat : Int) % 128 * 562949953421312 / 562949953421312 != (s[7].toNat : Int) % 128) = false := by
            rw [Int.mul_ediv_cancel _ (by decide)]
            simp
          by_cases hB : s[7].toNat = 0 ∧ 0 < 7
          · have HE : Hid (rdN s.data.toList = (0, 0, 4)) := Lib.hid (by rw [← HG2.out, rdGo, if_pos (.inr (.inr hB))])
            first
              | (exfalso; omega)
              | (have h0 := hB.1
                 clear hB HG HG2 hd hA
                 go_wp2
                 go_ret3
                 exact ⟨by unfold RdR; rw [HE.out]; rfl, rfl⟩)
          have hor : bits .or .u64 (n : Int) ((s[7].toNat : Int) % 128 * 562949953421312) = (n : Int) + (s[7].toNat : Int) % 128 * 562949953421312 := u64_orlow _ _ 49 (by omega) (by omega) (by decide) (by omega) (by omega) (by omega)
          have ha := rd_add (n := n) (i := 7) (c := s[7].toNat) (by rw [hp]; exact hn) (by omega) (by omega)
          by_cases hC : s[7].toNat < 128
          · have HE : Hid (rdN s.data.toList = (n + s[7].toNat % 128 * 562949953421312, 7 + 1, 0)) := Lib.hid (by rw [← HG2.out, rdGo, if_neg (by omega), if_pos hC, hp])
            clear HG HG2 hd hA
            by_cases hZ : s[7].toNat = 0
            · first
                | (exfalso; omega)
                | (go_wp2
                   go_ret3
                   exact ⟨by unfold RdR; rw [HE.out]; first | (simp; done) | (simp; omega), rfl⟩)
            · go_wp2
              go_ret3
              exact ⟨by unfold RdR; rw [HE.out]; first | (simp; done) | (simp; omega), rfl⟩
          · have HN : Hid (rdGo (s.data.toList.drop (7 + 1)) (7 + 1) (n + s[7].toNat % 128 * 562949953421312) = rdN s.data.toList) := Lib.hid (by rw [← HG2.out, rdGo, if_neg (by omega), if_neg hC, hp])
            rw [hp] at ha
            clear HG HG2 hd hA
            go_wp2
            go_round
            case rel => exact ⟨7 + 1, n + s[7].toNat % 128 * 562949953421312, by omega, by decide, by go_num, by go_num, ha.1, ha.2, HN⟩
            case measure => simp [intOf]; omega
        ·
          have hp : (128 : Nat) ^ 8 = 72057594037927936 := by decide
          rw [hp] at hn
          by_cases hA : 8 = 9 ∧ 1 < s[8].toNat % 128
          · have HE : Hid (rdN s.data.toList = (0, 0, 4)) := Lib.hid (by rw [← HG2.out, rdGo, if_pos (.inr (.inl hA))])
            first
              | (exfalso; omega)
              | (have hl := hA.2
                 have hq : (IntKind.u64.wrap ((s[8].toNat : Int) % 128 * 72057594037927936) / 72057594037927936 != (s[8].toNat : Int) % 128) = true := by
                   rw [IntKind.wrap_u64]
                   simp
                   omega
                 clear hA HG HG2 hd
                 go_wp2
                 go_ret3
                 exact ⟨by unfold RdR; rw [HE.out]; rfl, rfl⟩)
          have hsh : IntKind.u64.wrap ((s[8].toNat : Int) % 128 * 72057594037927936) = (s[8].toNat : Int) % 128 * 72057594037927936 := by
            rw [IntKind.wrap_u64]
            omega
          have hq : ((s[8].toNat : Int) % 128 * 72057594037927936 / 72057594037927936 != (s[8].toNat : Int) % 128) = false := by
            rw [Int.mul_ediv_cancel _ (by decide)]
            simp
          by_cases hB : s[8].toNat = 0 ∧ 0 < 8
          · have HE : Hid (rdN s.data.toList = (0, 0, 4)) := Lib.hid (by rw [← HG2.out, rdGo, if_pos (.inr (.inr hB))])
            first
              | (exfalso; omega)
              | (have h0 := hB.1
                 clear hB HG HG2 hd hA
                 go_wp2
                 go_ret3
                 exact ⟨by unfold RdR; rw [HE.out]; rfl, rfl⟩)
          have hor : bits .or .u64 (n : Int) ((s[8].toNat : Int) % 128 * 72057594037927936) = (n : Int) + (s[8].toNat : Int) % 128 * 72057594037927936 := u64_orlow _ _ 56 (by omega) (by omega) (by decide) (by omega) (by omega) (by omega)
          have ha := rd_add (n := n) (i := 8) (c := s[8].toNat) (by rw [hp]; exact hn) (by omega) (by omega)
          by_cases hC : s[8].toNat < 128
          · have HE : Hid (rdN s.data.toList = (n + s[8].toNat % 128 * 72057594037927936, 8 + 1, 0)) := Lib.hid (by rw [← HG2.out, rdGo, if_neg (by omega), if_pos hC, hp])
            clear HG HG2 hd hA
            by_cases hZ : s[8].toNat = 0
            · first
                | (exfalso; omega)
                | (go_wp2
                   go_ret3
                   exact ⟨by unfold RdR; rw [HE.out]; first | (simp; done) | (simp; omega), rfl⟩)
            · go_wp2
              go_ret3
              exact ⟨by unfold RdR; rw [HE.out]; first | (simp; done) | (simp; omega), rfl⟩
          · have HN : Hid (rdGo (s.data.toList.drop (8 + 1)) (8 + 1) (n + s[8].toNat % 128 * 72057594037927936) = rdN s.data.toList) := Lib.hid (by rw [← HG2.out, rdGo, if_neg (by omega), if_neg hC, hp])
            rw [hp] at ha
            clear HG HG2 hd hA
            go_wp2
            go_round
            case rel => exact ⟨8 + 1, n + s[8].toNat % 128 * 72057594037927936, by omega, by decide, by go_num, by go_num, ha.1, ha.2, HN⟩
            case measure => simp [intOf]; omega
        ·
          have hp : (128 : Nat) ^ 9 = 9223372036854775808 := by decide
          rw [hp] at hn
          by_cases hA : 9 = 9 ∧ 1 < s[9].toNat % 128
          · have HE : Hid (rdN s.data.toList = (0, 0, 4)) := Lib.hid (by rw [← HG2.out, rdGo, if_pos (.inr (.inl hA))])
            first
              | (exfalso; omega)
              | (have hl := hA.2
                 have hq : (IntKind.u64.wrap ((s[9].toNat : Int) % 128 * 9223372036854775808) / 9223372036854775808 != (s[9].toNat : Int) % 128) = true := by
                   rw [IntKind.wrap_u64]
                   simp
                   omega
                 clear hA HG HG2 hd
                 go_wp2
                 go_ret3
                 exact ⟨by unfold RdR; rw [HE.out]; rfl, rfl⟩)
          have hsh : IntKind.u64.wrap ((s[9].toNat : Int) % 128 * 9223372036854775808) = (s[9].toNat : Int) % 128 * 9223372036854775808 := by
            rw [IntKind.wrap_u64]
            omega
          have hq : ((s[9].toNat : Int) % 128 * 9223372036854775808 / 9223372036854775808 != (s[9].toNat : Int) % 128) = false := by
            rw [Int.mul_ediv_cancel _ (by decide)]
            simp
          by_cases hB : s[9].toNat = 0 ∧ 0 < 9
          · have HE : Hid (rdN s.data.toList = (0, 0, 4)) := Lib.hid (by rw [← HG2.out, rdGo, if_pos (.inr (.inr hB))])
            first
              | (exfalso; omega)
              | (have h0 := hB.1
                 clear hB HG HG2 hd hA
                 go_wp2
                 go_ret3
                 exact ⟨by unfold RdR; rw [HE.out]; rfl, rfl⟩)
          have hor : bits .or .u64 (n : Int) ((s[9].toNat : Int) % 128 * 9223372036854775808) = (n : Int) + (s[9].toNat : Int) % 128 * 9223372036854775808 := u64_orlow _ _ 63 (by omega) (by omega) (by decide) (by omega) (by omega) (by omega)
          have ha := rd_add (n := n) (i := 9) (c := s[9].toNat) (by rw [hp]; exact hn) (by omega) (by omega)
          by_cases hC : s[9].toNat < 128
          · have HE : Hid (rdN s.data.toList = (n + s[9].toNat % 128 * 9223372036854775808, 9 + 1, 0)) := Lib.hid (by rw [← HG2.out, rdGo, if_neg (by omega), if_pos hC, hp])
            clear HG HG2 hd hA
            by_cases hZ : s[9].toNat = 0
            · first
                | (exfalso; omega)
                | (go_wp2
                   go_ret3
                   exact ⟨by unfold RdR; rw [HE.out]; first | (simp; done) | (simp; omega), rfl⟩)
            · go_wp2
              go_ret3
              exact ⟨by unfold RdR; rw [HE.out]; first | (simp; done) | (simp; omega), rfl⟩
          · have HN : Hid (rdGo (s.data.toList.drop (9 + 1)) (9 + 1) (n + s[9].toNat % 128 * 9223372036854775808) = rdN s.data.toList) := Lib.hid (by rw [← HG2.out, rdGo, if_neg (by omega), if_neg hC, hp])
            rw [hp] at ha
            clear HG HG2 hd hA
            go_wp2
            go_round
            case rel => exact ⟨9 + 1, n + s[9].toNat % 128 * 9223372036854775808, by omega, by decide, by go_num, by go_num, ha.1, ha.2, HN⟩
            case measure => simp [intOf]; omega
    · have HE : Hid (rdN s.data.toList = (0, 0, 3)) := Lib.hid (by rw [← HG.out, List.drop_of_length_le (by rw [ba_len]; omega)]; rfl)
      clear HG
      go_wp2
      go_ret3
      exact ⟨by unfold RdR; rw [HE.out]; rfl, rfl⟩
/-- The scale: what is round for the tenth group. -/
def sc10 (k : Nat) : Nat := if k = 10 then 0 else 128 ^ k
set_option maxHeartbeats 4000000 in
theorem rrd_any (s : ByteArray) (w : World) (hs : s.size ≤ 1000000000000) : Calls Tryz.prog 168 #[.string s] w fun e w' => e = RdR s ∧ w = w' := by
  go_enter Tryz.func168, Tryz.ntmps168
  go_wp2
  go_loop [5, 6, 7] (fun nv sc i => ∃ k n : Nat, k ≤ s.size ∧ k ≤ 10 ∧ i = .int .i64 k ∧ nv = .int .u64 n ∧ sc = .int .u64 (sc10 k : Nat) ∧ n < 128 ^ k ∧ n < 18446744073709551616 ∧ Hid (rdGo (s.data.toList.drop k) k n = rdN s.data.toList)) (fun _ _ i => s.size - (intOf i).toNat)
  case atStart => exact ⟨0, 0, Nat.zero_le _, by decide, rfl, rfl, rfl, by decide, by decide, Lib.hid rfl⟩
  case round =>
    obtain ⟨k, n, hk, hk10, rfl, rfl, rfl, hn, hn64, HG⟩ := hrel
    by_cases hlt : k < s.size
    · have hd := drop_cons s k hlt
      have hcb := UInt8.toNat_lt s[k]
      have HG2 : Hid (rdGo (s[k] :: s.data.toList.drop (k + 1)) k n = rdN s.data.toList) := Lib.hid (by rw [← hd]; exact HG.out)
      by_cases h10 : k = 10
      · subst h10
        have HE : Hid (rdN s.data.toList = (0, 0, 4)) := Lib.hid (by rw [← HG2.out, rdGo, if_pos (.inl (by decide))])
        clear HG HG2 hd hn
        go_wp2
        go_ret3
        exact ⟨by unfold RdR; rw [HE.out]; rfl, rfl⟩
      · rw [show sc10 k = 128 ^ k from if_neg h10]
        obtain rfl | rfl | rfl | rfl | rfl | rfl | rfl | rfl | rfl | rfl : k = 0 ∨ k = 1 ∨ k = 2 ∨ k = 3 ∨ k = 4 ∨ k = 5 ∨ k = 6 ∨ k = 7 ∨ k = 8 ∨ k = 9 := by omega
        ·
          have hp : (128 : Nat) ^ 0 = 1 := by decide
          rw [hp] at hn ⊢
          by_cases hA : 0 = 9 ∧ 1 < s[0].toNat % 128
          · have HE : Hid (rdN s.data.toList = (0, 0, 4)) := Lib.hid (by rw [← HG2.out, rdGo, if_pos (.inr (.inl hA))])
            first
              | (exfalso; omega)
              | (have hl := hA.2
                 clear hA HG HG2 hd
                 go_wp2
                 go_ret3
                 exact ⟨by unfold RdR; rw [HE.out]; rfl, rfl⟩)
          by_cases hB : s[0].toNat = 0 ∧ 0 < 0
          · have HE : Hid (rdN s.data.toList = (0, 0, 4)) := Lib.hid (by rw [← HG2.out, rdGo, if_pos (.inr (.inr hB))])
            first
              | (exfalso; omega)
              | (have h0 := hB.1
                 clear hB HG HG2 hd hA
                 go_wp2
                 go_ret3
                 exact ⟨by unfold RdR; rw [HE.out]; rfl, rfl⟩)
          have ha := rd_add (n := n) (i := 0) (c := s[0].toNat) (by rw [hp]; exact hn) (by omega) (by omega)
          have hav : n + s[0].toNat % 128 * 1 < 18446744073709551616 := by have := ha.2; rwa [hp] at this
          by_cases hC : s[0].toNat < 128
          · have HE : Hid (rdN s.data.toList = (n + s[0].toNat % 128 * 1, 0 + 1, 0)) := Lib.hid (by rw [← HG2.out, rdGo, if_neg (by omega), if_pos hC, hp])
            clear HG HG2 hd hA ha
            by_cases hZ : s[0].toNat = 0
            · first
                | (exfalso; omega)
                | (go_wp2
                   go_ret3
                   exact ⟨by unfold RdR; rw [HE.out]; first | (simp; done) | (simp; omega), rfl⟩)
            · go_wp2
              go_ret3
              exact ⟨by unfold RdR; rw [HE.out]; first | (simp; done) | (simp; omega), rfl⟩
          · have HN : Hid (rdGo (s.data.toList.drop (0 + 1)) (0 + 1) (n + s[0].toNat % 128 * 1) = rdN s.data.toList) := Lib.hid (by rw [← HG2.out, rdGo, if_neg (by omega), if_neg hC, hp])
            rw [hp] at ha
            clear HG HG2 hd hA
            go_wp2
            go_round
            case rel => exact ⟨0 + 1, n + s[0].toNat % 128 * 1, by omega, by decide, by go_num, by go_num, by go_num, ha.1, ha.2, HN⟩
            case measure => simp [intOf]; omega
        ·
          have hp : (128 : Nat) ^ 1 = 128 := by decide
          rw [hp] at hn ⊢
          by_cases hA : 1 = 9 ∧ 1 < s[1].toNat % 128
          · have HE : Hid (rdN s.data.toList = (0, 0, 4)) := Lib.hid (by rw [← HG2.out, rdGo, if_pos (.inr (.inl hA))])
            first
              | (exfalso; omega)
              | (have hl := hA.2
                 clear hA HG HG2 hd
                 go_wp2
                 go_ret3
                 exact ⟨by unfold RdR; rw [HE.out]; rfl, rfl⟩)
          by_cases hB : s[1].toNat = 0 ∧ 0 < 1
          · have HE : Hid (rdN s.data.toList = (0, 0, 4)) := Lib.hid (by rw [← HG2.out, rdGo, if_pos (.inr (.inr hB))])
            first
              | (exfalso; omega)
              | (have h0 := hB.1
                 clear hB HG HG2 hd hA
                 go_wp2
                 go_ret3
                 exact ⟨by unfold RdR; rw [HE.out]; rfl, rfl⟩)
          have ha := rd_add (n := n) (i := 1) (c := s[1].toNat) (by rw [hp]; exact hn) (by omega) (by omega)
          have hav : n + s[1].toNat % 128 * 128 < 18446744073709551616 := by have := ha.2; rwa [hp] at this
          by_cases hC : s[1].toNat < 128
          · have HE : Hid (rdN s.data.toList = (n + s[1].toNat % 128 * 128, 1 + 1, 0)) := Lib.hid (by rw [← HG2.out, rdGo, if_neg (by omega), if_pos hC, hp])
            clear HG HG2 hd hA ha
            by_cases hZ : s[1].toNat = 0
            · first
                | (exfalso; omega)
                | (go_wp2
                   go_ret3
                   exact ⟨by unfold RdR; rw [HE.out]; first | (simp; done) | (simp; omega), rfl⟩)
            · go_wp2
              go_ret3
              exact ⟨by unfold RdR; rw [HE.out]; first | (simp; done) | (simp; omega), rfl⟩
          · have HN : Hid (rdGo (s.data.toList.drop (1 + 1)) (1 + 1) (n + s[1].toNat % 128 * 128) = rdN s.data.toList) := Lib.hid (by rw [← HG2.out, rdGo, if_neg (by omega), if_neg hC, hp])
            rw [hp] at ha
            clear HG HG2 hd hA
            go_wp2
            go_round
            case rel => exact ⟨1 + 1, n + s[1].toNat % 128 * 128, by omega, by decide, by go_num, by go_num, by go_num, ha.1, ha.2, HN⟩
            case measure => simp [intOf]; omega
        ·
          have hp : (128 : Nat) ^ 2 = 16384 := by decide
          rw [hp] at hn ⊢
          by_cases hA : 2 = 9 ∧ 1 < s[2].toNat % 128
          · have HE : Hid (rdN s.data.toList = (0, 0, 4)) := Lib.hid (by rw [← HG2.out, rdGo, if_pos (.inr (.inl hA))])
            first
              | (exfalso; omega)
              | (have hl := hA.2
                 clear hA HG HG2 hd
                 go_wp2
                 go_ret3
                 exact ⟨by unfold RdR; rw [HE.out]; rfl, rfl⟩)
          by_cases hB : s[2].toNat = 0 ∧ 0 < 2
          · have HE : Hid (rdN s.data.toList = (0, 0, 4)) := Lib.hid (by rw [← HG2.out, rdGo, if_pos (.inr (.inr hB))])
            first
              | (exfalso; omega)
              | (have h0 := hB.1
                 clear hB HG HG2 hd hA
                 go_wp2
                 go_ret3
                 exact ⟨by unfold RdR; rw [HE.out]; rfl, rfl⟩)
          have ha := rd_add (n := n) (i := 2) (c := s[2].toNat) (by rw [hp]; exact hn) (by omega) (by omega)
          have hav : n + s[2].toNat % 128 * 16384 < 18446744073709551616 := by have := ha.2; rwa [hp] at this
          by_cases hC : s[2].toNat < 128
          · have HE : Hid (rdN s.data.toList = (n + s[2].toNat % 128 * 16384, 2 + 1, 0)) := Lib.hid (by rw [← HG2.out, rdGo, if_neg (by omega), if_pos hC, hp])
            clear HG HG2 hd hA ha
            by_cases hZ : s[2].toNat = 0
            · first
                | (exfalso; omega)
                | (go_wp2
                   go_ret3
                   exact ⟨by unfold RdR; rw [HE.out]; first | (simp; done) | (simp; omega), rfl⟩)
            · go_wp2
              go_ret3
              exact ⟨by unfold RdR; rw [HE.out]; first | (simp; done) | (simp; omega), rfl⟩
          · have HN : Hid (rdGo (s.data.toList.drop (2 + 1)) (2 + 1) (n + s[2].toNat % 128 * 16384) = rdN s.data.toList) := Lib.hid (by rw [← HG2.out, rdGo, if_neg (by omega), if_neg hC, hp])
            rw [hp] at ha
            clear HG HG2 hd hA
            go_wp2
            go_round
            case rel => exact ⟨2 + 1, n + s[2].toNat % 128 * 16384, by omega, by decide, by go_num, by go_num, by go_num, ha.1, ha.2, HN⟩
            case measure => simp [intOf]; omega
        ·
          have hp : (128 : Nat) ^ 3 = 2097152 := by decide
          rw [hp] at hn ⊢
          by_cases hA : 3 = 9 ∧ 1 < s[3].toNat % 128
          · have HE : Hid (rdN s.data.toList = (0, 0, 4)) := Lib.hid (by rw [← HG2.out, rdGo, if_pos (.inr (.inl hA))])
            first
              | (exfalso; omega)
              | (have hl := hA.2
                 clear hA HG HG2 hd
                 go_wp2
                 go_ret3
                 exact ⟨by unfold RdR; rw [HE.out]; rfl, rfl⟩)
          by_cases hB : s[3].toNat = 0 ∧ 0 < 3
          · have HE : Hid (rdN s.data.toList = (0, 0, 4)) := Lib.hid (by rw [← HG2.out, rdGo, if_pos (.inr (.inr hB))])
            first
              | (exfalso; omega)
              | (have h0 := hB.1
                 clear hB HG HG2 hd hA
                 go_wp2
                 go_ret3
                 exact ⟨by unfold RdR; rw [HE.out]; rfl, rfl⟩)
          have ha := rd_add (n := n) (i := 3) (c := s[3].toNat) (by rw [hp]; exact hn) (by omega) (by omega)
          have hav : n + s[3].toNat % 128 * 2097152 < 18446744073709551616 := by have := ha.2; rwa [hp] at this
          by_cases hC : s[3].toNat < 128
          · have HE : Hid (rdN s.data.toList = (n + s[3].toNat % 128 * 2097152, 3 + 1, 0)) := Lib.hid (by rw [← HG2.out, rdGo, if_neg (by omega), if_pos hC, hp])
            clear HG HG2 hd hA ha
            by_cases hZ : s[3].toNat = 0
            · first
                | (exfalso; omega)
                | (go_wp2
                   go_ret3
                   exact ⟨by unfold RdR; rw [HE.out]; first | (simp; done) | (simp; omega), rfl⟩)
            · go_wp2
              go_ret3
              exact ⟨by unfold RdR; rw [HE.out]; first | (simp; done) | (simp; omega), rfl⟩
          · have HN : Hid (rdGo (s.data.toList.drop (3 + 1)) (3 + 1) (n + s[3].toNat % 128 * 2097152) = rdN s.data.toList) := Lib.hid (by rw [← HG2.out, rdGo, if_neg (by omega), if_neg hC, hp])
            rw [hp] at ha
            clear HG HG2 hd hA
            go_wp2
            go_round
            case rel => exact ⟨3 + 1, n + s[3].toNat % 128 * 2097152, by omega, by decide, by go_num, by go_num, by go_num, ha.1, ha.2, HN⟩
            case measure => simp [intOf]; omega
        ·
          have hp : (128 : Nat) ^ 4 = 268435456 := by decide
          rw [hp] at hn ⊢
          by_cases hA : 4 = 9 ∧ 1 < s[4].toNat % 128
          · have HE : Hid (rdN s.data.toList = (0, 0, 4)) := Lib.hid (by rw [← HG2.out, rdGo, if_pos (.inr (.inl hA))])
            first
              | (exfalso; omega)
              | (have hl := hA.2
                 clear hA HG HG2 hd
                 go_wp2
                 go_ret3
                 exact ⟨by unfold RdR; rw [HE.out]; rfl, rfl⟩)
          by_cases hB : s[4].toNat = 0 ∧ 0 < 4
          · have HE : Hid (rdN s.data.toList = (0, 0, 4)) := Lib.hid (by rw [← HG2.out, rdGo, if_pos (.inr (.inr hB))])
            first
              | (exfalso; omega)
              | (have h0 := hB.1
                 clear hB HG HG2 hd hA
                 go_wp2
                 go_ret3
                 exact ⟨by unfold RdR; rw [HE.out]; rfl, rfl⟩)
          have ha := rd_add (n := n) (i := 4) (c := s[4].toNat) (by rw [hp]; exact hn) (by omega) (by omega)
          have hav : n + s[4].toNat % 128 * 268435456 < 18446744073709551616 := by have := ha.2; rwa [hp] at this
          by_cases hC : s[4].toNat < 128
          · have HE : Hid (rdN s.data.toList = (n + s[4].toNat % 128 * 268435456, 4 + 1, 0)) := Lib.hid (by rw [← HG2.out, rdGo, if_neg (by omega), if_pos hC, hp])
            clear HG HG2 hd hA ha
            by_cases hZ : s[4].toNat = 0
            · first
                | (exfalso; omega)
                | (go_wp2
                   go_ret3
                   exact ⟨by unfold RdR; rw [HE.out]; first | (simp; done) | (simp; omega), rfl⟩)
            · go_wp2
              go_ret3
              exact ⟨by unfold RdR; rw [HE.out]; first | (simp; done) | (simp; omega), rfl⟩
          · have HN : Hid (rdGo (s.data.toList.drop (4 + 1)) (4 + 1) (n + s[4].toNat % 128 * 268435456) = rdN s.data.toList) := Lib.hid (by rw [← HG2.out, rdGo, if_neg (by omega), if_neg hC, hp])
            rw [hp] at ha
            clear HG HG2 hd hA
            go_wp2
            go_round
            case rel => exact ⟨4 + 1, n + s[4].toNat % 128 * 268435456, by omega, by decide, by go_num, by go_num, by go_num, ha.1, ha.2, HN⟩
            case measure => simp [intOf]; omega
        ·
          have hp : (128 : Nat) ^ 5 = 34359738368 := by decide
          rw [hp] at hn ⊢
          by_cases hA : 5 = 9 ∧ 1 < s[5].toNat % 128
          · have HE : Hid (rdN s.data.toList = (0, 0, 4)) := Lib.hid (by rw [← HG2.out, rdGo, if_pos (.inr (.inl hA))])
            first
              | (exfalso; omega)
              | (have hl := hA.2
                 clear hA HG HG2 hd
                 go_wp2
                 go_ret3
                 exact ⟨by unfold RdR; rw [HE.out]; rfl, rfl⟩)
          by_cases hB : s[5].toNat = 0 ∧ 0 < 5
          · have HE : Hid (rdN s.data.toList = (0, 0, 4)) := Lib.hid (by rw [← HG2.out, rdGo, if_pos (.inr (.inr hB))])
            first
              | (exfalso; omega)
              | (have h0 := hB.1
                 clear hB HG HG2 hd hA
                 go_wp2
                 go_ret3
                 exact ⟨by unfold RdR; rw [HE.out]; rfl, rfl⟩)
          have ha := rd_add (n := n) (i := 5) (c := s[5].toNat) (by rw [hp]; exact hn) (by omega) (by omega)
          have hav : n + s[5].toNat % 128 * 34359738368 < 18446744073709551616 := by have := ha.2; rwa [hp] at this
          by_cases hC : s[5].toNat < 128
          · have HE : Hid (rdN s.data.toList = (n + s[5].toNat % 128 * 34359738368, 5 + 1, 0)) := Lib.hid (by rw [← HG2.out, rdGo, if_neg (by omega), if_pos hC, hp])
            clear HG HG2 hd hA ha
            by_cases hZ : s[5].toNat = 0
            · first
                | (exfalso; omega)
                | (go_wp2
                   go_ret3
                   exact ⟨by unfold RdR; rw [HE.out]; first | (simp; done) | (simp; omega), rfl⟩)
            · go_wp2
              go_ret3
              exact ⟨by unfold RdR; rw [HE.out]; first | (simp; done) | (simp; omega), rfl⟩
          · have HN : Hid (rdGo (s.data.toList.drop (5 + 1)) (5 + 1) (n + s[5].toNat % 128 * 34359738368) = rdN s.data.toList) := Lib.hid (by rw [← HG2.out, rdGo, if_neg (by omega), if_neg hC, hp])
            rw [hp] at ha
            clear HG HG2 hd hA
            go_wp2
            go_round
            case rel => exact ⟨5 + 1, n + s[5].toNat % 128 * 34359738368, by omega, by decide, by go_num, by go_num, by go_num, ha.1, ha.2, HN⟩
            case measure => simp [intOf]; omega
        ·
          have hp : (128 : Nat) ^ 6 = 4398046511104 := by decide
          rw [hp] at hn ⊢
          by_cases hA : 6 = 9 ∧ 1 < s[6].toNat % 128
          · have HE : Hid (rdN s.data.toList = (0, 0, 4)) := Lib.hid (by rw [← HG2.out, rdGo, if_pos (.inr (.inl hA))])
            first
              | (exfalso; omega)
              | (have hl := hA.2
                 clear hA HG HG2 hd
                 go_wp2
                 go_ret3
                 exact ⟨by unfold RdR; rw [HE.out]; rfl, rfl⟩)
          by_cases hB : s[6].toNat = 0 ∧ 0 < 6
          · have HE : Hid (rdN s.data.toList = (0, 0, 4)) := Lib.hid (by rw [← HG2.out, rdGo, if_pos (.inr (.inr hB))])
            first
              | (exfalso; omega)
              | (have h0 := hB.1
                 clear hB HG HG2 hd hA
                 go_wp2
                 go_ret3
                 exact ⟨by unfold RdR; rw [HE.out]; rfl, rfl⟩)
          have ha := rd_add (n := n) (i := 6) (c := s[6].toNat) (by rw [hp]; exact hn) (by omega) (by omega)
          have hav : n + s[6].toNat % 128 * 4398046511104 < 18446744073709551616 := by have := ha.2; rwa [hp] at this
          by_cases hC : s[6].toNat < 128
          · have HE : Hid (rdN s.data.toList = (n + s[6].toNat % 128 * 4398046511104, 6 + 1, 0)) := Lib.hid (by rw [← HG2.out, rdGo, if_neg (by omega), if_pos hC, hp])
            clear HG HG2 hd hA ha
            by_cases hZ : s[6].toNat = 0
            · first
                | (exfalso; omega)
                | (go_wp2
                   go_ret3
                   exact ⟨by unfold RdR; rw [HE.out]; first | (simp; done) | (simp; omega), rfl⟩)
            · go_wp2
              go_ret3
              exact ⟨by unfold RdR; rw [HE.out]; first | (simp; done) | (simp; omega), rfl⟩
          · have HN : Hid (rdGo (s.data.toList.drop (6 + 1)) (6 + 1) (n + s[6].toNat % 128 * 4398046511104) = rdN s.data.toList) := Lib.hid (by rw [← HG2.out, rdGo, if_neg (by omega), if_neg hC, hp])
            rw [hp] at ha
            clear HG HG2 hd hA
            go_wp2
            go_round
            case rel => exact ⟨6 + 1, n + s[6].toNat % 128 * 4398046511104, by omega, by decide, by go_num, by go_num, by go_num, ha.1, ha.2, HN⟩
            case measure => simp [intOf]; omega
        ·
          have hp : (128 : Nat) ^ 7 = 562949953421312 := by decide
          rw [hp] at hn ⊢
          by_cases hA : 7 = 9 ∧ 1 < s[7].toNat % 128
          · have HE : Hid (rdN s.data.toList = (0, 0, 4)) := Lib.hid (by rw [← HG2.out, rdGo, if_pos (.inr (.inl hA))])
            first
              | (exfalso; omega)
              | (have hl := hA.2
                 clear hA HG HG2 hd
                 go_wp2
                 go_ret3
                 exact ⟨by unfold RdR; rw [HE.out]; rfl, rfl⟩)
          by_cases hB : s[7].toNat = 0 ∧ 0 < 7
          · have HE : Hid (rdN s.data.toList = (0, 0, 4)) := Lib.hid (by rw [← HG2.out, rdGo, if_pos (.inr (.inr hB))])
            first
              | (exfalso; omega)
              | (have h0 := hB.1
                 clear hB HG HG2 hd hA
                 go_wp2
                 go_ret3
                 exact ⟨by unfold RdR; rw [HE.out]; rfl, rfl⟩)
          have ha := rd_add (n := n) (i := 7) (c := s[7].toNat) (by rw [hp]; exact hn) (by omega) (by omega)
          have hav : n + s[7].toNat % 128 * 562949953421312 < 18446744073709551616 := by have := ha.2; rwa [hp] at this
          by_cases hC : s[7].toNat < 128
          · have HE : Hid (rdN s.data.toList = (n + s[7].toNat % 128 * 562949953421312, 7 + 1, 0)) := Lib.hid (by rw [← HG2.out, rdGo, if_neg (by omega), if_pos hC, hp])
            clear HG HG2 hd hA ha
            by_cases hZ : s[7].toNat = 0
            · first
                | (exfalso; omega)
                | (go_wp2
                   go_ret3
                   exact ⟨by unfold RdR; rw [HE.out]; first | (simp; done) | (simp; omega), rfl⟩)
            · go_wp2
              go_ret3
              exact ⟨by unfold RdR; rw [HE.out]; first | (simp; done) | (simp; omega), rfl⟩
          · have HN : Hid (rdGo (s.data.toList.drop (7 + 1)) (7 + 1) (n + s[7].toNat % 128 * 562949953421312) = rdN s.data.toList) := Lib.hid (by rw [← HG2.out, rdGo, if_neg (by omega), if_neg hC, hp])
            rw [hp] at ha
            clear HG HG2 hd hA
            go_wp2
            go_round
            case rel => exact ⟨7 + 1, n + s[7].toNat % 128 * 562949953421312, by omega, by decide, by go_num, by go_num, by go_num, ha.1, ha.2, HN⟩
            case measure => simp [intOf]; omega
        ·
          have hp : (128 : Nat) ^ 8 = 72057594037927936 := by decide
          rw [hp] at hn ⊢
          by_cases hA : 8 = 9 ∧ 1 < s[8].toNat % 128
          · have HE : Hid (rdN s.data.toList = (0, 0, 4)) := Lib.hid (by rw [← HG2.out, rdGo, if_pos (.inr (.inl hA))])
            first
              | (exfalso; omega)
              | (have hl := hA.2
                 clear hA HG HG2 hd
                 go_wp2
                 go_ret3
                 exact ⟨by unfold RdR; rw [HE.out]; rfl, rfl⟩)
          by_cases hB : s[8].toNat = 0 ∧ 0 < 8
          · have HE : Hid (rdN s.data.toList = (0, 0, 4)) := Lib.hid (by rw [← HG2.out, rdGo, if_pos (.inr (.inr hB))])
            first
              | (exfalso; omega)
              | (have h0 := hB.1
                 clear hB HG HG2 hd hA
                 go_wp2
                 go_ret3
                 exact ⟨by unfold RdR; rw [HE.out]; rfl, rfl⟩)
          have ha := rd_add (n := n) (i := 8) (c := s[8].toNat) (by rw [hp]; exact hn) (by omega) (by omega)
          have hav : n + s[8].toNat % 128 * 72057594037927936 < 18446744073709551616 := by have := ha.2; rwa [hp] at this
          by_cases hC : s[8].toNat < 128
          · have HE : Hid (rdN s.data.toList = (n + s[8].toNat % 128 * 72057594037927936, 8 + 1, 0)) := Lib.hid (by rw [← HG2.out, rdGo, if_neg (by omega), if_pos hC, hp])
            clear HG HG2 hd hA ha
            by_cases hZ : s[8].toNat = 0
            · first
                | (exfalso; omega)
                | (go_wp2
                   go_ret3
                   exact ⟨by unfold RdR; rw [HE.out]; first | (simp; done) | (simp; omega), rfl⟩)
            · go_wp2
              go_ret3
              exact ⟨by unfold RdR; rw [HE.out]; first | (simp; done) | (simp; omega), rfl⟩
          · have HN : Hid (rdGo (s.data.toList.drop (8 + 1)) (8 + 1) (n + s[8].toNat % 128 * 72057594037927936) = rdN s.data.toList) := Lib.hid (by rw [← HG2.out, rdGo, if_neg (by omega), if_neg hC, hp])
            rw [hp] at ha
            clear HG HG2 hd hA
            go_wp2
            go_round
            case rel => exact ⟨8 + 1, n + s[8].toNat % 128 * 72057594037927936, by omega, by decide, by go_num, by go_num, by go_num, ha.1, ha.2, HN⟩
            case measure => simp [intOf]; omega
        ·
          have hp : (128 : Nat) ^ 9 = 9223372036854775808 := by decide
          rw [hp] at hn ⊢
          by_cases hA : 9 = 9 ∧ 1 < s[9].toNat % 128
          · have HE : Hid (rdN s.data.toList = (0, 0, 4)) := Lib.hid (by rw [← HG2.out, rdGo, if_pos (.inr (.inl hA))])
            first
              | (exfalso; omega)
              | (have hl := hA.2
                 clear hA HG HG2 hd
                 go_wp2
                 go_ret3
                 exact ⟨by unfold RdR; rw [HE.out]; rfl, rfl⟩)
          by_cases hB : s[9].toNat = 0 ∧ 0 < 9
          · have HE : Hid (rdN s.data.toList = (0, 0, 4)) := Lib.hid (by rw [← HG2.out, rdGo, if_pos (.inr (.inr hB))])
            first
              | (exfalso; omega)
              | (have h0 := hB.1
                 clear hB HG HG2 hd hA
                 go_wp2
                 go_ret3
                 exact ⟨by unfold RdR; rw [HE.out]; rfl, rfl⟩)
          have ha := rd_add (n := n) (i := 9) (c := s[9].toNat) (by rw [hp]; exact hn) (by omega) (by omega)
          have hav : n + s[9].toNat % 128 * 9223372036854775808 < 18446744073709551616 := by have := ha.2; rwa [hp] at this
          by_cases hC : s[9].toNat < 128
          · have HE : Hid (rdN s.data.toList = (n + s[9].toNat % 128 * 9223372036854775808, 9 + 1, 0)) := Lib.hid (by rw [← HG2.out, rdGo, if_neg (by omega), if_pos hC, hp])
            clear HG HG2 hd hA ha
            by_cases hZ : s[9].toNat = 0
            · first
                | (exfalso; omega)
                | (go_wp2
                   go_ret3
                   exact ⟨by unfold RdR; rw [HE.out]; first | (simp; done) | (simp; omega), rfl⟩)
            · go_wp2
              go_ret3
              exact ⟨by unfold RdR; rw [HE.out]; first | (simp; done) | (simp; omega), rfl⟩
          · have HN : Hid (rdGo (s.data.toList.drop (9 + 1)) (9 + 1) (n + s[9].toNat % 128 * 9223372036854775808) = rdN s.data.toList) := Lib.hid (by rw [← HG2.out, rdGo, if_neg (by omega), if_neg hC, hp])
            rw [hp] at ha
            clear HG HG2 hd hA
            go_wp2
            go_round
            case rel => exact ⟨9 + 1, n + s[9].toNat % 128 * 9223372036854775808, by omega, by decide, by go_num, by go_num, by go_num, ha.1, ha.2, HN⟩
            case measure => simp [intOf]; omega
    · have HE : Hid (rdN s.data.toList = (0, 0, 3)) := Lib.hid (by rw [← HG.out, List.drop_of_length_le (by rw [ba_len]; omega)]; rfl)
      clear HG
      go_wp2
      go_ret3
      exact ⟨by unfold RdR; rw [HE.out]; rfl, rfl⟩
end
section
open Go.RowKit
set_option maxRecDepth 100000
/-- Four bytes, the highest first. -/
def be4 (n : Nat) : List UInt8 := [UInt8.ofNat (n / 16777216 % 256), UInt8.ofNat (n / 65536 % 256), UInt8.ofNat (n / 256 % 256), UInt8.ofNat (n % 256)]
def sealB (s : List UInt8) : List UInt8 := s ++ be4 (sumN s)
theorem be4_length (n : Nat) : (be4 n).length = 4 := rfl
theorem sealB_length (s : List UInt8) : (sealB s).length = s.length + 4 := by unfold sealB; rw [List.length_append, be4_length]
theorem be4_val (n : Nat) (hn : n < 4294967296) (k : Nat) (hk : k < 4) : (#[.int .u8 ((n : Int) / 16777216), .int .u8 ((n : Int) / 65536 % 256), .int .u8 ((n : Int) / 256 % 256), .int .u8 ((n : Int) % 256)] : Array Value).toList[k]? = some (.int .u8 ((((be4 n)[k]'hk).toNat : Nat) : Int)) := by
  have h1 : ∀ m : Nat, ((UInt8.ofNat (m % 256)).toNat : Int) = ((m % 256 : Nat) : Int) := fun m => u8_val (Nat.mod_lt _ (by decide))
  obtain rfl | rfl | rfl | rfl : k = 0 ∨ k = 1 ∨ k = 2 ∨ k = 3 := by omega
  all_goals simp only [be4, List.getElem_cons_zero, List.getElem_cons_succ, h1, List.getElem?_cons_zero, List.getElem?_cons_succ, Option.some.injEq, Value.int.injEq, true_and]
  all_goals omega
theorem conv_be4 (n : Nat) (hn : n < 4294967296) (w : World) : (convert 25 9 (.slice (some ⟨w.heap.size, 0, none⟩) 4 4)).run Tryz.prog (w.alloc (.cells #[.int .u8 ((n : Int) / 16777216), .int .u8 ((n : Int) / 65536 % 256), .int .u8 ((n : Int) / 256 % 256), .int .u8 ((n : Int) % 256)] 5)) = .ok (.string ⟨(be4 n).toArray⟩) (w.alloc (.cells #[.int .u8 ((n : Int) / 16777216), .int .u8 ((n : Int) / 65536 % 256), .int .u8 ((n : Int) / 256 % 256), .int .u8 ((n : Int) % 256)] 5)) :=
  run_convert_bytes_back (P := Tryz.prog) _ 25 9 5 ⟨w.heap.size, 0, none⟩ 4 (be4 n) Tryz.underlying25 Tryz.underlying5 Tryz.underlying9 (fun k hk => by
    rw [Go.WideShapes.add_plain, Nat.zero_add]
    exact cell_new_row2 w _ 5 _ rfl k _ (be4_val n hn k hk))
set_option maxHeartbeats 1000000 in
theorem tail_any (n : Nat) (hn : n < 4294967296) (w : World) : Calls Tryz.prog 164 #[.int .u32 n] w fun e w' => e = .returned (.string ⟨(be4 n).toArray⟩) ∧ Below w.heap.size w w' := by
  have hcv := conv_be4 n hn w
  go_enter Tryz.func164, Tryz.ntmps164
  go_wp2
  go_ret
  exact ⟨rfl, (by repeat (first | exact Below.refl _ _ | (with_reducible assumption) | apply bAlloc | apply below_drewN | apply Below.drew | (refine bSetG ?_ (by first | omega | (simp; omega)) _ _) | (refine bTrans ?_ (by with_reducible assumption))))⟩
set_option maxHeartbeats 1000000 in
theorem word_any (n : Nat) (hn : n < 4294967296) (w : World) : Calls Tryz.prog 91 #[.int .u32 n] w fun e w' => e = .returned (.string ⟨(be4 n).toArray⟩) ∧ Below w.heap.size w w' := by
  have hcv := conv_be4 n hn w
  go_enter Tryz.func91, Tryz.ntmps91
  go_wp2
  go_ret
  exact ⟨rfl, (by repeat (first | exact Below.refl _ _ | (with_reducible assumption) | apply bAlloc | apply below_drewN | apply Below.drew | (refine bSetG ?_ (by first | omega | (simp; omega)) _ _) | (refine bTrans ?_ (by with_reducible assumption))))⟩
set_option maxHeartbeats 1000000 in
theorem seal_any (s : List UInt8) (hs : s.length ≤ 100000000) (w : World) : Calls Tryz.prog 89 #[.string ⟨s.toArray⟩] w fun e w' => e = .returned (.string ⟨(sealB s).toArray⟩) ∧ Below w.heap.size w w' := by
  have HO := Lib.hid (of_any ⟨s.toArray⟩ w (by show s.toArray.size ≤ _; simp; omega))
  rw [show (⟨s.toArray⟩ : ByteArray).data.toList = s from rfl] at HO
  have hlt := sumN_lt s
  have HF : Hid ((⟨s.toArray⟩ : ByteArray) ++ ⟨(be4 (sumN s)).toArray⟩ = ⟨(sealB s).toArray⟩) := Lib.hid (strN_append _ _)
  have hl4 := be4_length (sumN s)
  obtain ⟨n, hn⟩ : ∃ n, sumN s = n := ⟨_, rfl⟩
  rw [hn] at HO hlt HF hl4
  have HT := Lib.hid (fun V => tail_any n hlt V)
  obtain ⟨T, hT⟩ : ∃ T, be4 n = T := ⟨_, rfl⟩
  rw [hT] at HT HF hl4
  clear hn hT
  go_enter Tryz.func89, Tryz.ntmps89
  go_wp2_with (first
    | (go_at_call 146; refine HO.out.mono ?_; rintro e w1 ⟨rfl, rfl⟩)
    | (go_at_call 164; refine (HT.out _).mono ?_; rintro e w2 ⟨rfl, hb2⟩))
  go_ret
  exact ⟨by rw [HF.out]; rfl, hb2⟩
set_option maxHeartbeats 1000000 in
theorem rseal_any (s : List UInt8) (hs : s.length ≤ 100000000) (w : World) : Calls Tryz.prog 45 #[.string ⟨s.toArray⟩] w fun e w' => e = .returned (.string ⟨(sealB s).toArray⟩) ∧ Below w.heap.size w w' := by
  have HO := Lib.hid (rof_any ⟨s.toArray⟩ w (by show s.toArray.size ≤ _; simp; omega))
  rw [show (⟨s.toArray⟩ : ByteArray).data.toList = s from rfl] at HO
  have hlt := sumN_lt s
  have HF : Hid ((⟨s.toArray⟩ : ByteArray) ++ ⟨(be4 (sumN s)).toArray⟩ = ⟨(sealB s).toArray⟩) := Lib.hid (strN_append _ _)
  have hl4 := be4_length (sumN s)
  obtain ⟨n, hn⟩ : ∃ n, sumN s = n := ⟨_, rfl⟩
  rw [hn] at HO hlt HF hl4
  have hcv := conv_be4 n hlt w
  obtain ⟨T, hT⟩ : ∃ T, be4 n = T := ⟨_, rfl⟩
  rw [hT] at hcv HF hl4
  clear hn hT
  go_enter Tryz.func45, Tryz.ntmps45
  go_wp2_with (first
    | (go_at_call 87; refine HO.out.mono ?_; rintro e w1 ⟨rfl, rfl⟩))
  go_ret
  exact ⟨by rw [HF.out]; rfl, (by repeat (first | exact Below.refl _ _ | (with_reducible assumption) | apply bAlloc | apply below_drewN | apply Below.drew | (refine bSetG ?_ (by first | omega | (simp; omega)) _ _) | (refine bTrans ?_ (by with_reducible assumption))))⟩
end
end Go.Proofs.YtibeihcpehikoaaGreat
