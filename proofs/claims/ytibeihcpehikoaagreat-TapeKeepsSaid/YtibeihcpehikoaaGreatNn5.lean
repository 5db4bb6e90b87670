/-
  The walks beneath: RdP, RdT, RdW, RdR, RdI, RdO, RdS, RdQ, RdU, RdG.
-/
import Derived.Test.YtibeihcpehikoaaGreatNn3
namespace Go.Proofs.YtibeihcpehikoaaGreat
open Go.RowKit
set_option maxRecDepth 100000
set_option maxHeartbeats 8000000
set_option linter.unusedSimpArgs false
section
def rdGo : List UInt8 → Nat → Nat → Nat × Nat × Int
 | [], _, _ => (0, 0, 3)
 | c :: r, i, n =>
  if 9 < i ∨ (i = 9 ∧ 1 < c.toNat % 128) ∨ (c.toNat = 0 ∧ 0 < i) then (0, 0, 4)
  else if c.toNat < 128 then (n + c.toNat % 128 * 128 ^ i, i + 1, 0)
  else rdGo r (i + 1) (n + c.toNat % 128 * 128 ^ i)
def rdN (s : List UInt8) : Nat × Nat × Int := rdGo s 0 0
theorem pow128_mono {i j : Nat} (h : i ≤ j) : 128 ^ i ≤ 128 ^ j := Nat.pow_le_pow_right (by decide) h
theorem rd_room {m i : Nat} (h : m * 128 ^ i < 18446744073709551616) (hm : 0 < m) : i ≤ 9 ∧ (i = 9 → m ≤ 1) := by
 have h1 : i ≤ 9 := by
  rcases Nat.lt_or_ge 9 i with h2 | h2
  ·have h3 := pow128_mono (i := 10) (j := i) h2
   have h4 : 128 ^ i ≤ m * 128 ^ i := Nat.le_mul_of_pos_left _ hm
   have h5 : (128 : Nat) ^ 10 = 1180591620717411303424 := by decide
   omega
  ·exact h2
 refine ⟨h1, fun h2 => ?_⟩
 subst h2
 have h5 : (128 : Nat) ^ 9 = 9223372036854775808 := by decide
 rw [h5] at h
 omega
theorem rdGo_numB : ∀ (m : Nat) (i n : Nat) (r : List UInt8), m * 128 ^ i < 18446744073709551616 → (i = 0 ∨ 0 < m) → rdGo (numB m ++ r) i n = (n + m * 128 ^ i, i + (numB m).length, 0) := by
 intro m
 induction m using Nat.strongRecOn with
 | _ m ih =>
  intro i n r hm hi
  by_cases h : m < 128
  ·rw [numB_small h, List.cons_append, rdGo, u8_nat (by omega : m < 256)]
   rw [if_neg (by
    intro h9
    rcases Nat.eq_zero_or_pos m with h0 | h0
    ·omega
    ·obtain ⟨h1, h2⟩ := rd_room hm h0
     omega), if_pos h, Nat.mod_eq_of_lt h]
   rfl
  ·have hd : 0 < m / 128 := by omega
   obtain ⟨h1, h2⟩ := rd_room hm (by omega)
   have hv : (UInt8.ofNat (128 + m % 128)).toNat = 128 + m % 128 := u8_nat (by omega)
   have h3 : m / 128 * 128 ^ (i + 1) = m / 128 * 128 * 128 ^ i := by rw [Nat.pow_succ, Nat.mul_comm (128 ^ i), Nat.mul_assoc]
   have h4 : m / 128 * 128 * 128 ^ i ≤ m * 128 ^ i := Nat.mul_le_mul_right _ (Nat.div_mul_le_self m 128)
   rw [numB_big h, List.cons_append, rdGo, hv, if_neg (by omega), if_neg (by omega), ih (m / 128) (by omega) (i + 1) _ r (by omega) (.inr hd), zH]
   have h5 : (128 + m % 128) % 128 = m % 128 := by omega
   have h6 : m % 128 * 128 ^ i + m / 128 * 128 ^ (i + 1) = m * 128 ^ i := by
    rw [h3, ← Nat.add_mul]
    congr 1
    omega
   rw [h5]
   refine Prod.ext ?_ (Prod.ext ?_ rfl)
   ·show n + m % 128 * 128 ^ i + m / 128 * 128 ^ (i + 1) = _
    omega
   ·show i + 1 + (numB (m / 128)).length = i + ((numB (m / 128)).length + 1)
    omega
theorem rdN_numB {m : Nat} (r : List UInt8) (hm : m < 18446744073709551616) : rdN (numB m ++ r) = (m, (numB m).length, 0) := by
 unfold rdN
 rw [rdGo_numB m 0 0 r (by simpa using hm) (.inl rfl)]
 simp
theorem rd_add {i n c : Nat} (hn : n < 128 ^ i) (hi : i ≤ 9) (hc : i = 9 → c % 128 ≤ 1) : n + c % 128 * 128 ^ i < 128 ^ (i + 1) ∧ n + c % 128 * 128 ^ i < 18446744073709551616 := by
 have h1 : c % 128 * 128 ^ i ≤ 127 * 128 ^ i := Nat.mul_le_mul_right _ (by omega)
 have h2 : 128 ^ (i + 1) = 128 * 128 ^ i := by rw [Nat.pow_succ, Nat.mul_comm]
 refine ⟨by omega, ?_⟩
 by_cases h9 : i = 9
 ·subst h9
  have h5 : (128 : Nat) ^ 9 = 9223372036854775808 := by decide
  rw [h5] at hn h1 ⊢
  have := hc rfl
  omega
 ·have h3 := pow128_mono (i := i + 1) (j := 9) (by omega)
  have h5 : (128 : Nat) ^ 9 = 9223372036854775808 := by decide
  omega
theorem rdGo_fits : ∀ (l : List UInt8) (i n : Nat), n < 128 ^ i → (rdGo l i n).1 < 18446744073709551616 ∧ (rdGo l i n).2.1 ≤ i + l.length ∧ ((rdGo l i n).2.2 = 0 ∨ (rdGo l i n).2.2 = 3 ∨ (rdGo l i n).2.2 = 4) ∧ ((rdGo l i n).2.2 = 0 → i < (rdGo l i n).2.1)
 | [], i, n, _ => ⟨by show 0 < _; decide, Nat.zero_le _, .inr (.inl rfl), fun h => by cases h⟩
 | c :: r, i, n, hn => by
  rw [rdGo]
  by_cases h1 : 9 < i ∨ (i = 9 ∧ 1 < c.toNat % 128) ∨ (c.toNat = 0 ∧ 0 < i)
  ·rw [if_pos h1]
   exact ⟨by decide, Nat.zero_le _, .inr (.inr rfl), fun h => by cases h⟩
  ·rw [if_neg h1]
   have ha := rd_add (c := c.toNat) hn (by omega) (by omega)
   by_cases h2 : c.toNat < 128
   ·rw [if_pos h2]
    exact ⟨ha.2, by rw [zH]; show i + 1 ≤ _; omega, .inl rfl, fun _ => Nat.lt_succ_self _⟩
   ·rw [if_neg h2]
    obtain ⟨q1, q2, q3, q4⟩ := rdGo_fits r (i + 1) _ ha.1
    exact ⟨q1, by rw [zH]; omega, q3, fun h => by have := q4 h; omega⟩
theorem rdN_fits (l : List UInt8) : (rdN l).1 < 18446744073709551616 ∧ (rdN l).2.1 ≤ l.length ∧ ((rdN l).2.2 = 0 ∨ (rdN l).2.2 = 3 ∨ (rdN l).2.2 = 4) ∧ ((rdN l).2.2 = 0 → 0 < (rdN l).2.1) := by
 have := rdGo_fits l 0 0 (by decide)
 rwa [Nat.zero_add] at this
end
section
theorem insB_cons (x : Nat) (r : List Nat) : insB (x :: r) = UInt8.ofNat x :: (numB (headN x r + 1) ++ insB (r.drop (headN x r))) := by
 unfold insB
 rw [runsL_cons]
 unfold runsB
 rw [List.flatMap_cons]
 rfl
theorem head_split (x : Nat) : ∀ r : List Nat, x :: r = List.replicate (headN x r + 1) x ++ r.drop (headN x r)
 | [] => rfl
 | y :: r => by
  unfold headN
  by_cases h : y = x
  ·rw [if_pos h, List.drop_succ_cons, h, List.replicate_succ, List.cons_append, ← head_split x r]
  ·rw [if_neg h]; rfl
theorem data_ext (s t : ByteArray) (h : s.data.toList = t.data.toList) : s = t := by
 apply ByteArray.ext
 exact Array.toList_inj.1 h
theorem ba_len (s : ByteArray) : s.data.toList.length = s.size := rfl
theorem extract_take (s : ByteArray) (a : Nat) : (s.extract 0 a).data.toList = s.data.toList.take a := by
 have : (s.extract 0 a).data = s.data.extract 0 a := by simp
 rw [this, Array.toList_extract, List.extract_eq_take_drop]
 simp
theorem drop_cons (s : ByteArray) (k : Nat) (h : k < s.size) : s.data.toList.drop k = s[k] :: s.data.toList.drop (k + 1) := by
 rw [List.drop_eq_getElem_cons (by exact h), bytes_get s k h]
end
section
theorem wraps_u64 (n : Int) (h₀ : 0 ≤ n) (h₁ : n < 2 ^ 64) : IntKind.u64.wrap n = n := by
 rw [IntKind.wrap_u64]; omega
theorem u64_orlow (n a : Int) (i : Nat) (hn0 : 0 ≤ n) (hn : n < 2 ^ i) (hi : i ≤ 64) (ha0 : 0 ≤ a) (ha : a % 2 ^ i = 0) (ha1 : a < 2 ^ 64) : bits .or .u64 n a = n + a := by
 have hc : bits .or .u64 n a = bits .or .u64 a n := by simp only [bits, BitVec.or_comm]
 have hp : (2 : Int) ^ i ≤ 2 ^ 64 := by
  have : (2 : Nat) ^ i ≤ 2 ^ 64 := Nat.pow_le_pow_right (by decide) hi
  exact_mod_cast this
 rw [hc, bits_join .u64 64 (by decide) wraps_u64 i a n ha0 ha ha1 hn0 hn (by omega)]
 omega
theorem u64_orP (n c i P : Nat) (hp : 128 ^ i = P) (hn : n < P) (h : n + c % 128 * P < 18446744073709551616) (hi : i ≤ 9) : bits .or .u64 (n : Int) ((c : Int) % 128 * (P : Int)) = (n : Int) + (c : Int) % 128 * (P : Int) := by
 have hP : P = 2 ^ (7 * i) := by rw [← hp, show (128 : Nat) = 2 ^ 7 from rfl, ← Nat.pow_mul]
 have e : (c : Int) % 128 * (P : Int) = ((c % 128 * P : Nat) : Int) := by push_cast; rfl
 rw [e]
 refine u64_orlow _ _ (7 * i) (by omega) ?_ (by omega) (by omega) ?_ (by omega)
 ·rw [hP] at hn; exact_mod_cast hn
 ·have : (c % 128 * P) % 2 ^ (7 * i) = 0 := by rw [hP]; exact Nat.mul_mod_left _ _
  exact_mod_cast this
theorem u64_or0 (c : Nat) : bits .or .u64 0 ((c : Int) % 128) = (c : Int) % 128 := by
 have := u64_orlow 0 ((c : Int) % 128) 0 (by omega) (by decide) (by decide) (by omega) (by omega) (by omega)
 rwa [Int.zero_add] at this
def RdR (s : ByteArray) : Ending := .returned (.tuple #[.int .u64 ((rdN s.data.toList).1 : Nat), .int .i64 ((rdN s.data.toList).2.1 : Nat), .int .i64 (rdN s.data.toList).2.2])
theorem rd_any (s : ByteArray) (w : World) (hs : s.size ≤ 1000000000000) : Calls Tryz.prog 167 #[.string s] w fun e w' => e = RdR s ∧ w = w' := by
  go_enter Tryz.func167, Tryz.ntmps167
  go_wp2
  go_loop [5, 11] (fun nv i => ∃ k n : Nat, k ≤ s.size ∧ k ≤ 10 ∧ i = .int .i64 k ∧ nv = .int .u64 n ∧ n < 128 ^ k ∧ n < 18446744073709551616 ∧ Hid (rdGo (s.data.toList.drop k) k n = rdN s.data.toList)) (fun _ i => s.size - (intOf i).toNat)
  case atStart => exact ⟨0, 0, Nat.zero_le _, by decide, rfl, rfl, by decide, by decide, zz rfl⟩
  case round =>
    obtain ⟨k, n, hk, hk10, rfl, rfl, hn, hn64, HG⟩ := hrel
    by_cases hlt : k < s.size
    · have hcb := UInt8.toNat_lt s[k]
      have HG2 : Hid (rdGo (s[k] :: s.data.toList.drop (k + 1)) k n = rdN s.data.toList) := zz (by rw [← drop_cons s k hlt]; exact HG.out)
      clear HG
      by_cases h10 : k = 10
      · subst h10
        have HE : Hid (rdN s.data.toList = (0, 0, 4)) := zz (by rw [← HG2.out, rdGo, if_pos (.inl (by decide))])
        clear HG2 hn
        go_wp2
        go_ret3
        exact ⟨by unfold RdR; rw [HE.out]; rfl, rfl⟩
      have hk9 : k ≤ 9 := by omega
      clear hk10 h10
      obtain ⟨P, hp⟩ : ∃ P, (128 : Nat) ^ k = P := ⟨_, rfl⟩
      obtain ⟨c, hc⟩ : ∃ c, s[k].toNat = c := ⟨_, rfl⟩
      have ha := fun h => rd_add (n := n) (i := k) (c := c) hn hk9 h
      rw [hp] at hn ha
      rw [hc] at hcb
      have HP := zz hp
      have HC := zz hc
      have hor0 := u64_or0 c
      by_cases hB : c = 0 ∧ 0 < k
      · have HE : Hid (rdN s.data.toList = (0, 0, 4)) := zz (by rw [← HG2.out, rdGo, HC.out, if_pos (.inr (.inr hB))])
        obtain ⟨rfl, hk0⟩ := hB
        clear HG2 HP HC ha
        obtain rfl | rfl | rfl | rfl | rfl | rfl | rfl | rfl | rfl | rfl : k = 0 ∨ k = 1 ∨ k = 2 ∨ k = 3 ∨ k = 4 ∨ k = 5 ∨ k = 6 ∨ k = 7 ∨ k = 8 ∨ k = 9 := by omega
        all_goals
          first
            | omega
            | (simp only [Nat.reducePow] at hp
               subst hp
               go_wp2
               go_ret3
               exact ⟨by unfold RdR; rw [HE.out]; rfl, rfl⟩)
      by_cases hA : k = 9 ∧ 1 < c % 128
      · have HE : Hid (rdN s.data.toList = (0, 0, 4)) := zz (by rw [← HG2.out, rdGo, HC.out, if_pos (.inr (.inl hA))])
        obtain ⟨rfl, h1⟩ := hA
        simp only [Nat.reducePow] at hp
        subst hp
        have hq : (IntKind.u64.wrap ((c : Int) % 128 * 9223372036854775808) / 9223372036854775808 != (c : Int) % 128) = true := by
          rw [IntKind.wrap_u64]
          simp
          omega
        clear HG2 HP HC ha
        go_wp2
        go_ret3
        exact ⟨by unfold RdR; rw [HE.out]; rfl, rfl⟩
      have ha := ha (by omega)
      by_cases hC : c < 128
      · have HE : Hid (rdN s.data.toList = (n + c % 128 * P, k + 1, 0)) := zz (by rw [← HG2.out, rdGo, HC.out, if_neg (by omega), if_pos hC, HP.out])
        have hor := u64_orP n c k P HP.out hn ha.2 hk9
        clear HG2 HP HC
        by_cases hZ : c = 0
        · obtain rfl : k = 0 := by omega
          simp only [Nat.reducePow] at hp
          subst hp
          obtain rfl : n = 0 := by omega
          subst hZ
          go_wp2
          go_ret3
          exact ⟨by unfold RdR; rw [HE.out]; rfl, rfl⟩
        obtain rfl | rfl | rfl | rfl | rfl | rfl | rfl | rfl | rfl | rfl : k = 0 ∨ k = 1 ∨ k = 2 ∨ k = 3 ∨ k = 4 ∨ k = 5 ∨ k = 6 ∨ k = 7 ∨ k = 8 ∨ k = 9 := by omega
        · obtain rfl : n = 0 := by have := hp; simp at this; omega
          simp only [Nat.reducePow] at hp
          subst hp
          go_wp2
          go_ret3
          exact ⟨by unfold RdR; rw [HE.out]; first | (simp; done) | (simp; omega), rfl⟩
        all_goals
          simp only [Nat.reducePow] at hp
          subst hp
          go_wp2
          go_ret3
          exact ⟨by unfold RdR; rw [HE.out]; first | (simp; done) | (simp; omega), rfl⟩
      · have HN : Hid (rdGo (s.data.toList.drop (k + 1)) (k + 1) (n + c % 128 * P) = rdN s.data.toList) := zz (by rw [← HG2.out, rdGo, HC.out, if_neg (by omega), if_neg hC, HP.out])
        have hor := u64_orP n c k P HP.out hn ha.2 hk9
        clear HG2 HP HC
        obtain rfl | rfl | rfl | rfl | rfl | rfl | rfl | rfl | rfl | rfl : k = 0 ∨ k = 1 ∨ k = 2 ∨ k = 3 ∨ k = 4 ∨ k = 5 ∨ k = 6 ∨ k = 7 ∨ k = 8 ∨ k = 9 := by omega
        · obtain rfl : n = 0 := by have := hp; simp at this; omega
          simp only [Nat.reducePow] at hp
          subst hp
          go_wp2
          go_round
          case rel => exact ⟨_, _, hlt, by decide, by go_num, by go_num, ha.1, ha.2, HN⟩
          case measure => simp [intOf]; omega
        all_goals
          simp only [Nat.reducePow] at hp
          subst hp
          go_wp2
          go_round
          case rel => exact ⟨_, _, hlt, by decide, by go_num, by go_num, ha.1, ha.2, HN⟩
          case measure => simp [intOf]; omega
    · have HE : Hid (rdN s.data.toList = (0, 0, 3)) := zz (by rw [← HG.out, List.drop_of_length_le (by rw [ba_len]; omega)]; rfl)
      clear HG
      go_wp2
      go_ret3
      exact ⟨by unfold RdR; rw [HE.out]; rfl, rfl⟩
end
section
def RdB (w : World) (g : Nat) (s : ByteArray) (bad : Bool) : Prop := Blk w g 174 #[.string s, .bool bad]
theorem RdB.str {w : World} {g : Nat} {s : ByteArray} {bad : Bool} (h : RdB w g s bad) (t : ByteArray) : RdB (w.setCell ⟨g, 0, none⟩ (.string t)) g t bad := Blk.set h 0 (.string t)
theorem RdB.off {w : World} {g : Nat} {s : ByteArray} {bad : Bool} (h : RdB w g s bad) (b : Bool) : RdB (w.setCell ⟨g, 1, none⟩ (.bool b)) g s b := Blk.set h 1 (.bool b)
theorem RdB.on {w w' : World} {g : Nat} {s : ByteArray} {bad : Bool} (h : RdB w g s bad) (hb : Below w.heap.size w w') : RdB w' g s bad := Blk.on h hb
theorem RdB.lt {w : World} {g : Nat} {s : ByteArray} {bad : Bool} (h : RdB w g s bad) : g < w.heap.size := Blk.lt h
theorem take_ok (g : Nat) (s : ByteArray) (n : Nat) (w : World) (h : RdB w g s false) (hn : n ≤ s.size) :
  Calls Tryz.prog 99 #[.pointer (some ⟨g, 0, none⟩), .int .i64 n] w fun e w' => e = .returned (.string (s.extract 0 n)) ∧ RdB w' g (s.extract n s.size) false ∧ w.grownBy w' (some g) := by
 have H := zz h
 have ha := Blk.cell H.out 0; have hb := Blk.cell H.out 1; have hl := Blk.lt H.out; have hf := Blk.frozen H.out 0; have hg := Blk.frozen H.out 1; simp only [zA, zB, zC] at ha hb
 clear h
 go_enter Tryz.func99, Tryz.ntmps99
 go_wp2
 go_ret
 exact ⟨rfl, H.out.str _, oSet (oRefl _ _) _ _⟩
theorem take_no (g : Nat) (s : ByteArray) (bad : Bool) (n : Nat) (w : World) (h : RdB w g s bad) (hn : bad = true ∨ s.size < n) :
  Calls Tryz.prog 99 #[.pointer (some ⟨g, 0, none⟩), .int .i64 n] w fun e w' => e = .returned (.string ⟨#[]⟩) ∧ RdB w' g s true ∧ w.grownBy w' (some g) := by
 have H := zz h
 have ha := Blk.cell H.out 0; have hb := Blk.cell H.out 1; have hl := Blk.lt H.out; have hf := Blk.frozen H.out 0; have hg := Blk.frozen H.out 1; simp only [zA, zB, zC] at ha hb
 clear h
 cases bad
 ·have hlt : s.size < n := by
   rcases hn with h | h
   ·cases h
   ·exact h
  clear hn
  go_enter Tryz.func99, Tryz.ntmps99
  go_wp2
  go_ret
  exact ⟨rfl, H.out.off _, oSet (oRefl _ _) _ _⟩
 ·clear hn
  go_enter Tryz.func99, Tryz.ntmps99
  go_wp2
  go_ret
  exact ⟨rfl, H.out.off _, oSet (oRefl _ _) _ _⟩
def nrOk (s : ByteArray) (bad : Bool) (most : Nat) : Prop := bad = false ∧ (rdN s.data.toList).2.2 = 0 ∧ (rdN s.data.toList).1 ≤ most
theorem number_ok (g : Nat) (s : ByteArray) (bad : Bool) (most : Nat) (w : World) (h : RdB w g s bad) (hk : nrOk s bad most) (hs : s.size ≤ 1000000) (hm : most ≤ 4294967295) :
  Calls Tryz.prog 100 #[.pointer (some ⟨g, 0, none⟩), .int .u64 most] w fun e w' => e = .returned (.int .i64 ((rdN s.data.toList).1 : Nat)) ∧ RdB w' g (s.extract (rdN s.data.toList).2.1 s.size) false ∧ w.grownBy w' (some g) := by
 obtain ⟨rfl, hk2, hk3⟩ := hk
 have HR := zz (rd_any s w (by omega))
 unfold RdR at HR
 rw [hk2] at HR
 obtain ⟨hf1, hf2, -, -⟩ := rdN_fits s.data.toList
 rw [ba_len] at hf2
 have HT := zz (take_ok g s (rdN s.data.toList).2.1 w h hf2)
 obtain ⟨v, hv⟩ : ∃ v, (rdN s.data.toList).1 = v := ⟨_, rfl⟩
 obtain ⟨z, hz⟩ : ∃ z, (rdN s.data.toList).2.1 = z := ⟨_, rfl⟩
 rw [hv] at HR hf1 hk3 ⊢
 rw [hz] at HR HT hf2 ⊢
 clear hk2 hv hz
 have H := zz h
 have ha := Blk.cell H.out 0; have hb := Blk.cell H.out 1; have hl := Blk.lt H.out; have hf := Blk.frozen H.out 0; have hg := Blk.frozen H.out 1; simp only [zA, zB, zC] at ha hb
 clear h
 go_enter Tryz.func100, Tryz.ntmps100
 go_wp2_with (first
  | (go_at_call 167; refine HR.out.mono ?_; rintro e w1 ⟨rfl, rfl⟩)
  | (go_at_call 99; refine HT.out.mono ?_; rintro e w2 ⟨rfl, hB2, hg2⟩; have HB2 := zz hB2; have HG2 := zz hg2; clear hB2 hg2))
 go_ret
 exact ⟨by go_num, HB2.out, HG2.out⟩
theorem number_no (g : Nat) (s : ByteArray) (bad : Bool) (most : Nat) (w : World) (h : RdB w g s bad) (hk : ¬ nrOk s bad most) (hs : s.size ≤ 1000000) :
  Calls Tryz.prog 100 #[.pointer (some ⟨g, 0, none⟩), .int .u64 most] w fun e w' => e = .returned (.int .i64 0) ∧ RdB w' g s true ∧ w.grownBy w' (some g) := by
 have HR := zz (rd_any s w (by omega))
 unfold RdR at HR
 unfold nrOk at hk
 obtain ⟨hf1, hf2, -, -⟩ := rdN_fits s.data.toList
 rw [ba_len] at hf2
 obtain ⟨v, hv⟩ : ∃ v, (rdN s.data.toList).1 = v := ⟨_, rfl⟩
 obtain ⟨z, hz⟩ : ∃ z, (rdN s.data.toList).2.1 = z := ⟨_, rfl⟩
 obtain ⟨er, her⟩ : ∃ er, (rdN s.data.toList).2.2 = er := ⟨_, rfl⟩
 rw [hv] at HR hf1 hk
 rw [hz] at HR hf2
 rw [her] at HR hk
 clear hv hz her
 have H := zz h
 have ha := Blk.cell H.out 0; have hb := Blk.cell H.out 1; have hl := Blk.lt H.out; have hf := Blk.frozen H.out 0; have hg := Blk.frozen H.out 1; simp only [zA, zB, zC] at ha hb
 clear h
 cases bad
 ·by_cases h1 : er = 0
  ·subst h1
   have h2 : most < v := by
    rcases Nat.lt_or_ge most v with h | h
    ·exact h
    ·exact absurd ⟨rfl, rfl, h⟩ hk
   clear hk
   go_enter Tryz.func100, Tryz.ntmps100
   go_wp2_with (first
    | (go_at_call 167; refine HR.out.mono ?_; rintro e w1 ⟨rfl, rfl⟩))
   go_ret
   exact ⟨rfl, H.out.off _, oSet (oRefl _ _) _ _⟩
  ·have q1 : (er != 0) = true := by simpa using h1
   clear hk h1
   go_enter Tryz.func100, Tryz.ntmps100
   go_wp2_with (first
    | (go_at_call 167; refine HR.out.mono ?_; rintro e w1 ⟨rfl, rfl⟩))
   go_ret
   exact ⟨rfl, H.out.off _, oSet (oRefl _ _) _ _⟩
 ·clear hk
  go_enter Tryz.func100, Tryz.ntmps100
  go_wp2_with (first
   | (go_at_call 167; refine HR.out.mono ?_; rintro e w1 ⟨rfl, rfl⟩))
  go_ret
  exact ⟨rfl, H.out.off _, oSet (oRefl _ _) _ _⟩
end
section
def slN : Value → Nat
 | .slice _ n _ => n
 | _ => 0
theorem own_turn {α : Type} {w w' : World} {base : Nat} {E : TypeId} {m : Nat} {v : Value} {f : α → List Value} {l : List α} {g : Nat} (h : OwnL w base E m v f l) (hg : w.grownBy w' (some g)) (hb : g < base) : OwnL w' base E m v f l :=
 h.kept hg (by
  cases hv : v.ownBlock with
  | none => exact .inl rfl
  | some k =>
   have := h.base_le k hv
   exact .inr (fun e => by injection e with e; omega))
theorem ba_get? (s : ByteArray) (j : Nat) (h : j < s.size) : s.data.toList[j]? = some s[j] := by
 rw [← bytes_get s j h]
 exact List.getElem?_eq_getElem (l := s.data.toList) h
theorem first_of (R : ByteArray) (h1 : 1 ≤ R.size) (hh : 0 < (R.extract 0 1).size) : ((R.extract 0 1)[0]).toNat = R[0].toNat := by
 have a := ba_get? (R.extract 0 1) 0 hh
 rw [extract_take, List.getElem?_take, if_pos (by decide), ba_get? R 0 h1] at a
 rw [Option.some.inj a]
def Stands (s : ByteArray) (bad : Bool) (n : Nat) (L : List Nat) (rest : List UInt8) : Prop := bad = false ∧ L.length = n ∧ (∀ z ∈ L, z < 256) ∧ s.data.toList = insB L ++ rest
def StandsAt (s : ByteArray) (bad0 : Bool) (n : Nat) (l : List Nat) (R : ByteArray) (bad : Bool) : Prop := ∀ (L : List Nat) (rest : List UInt8), Stands s bad0 n L rest → bad = false ∧ ∃ r, L = l ++ r ∧ R.data.toList = insB r ++ rest
theorem StandsAt.start {s : ByteArray} {bad : Bool} {n : Nat} : StandsAt s bad n [] s bad := fun L _ h => ⟨h.1, L, rfl, h.2.2.2⟩
theorem StandsAt.next {s R : ByteArray} {bad0 : Bool} {n : Nat} {l L : List Nat} {rest : List UInt8} (h : StandsAt s bad0 n l R false) (hl : l.length < n) (hn : n ≤ 20000) (hL : Stands s bad0 n L rest) :
  ∃ x r, L = l ++ List.replicate (headN x r + 1) x ++ r.drop (headN x r) ∧ x < 256 ∧ headN x r + 1 ≤ n - l.length ∧ 1 ≤ R.size ∧ R.data.toList = UInt8.ofNat x :: (numB (headN x r + 1) ++ (insB (r.drop (headN x r)) ++ rest)) ∧
   rdN (R.extract 1 R.size).data.toList = (headN x r + 1, (numB (headN x r + 1)).length, 0) ∧ ((R.extract 1 R.size).extract (numB (headN x r + 1)).length (R.extract 1 R.size).size).data.toList = insB (r.drop (headN x r)) ++ rest := by
 obtain ⟨-, r0, e1, e2⟩ := h L rest hL
 cases r0 with
 | nil =>
  have h1 := hL.2.1
  rw [e1] at h1
  simp at h1
  omega
 | cons x r =>
  have h1 := hL.2.1
  rw [e1, zG, zH] at h1
  have h2 := headN_le x r
  have e3 : R.data.toList = UInt8.ofNat x :: (numB (headN x r + 1) ++ (insB (r.drop (headN x r)) ++ rest)) := by
   rw [e2, insB_cons, List.cons_append, List.append_assoc]
  have e4 : (R.extract 1 R.size).data.toList = numB (headN x r + 1) ++ (insB (r.drop (headN x r)) ++ rest) := by
   rw [extract_drop, e3]; rfl
  refine ⟨x, r, ?_, hL.2.2.1 x (by rw [e1]; simp), by omega, ?_, e3, ?_, ?_⟩
  ·rw [List.append_assoc, ← head_split]; exact e1
  ·rw [← ba_len, e3]; simp
  ·rw [e4]; exact rdN_numB _ (by omega)
  ·rw [extract_drop, e4, List.drop_left]
theorem StandsAt.no {s R : ByteArray} {bad0 : Bool} {n : Nat} {l : List Nat} (h : StandsAt s bad0 n l R false) (hl : l.length < n) (hn : n ≤ 20000)
  (hx : R.size < 1 ∨ ¬ nrOk (R.extract 1 R.size) false (n - l.length) ∨ (rdN (R.extract 1 R.size).data.toList).1 = 0) (L : List Nat) (rest : List UInt8) : ¬ Stands s bad0 n L rest := fun hL => by
 obtain ⟨x, r, h1, h2, h3, h4, h5, h6, h7⟩ := h.next hl hn hL
 rcases hx with hx | hx | hx
 ·omega
 ·exact hx ⟨rfl, by rw [h6], by rw [h6]; exact h3⟩
 ·rw [h6] at hx
  simp at hx
theorem StandsAt.more {s R : ByteArray} {bad0 : Bool} {n : Nat} {l : List Nat} (h : StandsAt s bad0 n l R false) (hl : l.length < n) (hn : n ≤ 20000) {k : Nat} {c : Nat} (hk : (rdN (R.extract 1 R.size).data.toList).1 = k) (hs : 0 < R.size) (hc : R[0].toNat = c) :
  StandsAt s bad0 n (l ++ List.replicate k c) ((R.extract 1 R.size).extract (rdN (R.extract 1 R.size).data.toList).2.1 (R.extract 1 R.size).size) false := fun L rest hL => by
 obtain ⟨x, r, h1, h2, h3, h4, h5, h6, h7⟩ := h.next hl hn hL
 rw [h6] at hk ⊢
 have hx : c = x := by
  rw [← hc, ← bytes_get R 0 hs]
  have : R.data.toList[0] = UInt8.ofNat x := by
   have h8 : R.data.toList[0]? = some (UInt8.ofNat x) := by rw [h5]; rfl
   exact (List.getElem?_eq_some_iff.1 h8).2
  rw [this, u8_nat h2]
 subst hx
 have hk : headN c r + 1 = k := hk
 rw [hk] at h1
 exact ⟨rfl, r.drop (headN c r), h1, h7⟩
def InpQ (w : World) (g : Nat) (s : ByteArray) (bad0 : Bool) (n : Nat) (e : Ending) (w' : World) : Prop :=
 ∃ (A : Option Addr) (c : Nat) (l : List Nat) (R : ByteArray) (bad : Bool), e = .returned (.slice A l.length c) ∧ OwnL w' w.heap.size 5 1 (.slice A l.length c) btC l ∧ l.length ≤ n ∧ (∀ z ∈ l, z < 256) ∧ RdB w' g R bad ∧ w.grownBy w' (some g) ∧ R.size ≤ s.size ∧
  (∀ (L : List Nat) (rest : List UInt8), Stands s bad0 n L rest → l = L ∧ R.data.toList = rest ∧ bad = false)
theorem rinp_any (g : Nat) (s : ByteArray) (bad0 : Bool) (n : Nat) (w : World) (h : RdB w g s bad0) (hs : s.size ≤ 1000000) (hn : n ≤ 20000) :
  Calls Tryz.prog 101 #[.pointer (some ⟨g, 0, none⟩), .int .i64 n] w fun e w' => InpQ w g s bad0 n e w' := by
 obtain ⟨ib, hib, hbz, hb1, hb2⟩ := info_parts Tryz.infoU8
 have hgl := h.lt
 have H := zz h
 clear h
 go_enter Tryz.func101, Tryz.ntmps101
 go_wp2
 go_loopw [5] (fun v wr => ∃ (l : List Nat) (R : ByteArray) (bad : Bool) (A : Option Addr) (c : Nat), v = .slice A l.length c ∧ Hid (OwnL wr w.heap.size 5 1 (.slice A l.length c) btC l) ∧ l.length ≤ n ∧ Hid (∀ z ∈ l, z < 256) ∧ Hid (RdB wr g R bad) ∧ Hid (w.grownBy wr (some g)) ∧ R.size ≤ s.size ∧ Hid (StandsAt s bad0 n l R bad)) (fun v _ => n - slN v)
 case atStart => exact ⟨[], s, bad0, none, 0, rfl, zz OwnL.nil, Nat.zero_le _, zz (by simp), H, zz (oRefl _ _), zL _, zz StandsAt.start⟩
 case round =>
  obtain ⟨l, R, bad, A, c, rfl, HO, hl, HZ, HB, HG, hR, HS⟩ := hrel
  clear H
  cases bad
  ·by_cases hlt : l.length < n
   ·have hR6 : R.size ≤ 1000000 := by omega
    have hml : n - l.length ≤ 4294967295 := by omega
    have hnl : (n : Int) - (l.length : Int) = ((n - l.length : Nat) : Int) := by omega
    have ra := Blk.cell HB.out 0; have rb := Blk.cell HB.out 1; have rl := Blk.lt HB.out; have rf := Blk.frozen HB.out 0; have rg := Blk.frozen HB.out 1; simp only [zA, zB, zC] at ra rb
    by_cases h1 : 1 ≤ R.size
    ·have HT := zz (take_ok g R 1 wr HB.out h1)
     have hR1 : (R.extract 1 R.size).size = R.size - 1 := by simp
     have HXX : Hid (∀ (hh : 0 < (R.extract 0 1).size), ((R.extract 0 1)[0]).toNat = R[0].toNat) := zz (fun hh => first_of R h1 hh)
     have HNO := zz (fun hx => HS.out.no hlt hn hx)
     have HMO := zz (fun k c hk hc => HS.out.more (k := k) (c := c) hlt hn hk h1 hc)
     have hvz : (R.extract 0 1).size = 1 := by simp; omega
     obtain ⟨R1, eR1⟩ : ∃ R1, R.extract 1 R.size = R1 := ⟨_, rfl⟩
     rw [eR1] at HT hR1 HNO HMO
     obtain ⟨V, hV⟩ : ∃ V, R.extract 0 1 = V := ⟨_, rfl⟩
     rw [hV] at HT HXX hvz
     clear eR1 hV HS
     by_cases hok : nrOk R1 false (n - l.length)
     ·have HNM := zz (fun V' (hB : RdB V' g R1 false) => number_ok g R1 false (n - l.length) V' hB hok (by omega) hml)
      have hkm : (rdN R1.data.toList).1 ≤ n - l.length := hok.2.2
      obtain ⟨k, hk⟩ : ∃ k, (rdN R1.data.toList).1 = k := ⟨_, rfl⟩
      rw [hk] at HNM hkm HNO HMO
      have hR2 : (R1.extract (rdN R1.data.toList).2.1 R1.size).size ≤ R1.size := by simp
      obtain ⟨R2, eR2⟩ : ∃ R2, R1.extract (rdN R1.data.toList).2.1 R1.size = R2 := ⟨_, rfl⟩
      rw [eR2] at HNM hR2 HMO
      clear hk eR2 hok
      by_cases hk0 : k = 0
      ·subst hk0
       have HNS := zz (HNO.out (.inr (.inr rfl)))
       clear HNO HMO
       go_wp2_with (first
        | (go_at_call 99; refine HT.out.mono ?_; rintro e w1 ⟨rfl, hB1, hg1⟩; have HB1 := zz hB1; have HG1 := zz (oTrans HG.out hg1); clear hB1 hg1)
        | (go_at_call 100; refine (HNM.out _ HB1.out).mono ?_; rintro e w2 ⟨rfl, hB2, hg2⟩; have HB2 := zz hB2; have HG2 := zz (oTrans HG1.out hg2); have qa := Blk.cell HB2.out 0; have qb := Blk.cell HB2.out 1; have ql := Blk.lt HB2.out; have qf := Blk.frozen HB2.out 0; have qg := Blk.frozen HB2.out 1; simp only [zA, zB, zC] at qa qb; clear hB2 hg2 ra rb rl rf rg))
       go_ret
       exact ⟨none, 0, [], R2, true, rfl, OwnL.nil, Nat.zero_le _, by simp, HB2.out.off _, oSet HG2.out _ _, by omega, fun L rest h => absurd h (HNS.out L rest)⟩
      ·have hvx := HXX.out (by omega)
       have hv0 : 0 < V.size := by omega
       obtain ⟨c0, hc0⟩ : ∃ c0, V[0].toNat = c0 := ⟨_, rfl⟩
       have hc256 : c0 < 256 := by have := UInt8.toNat_lt V[0]; omega
       have HMM := zz (HMO.out k c0 rfl (by rw [← hvx]; exact hc0))
       clear HNO HMO hvx HXX
       go_upto_region 8 with (first
        | (go_at_call 99; refine HT.out.mono ?_; rintro e w1 ⟨rfl, hB1, hg1⟩; have HB1 := zz hB1; have HG1 := zz (oTrans HG.out hg1); have HO1 := zz (own_turn HO.out hg1 hgl); clear hB1 hg1)
        | (go_at_call 100; refine (HNM.out _ HB1.out).mono ?_; rintro e w2 ⟨rfl, hB2, hg2⟩; have HB2 := zz hB2; have HG2 := zz (oTrans HG1.out hg2); have HO2 := zz (own_turn HO1.out hg2 hgl); have qa := Blk.cell HB2.out 0; have qb := Blk.cell HB2.out 1; have ql := Blk.lt HB2.out; have qf := Blk.frozen HB2.out 0; have qg := Blk.frozen HB2.out 1; simp only [zA, zB, zC] at qa qb; clear hB2 hg2 ra rb rl rf rg))
       clear HB1 HG1 HO1 HT HNM HB HG HO
       go_wp2
       go_loopw [5, 40] (fun v i wq => ∃ (j : Nat) (A : Option Addr) (c : Nat), j ≤ k ∧ i = .int .i64 j ∧ v = .slice A (l.length + j) c ∧ Hid (OwnL wq w.heap.size 5 1 (.slice A (l.length + j) c) btC (l ++ List.replicate j c0)) ∧ Hid (Below w.heap.size w2 wq)) (fun _ i _ => k - (intOf i).toNat)
       case atStart => exact ⟨0, A, c, Nat.zero_le _, rfl, rfl, zz (by simpa using HO2.out), zz (Below.refl _ _)⟩
       case round =>
        obtain ⟨j, A', c', hj, rfl, rfl, HOq, HBq⟩ := hrel
        have hwq := HBq.out.size
        have hw2 := HG2.out.size
        by_cases hjk : j < k
        ·go_wp2_with (at_builtin; refine wpList_append_own _ rfl (.tmp 42) (.tmp 45) 25 rfl w.heap.size 5 ib _ 1 1 Tryz.underlying25 hib hbz hb1 hb2 rfl (by decide) (.slice A' (l.length + j) c') (l.length + j) ((l ++ List.replicate j c0).flatMap btC) rfl ?c0 ⟨wr.heap.size, 0, none⟩ 1 1 [.int .u8 c0] rfl rfl ?c1 ?c2 ?c3 ?c4 ?c5 ?_)
         case c0 =>
          have h := World.ownsRow.alloc HOq.out (.cells #[.int .u8 (c0 : Nat)] 5)
          rwa [zG, List.length_replicate] at h
         case c1 => exact cell_new_row wr #[.int .u8 c0] 5 _ rfl
         case c2 => simp [Value.oneCell']
         case c3 => simp [maxLen]; omega
         case c4 => omega
         case c5 => simp; omega
         intro v' w' hown' hgr hnil
         have hb3 : Below w.heap.size w2 w' := Below.grown (HBq.out.alloc (by omega) _) hgr (by simp; omega) HOq.out.base_le
         have hw2 : OwnL w' w.heap.size 5 1 v' btC (l ++ List.replicate (j + 1) c0) := by
          unfold OwnL
          rw [List.replicate_succ', ← List.append_assoc, zG, List.flatMap_append, zG, List.length_replicate]
          simpa [btC] using hown'
         obtain ⟨A2, c2, hv2⟩ := hw2.shape
         rw [zG, List.length_replicate] at hv2
         subst hv2
         have HW3 := zz hw2
         have HB3 := zz hb3
         clear hown' hgr hnil hw2 hb3
         go_wp2
         go_roundw
         case rel => exact ⟨j + 1, A2, c2, by omega, by go_num, rfl, HW3, HB3⟩
         case measure => simp [intOf]; omega
        ·obtain rfl : j = k := by omega
         have HZ3 : Hid (∀ z ∈ l ++ List.replicate j c0, z < 256) := zz (fun z hz => by
          rcases List.mem_append.1 hz with h | h
          ·exact HZ.out z h
          ·rw [(List.mem_replicate.1 h).2]; exact hc256)
         have HB3 : Hid (RdB wr g R2 false) := zz (Blk.below HB2.out HBq.out hgl)
         have HG3 : Hid (w.grownBy wr (some g)) := zz (oBelow HG2.out HBq.out (zL _))
         clear HB2 HG2 HO2 HBq
         go_wp2
         go_roundw
         case rel => exact ⟨l ++ List.replicate j c0, R2, false, A', c', by simp, zz (by simpa using HOq.out), by simp; omega, HZ3, HB3, HG3, by omega, HMM⟩
         case measure => simp [slN]; omega
     ·have HNS := zz (HNO.out (.inr (.inl hok)))
      have HNM := zz (fun V' (hB : RdB V' g R1 false) => number_no g R1 false (n - l.length) V' hB hok (by omega))
      clear HNO HMO hok HXX
      go_wp2_with (first
       | (go_at_call 99; refine HT.out.mono ?_; rintro e w1 ⟨rfl, hB1, hg1⟩; have HB1 := zz hB1; have HG1 := zz (oTrans HG.out hg1); clear hB1 hg1)
       | (go_at_call 100; refine (HNM.out _ HB1.out).mono ?_; rintro e w2 ⟨rfl, hB2, hg2⟩; have HB2 := zz hB2; have HG2 := zz (oTrans HG1.out hg2); have qa := Blk.cell HB2.out 0; have qb := Blk.cell HB2.out 1; have ql := Blk.lt HB2.out; have qf := Blk.frozen HB2.out 0; have qg := Blk.frozen HB2.out 1; simp only [zA, zB, zC] at qa qb; clear hB2 hg2 ra rb rl rf rg))
      go_ret
      exact ⟨none, 0, [], R1, true, rfl, OwnL.nil, Nat.zero_le _, by simp, HB2.out.off _, oSet HG2.out _ _, by omega, fun L rest h => absurd h (HNS.out L rest)⟩
    ·have HNS := zz (HS.out.no hlt hn (.inl (by omega)))
     have HT := zz (take_no g R false 1 wr HB.out (.inr (by omega)))
     have HNM := zz (fun V' (hB : RdB V' g R true) => number_no g R true (n - l.length) V' hB (fun h => by cases h.1) (by omega))
     clear HS
     go_wp2_with (first
      | (go_at_call 99; refine HT.out.mono ?_; rintro e w1 ⟨rfl, hB1, hg1⟩; have HB1 := zz hB1; have HG1 := zz (oTrans HG.out hg1); clear hB1 hg1)
      | (go_at_call 100; refine (HNM.out _ HB1.out).mono ?_; rintro e w2 ⟨rfl, hB2, hg2⟩; have HB2 := zz hB2; have HG2 := zz (oTrans HG1.out hg2); have qa := Blk.cell HB2.out 0; have qb := Blk.cell HB2.out 1; have ql := Blk.lt HB2.out; have qf := Blk.frozen HB2.out 0; have qg := Blk.frozen HB2.out 1; simp only [zA, zB, zC] at qa qb; clear hB2 hg2 ra rb rl rf rg))
     go_ret
     exact ⟨none, 0, [], R, true, rfl, OwnL.nil, Nat.zero_le _, by simp, HB2.out.off _, oSet HG2.out _ _, by omega, fun L rest h => absurd h (HNS.out L rest)⟩
   ·have ra := Blk.cell HB.out 0; have rb := Blk.cell HB.out 1; have rl := Blk.lt HB.out; have rf := Blk.frozen HB.out 0; have rg := Blk.frozen HB.out 1; simp only [zA, zB, zC] at ra rb
    have HEN : Hid (∀ (L : List Nat) (rest : List UInt8), Stands s bad0 n L rest → l = L ∧ R.data.toList = rest) := zz (fun L rest hL => by
     obtain ⟨-, r, e1, e2⟩ := HS.out L rest hL
     have h1 := hL.2.1
     rw [e1, zG] at h1
     obtain rfl : r = [] := List.eq_nil_of_length_eq_zero (by omega)
     exact ⟨by rw [e1]; simp, by rw [e2]; rfl⟩)
    clear HS
    go_wp2
    go_ret
    exact ⟨A, c, l, R, false, rfl, HO.out, hl, HZ.out, HB.out, HG.out, hR, fun L rest h => ⟨(HEN.out L rest h).1, (HEN.out L rest h).2, rfl⟩⟩
  ·have ra := Blk.cell HB.out 0; have rb := Blk.cell HB.out 1; have rl := Blk.lt HB.out; have rf := Blk.frozen HB.out 0; have rg := Blk.frozen HB.out 1; simp only [zA, zB, zC] at ra rb
   have HEN : Hid (∀ (L : List Nat) (rest : List UInt8), ¬ Stands s bad0 n L rest) := zz (fun L rest hL => by cases (HS.out L rest hL).1)
   clear HS
   by_cases hlt : l.length < n
   all_goals
    go_wp2
    go_ret
    exact ⟨A, c, l, R, true, rfl, HO.out, hl, HZ.out, HB.out, HG.out, hR, fun L rest h => absurd h (HEN.out L rest)⟩
def wordV (l : List UInt8) : Nat := l.foldl (fun n c => n * 256 + c.toNat) 0
theorem wordV_lt : ∀ (l : List UInt8), wordV l < 256 ^ l.length := by
 intro l
 unfold wordV
 have H : ∀ (l : List UInt8) (n k : Nat), n < 256 ^ k → l.foldl (fun n c => n * 256 + c.toNat) n < 256 ^ (k + l.length) := by
  intro l
  induction l with
  | nil => intro n k h; exact h
  | cons c l ih =>
   intro n k h
   rw [List.foldl_cons, zH, show k + (l.length + 1) = k + 1 + l.length by omega]
   refine ih _ (k + 1) ?_
   have := UInt8.toNat_lt c
   rw [Nat.pow_succ]
   omega
 have := H l 0 0 (by decide)
 rwa [Nat.zero_add] at this
theorem wordV_be4 (m : Nat) (hm : m < 4294967296) : wordV (be4 m) = m := by
 unfold wordV be4
 simp only [List.foldl_cons, List.foldl_nil, u8_nat (Nat.mod_lt _ (by decide : 0 < 256))]
 omega
theorem wordV_take (l : List UInt8) (k : Nat) (h : k < l.length) : wordV (l.take (k + 1)) = wordV (l.take k) * 256 + l[k].toNat := by
 unfold wordV
 rw [List.take_succ_eq_append_getElem h, List.foldl_append]
 rfl
end
section
theorem conv_bytes (s : ByteArray) (W : World) : ∃ c wx, (convert 9 25 (.string s)).run Tryz.prog W = .ok (.slice (some ⟨W.heap.size, 0, none⟩) s.size c) wx ∧ Below W.heap.size W wx ∧ W.heap.size < wx.heap.size ∧ ∀ j (h : j < s.size), wx.cell? ⟨W.heap.size, j, none⟩ = some (.int .u8 (s[j].toNat : Nat)) := by
 refine ⟨_, _, run_bytes_of_string (P := Tryz.prog) W 9 25 5 s Tryz.underlying9 Tryz.underlying25 Tryz.underlying5, (Below.refl W.heap.size W).drew.alloc (zL _) _, ?_, fun j h => ?_⟩
 ·rw [World.size_alloc]; exact Nat.lt_succ_self _
 ·rw [cell_of_row _ _ j _ 5 _ (heap_new_at W.drew _ W.heap.size rfl)]
  unfold bytesRow
  rw [Array.getElem?_append_left (by simpa using h), Array.getElem?_map]
  have : s.data[j]? = some s[j] := by
   rw [Array.getElem?_eq_getElem h]; rfl
  rw [this]; rfl
theorem u32_orlow (a b : Int) (a0 : 0 ≤ a) (a1 : a < 16777216) (b0 : 0 ≤ b) (b1 : b < 256) : bits .or .u32 (a * 256) b = a * 256 + b :=
 bits_join .u32 32 (by decide) wraps_u32 8 _ _ (by omega) (by omega) (by omega) b0 (by omega) (by omega)
def WordQ (w : World) (g : Nat) (s : ByteArray) (bad : Bool) (e : Ending) (w' : World) : Prop :=
 ∃ (m : Nat) (R : ByteArray) (bad' : Bool), e = .returned (.int .u32 m) ∧ m < 4294967296 ∧ RdB w' g R bad' ∧ w.grownBy w' (some g) ∧
  (∀ (v : Nat) (rest : List UInt8), bad = false → v < 4294967296 → s.data.toList = be4 v ++ rest → m = v ∧ R.data.toList = rest ∧ bad' = false)
theorem rword_any (g : Nat) (s : ByteArray) (bad : Bool) (w : World) (h : RdB w g s bad) :
  Calls Tryz.prog 102 #[.pointer (some ⟨g, 0, none⟩)] w fun e w' => WordQ w g s bad e w' := by
 obtain ⟨V, R, bad', HT, hV, HQ⟩ : ∃ (V R : ByteArray) (bad' : Bool), Hid (Calls Tryz.prog 99 #[.pointer (some ⟨g, 0, none⟩), .int .i64 4] w fun e w' => e = .returned (.string V) ∧ RdB w' g R bad' ∧ w.grownBy w' (some g)) ∧ V.size ≤ 4 ∧
   Hid (∀ (v : Nat) (rest : List UInt8), bad = false → v < 4294967296 → s.data.toList = be4 v ++ rest → V.data.toList = be4 v ∧ R.data.toList = rest ∧ bad' = false) := by
  by_cases hc : bad = false ∧ 4 ≤ s.size
  ·obtain ⟨rfl, h4⟩ := hc
   refine ⟨_, _, false, zz (take_ok g s 4 w h h4), by simp; omega, zz (fun v rest _ _ e => ⟨?_, ?_, rfl⟩)⟩
   ·rw [extract_take, e, List.take_left' (be4_length v)]
   ·rw [extract_drop, e, List.drop_left' (be4_length v)]
  ·refine ⟨⟨#[]⟩, s, true, zz (take_no g s bad 4 w h (by
    cases bad
    ·exact .inr (Nat.lt_of_not_le (fun h => hc ⟨rfl, h⟩))
    ·exact .inl rfl)), by decide, zz (fun v rest hb _ e => ?_)⟩
   exfalso
   refine hc ⟨hb, ?_⟩
   rw [← ba_len, e, zG, be4_length]; omega
 have hgl := h.lt
 clear h
 have HLT := zz (wordV_lt V.data.toList)
 have HW : Hid (∀ k (h : k < V.size), wordV (V.data.toList.take (k + 1)) = wordV (V.data.toList.take k) * 256 + V[k].toNat) := zz (fun k h => by
  rw [wordV_take _ k h, bytes_get V k h])
 have HWL : Hid (∀ k, k ≤ 4 → wordV (V.data.toList.take k) < 256 ^ k) := zz (fun k _ => by
  have h1 := wordV_lt (V.data.toList.take k)
  refine Nat.lt_of_lt_of_le h1 (Nat.pow_le_pow_right (by decide) ?_)
  rw [List.length_take]; omega)
 go_enter Tryz.func102, Tryz.ntmps102
 go_wp2_with (first | (go_at_call 99; refine HT.out.mono ?_; rintro e w1 ⟨rfl, hB1, hg1⟩; obtain ⟨c1, wx, hcv, hbx, hlx, hcx⟩ := conv_bytes V w1; have HB1 := zz (hB1.on hbx); have HG1 := zz (oBelow' hg1 hbx); have HCX := zz hcx; clear hB1 hg1 hcx hbx))
 go_loop [3, 10] (fun nv i => ∃ k : Nat, k ≤ V.size ∧ i = .int .i64 k ∧ nv = .int .u32 (wordV (V.data.toList.take k) : Nat)) (fun _ i => V.size - (intOf i).toNat)
 case atStart => exact ⟨0, Nat.zero_le _, rfl, rfl⟩
 case round =>
  obtain ⟨k, hk, rfl, rfl⟩ := hrel
  by_cases hlt : k < V.size
  ·have hc := HCX.out k hlt
   have hw := HW.out k hlt
   have hl := HWL.out k (by omega)
   have hb := UInt8.toNat_lt V[k]
   have hl2 : wordV (V.data.toList.take k) < 16777216 := by
    refine Nat.lt_of_lt_of_le hl ?_
    exact Nat.pow_le_pow_right (n := 256) (j := 3) (by decide) (by omega)
   have HWK := zz hw
   obtain ⟨q, hq⟩ : ∃ q, wordV (V.data.toList.take k) = q := ⟨_, rfl⟩
   rw [hq] at hl2 HWK ⊢
   have hor := u32_orlow (q : Int) (V[k].toNat : Int) (by omega) (by omega) (by omega) (by omega)
   have hsh : IntKind.u32.wrap ((q : Int) * 256) = (q : Int) * 256 := by rw [IntKind.wrap_u32]; omega
   clear hq hl hw hcv
   go_wp2
   go_round
   case rel => exact ⟨k + 1, by omega, by go_num, by rw [HWK.out]; go_num⟩
   case measure => simp [intOf]; omega
  ·obtain rfl : k = V.size := by omega
   have HT4 : Hid (V.data.toList.take V.size = V.data.toList) := zz (List.take_of_length_le (zL _))
   have hl := HWL.out V.size hV
   rw [HT4.out] at hl ⊢
   have hl2 : wordV V.data.toList < 4294967296 := Nat.lt_of_lt_of_le hl (Nat.pow_le_pow_right (n := 256) (j := 4) (by decide) hV)
   clear hl hcv
   go_wp2
   go_ret
   refine ⟨wordV V.data.toList, R, bad', rfl, hl2, HB1.out, HG1.out, fun v rest h1 h2 h3 => ?_⟩
   obtain ⟨q1, q2, q3⟩ := HQ.out v rest h1 h2 h3
   exact ⟨by rw [q1, wordV_be4 v h2], q2, q3⟩
end
section
def openE (s : ByteArray) : Int := if s.size < 4 then 3 else if s.data.toList = sealB (s.data.toList.take (s.size - 4)) then 0 else 15
def openV (s : ByteArray) : ByteArray := if openE s = 0 then s.extract 0 (s.size - 4) else ⟨#[]⟩
theorem openV_ok {s : ByteArray} (h : openE s = 0) : openV s = s.extract 0 (s.size - 4) := if_pos h
theorem openV_no {s : ByteArray} (h : openE s ≠ 0) : openV s = ⟨#[]⟩ := if_neg h
theorem beq_yes {a b : ByteArray} (h : a = b) : (a.toList == b.toList) = true := by rw [h]; simp
theorem beq_no {a b : ByteArray} (h : a ≠ b) : (a.toList == b.toList) = false := by
 rw [beq_eq_false_iff_ne, ByteArray.toList_eq, ByteArray.toList_eq]
 exact fun e => h (data_ext _ _ e)
theorem seal_iff (s : ByteArray) (m : Nat) (hm : s.size = m + 4) : (s.extract m s.size).data.toList = be4 (sumN (s.extract 0 m).data.toList) ↔ s.data.toList = sealB (s.data.toList.take (s.size - 4)) := by
 rw [extract_drop, extract_take, show s.size - 4 = m by omega]
 constructor
 ·intro h
  conv => lhs; rw [← List.take_append_drop m s.data.toList, h]
  rfl
 ·intro h
  have h2 := congrArg (List.drop m) h
  rw [h2]
  unfold sealB
  rw [List.drop_left' (by rw [List.length_take, ba_len]; omega)]
theorem open_sum (s : ByteArray) (w : World) (hs : s.size ≤ 1000000) :
  Calls Tryz.prog 98 #[.string s] w fun e w' => e = .returned (.tuple #[.string (openV s), .int .i64 (openE s)]) ∧ Below w.heap.size w w' := by
 by_cases h4 : s.size < 4
 ·have HE : Hid (openE s = 3) := zz (if_pos h4)
  go_enter Tryz.func98, Tryz.ntmps98
  go_wp2
  go_ret2
  exact ⟨by rw [openV_no (by rw [HE.out]; decide), HE.out]; rfl, (by repeat (first | exact Below.refl _ _ | (with_reducible assumption) | apply bAlloc | apply below_drewN | apply Below.drew))⟩
 ·obtain ⟨m, hm⟩ : ∃ m, s.size = m + 4 := ⟨s.size - 4, by omega⟩
  have HI := zz (seal_iff s m hm)
  have hmi : (s.size : Int) - 4 = (m : Int) := by omega
  have HO := zz (fun V => of_any (s.extract 0 m) V (by simp; omega))
  have hlt := sumN_lt (s.extract 0 m).data.toList
  have HM4 : Hid (s.size - 4 = m) := zz (by omega)
  have HE : Hid (openE s = if s.data.toList = sealB (s.data.toList.take (s.size - 4)) then 0 else 15) := zz (if_neg h4)
  obtain ⟨q, hq⟩ : ∃ q, sumN (s.extract 0 m).data.toList = q := ⟨_, rfl⟩
  rw [hq] at HO hlt HI
  have HTL := zz (fun V => tail_any q hlt V)
  by_cases hd : (s.extract m s.size).data.toList = be4 q
  ·have HE0 : Hid (openE s = 0) := zz (by rw [HE.out, if_pos (HI.out.1 hd)])
   have heq : ((⟨(be4 q).toArray⟩ : ByteArray).toList == (s.extract m (m + 4)).toList) = true := beq_yes (by rw [← hm]; exact (data_ext _ _ hd).symm)
   obtain ⟨T, hT⟩ : ∃ T : ByteArray, ⟨(be4 q).toArray⟩ = T := ⟨_, rfl⟩
   rw [hT] at HTL heq
   clear hq hT hd HI HE
   go_enter Tryz.func98, Tryz.ntmps98
   go_wp2_with fail
   refine wp_region_mild (by kernel_rfl) (by kernel_rfl) ?_
   repeat (go_big_quiet_step (first | (go_at_call 146; exact mild_same (HO.out _)) | (go_at_call 164; exact mild_of (HTL.out _)) | fail))
   refine wpQuiet_nil ?_
   intro w4 hw'
   obtain ⟨⟨wq, k4⟩, hw''⟩ := hw'
   subst hw''
   go_wp2
   go_ret2
   exact ⟨by rw [openV_ok HE0.out, HM4.out, HE0.out]; rfl, k4⟩
  ·have HE0 : Hid (openE s = 15) := zz (by rw [HE.out, if_neg (fun h => hd (HI.out.2 h))])
   have hne : ((⟨(be4 q).toArray⟩ : ByteArray).toList == (s.extract m (m + 4)).toList) = false := beq_no (by rw [← hm]; exact fun h => hd (by rw [← h]))
   obtain ⟨T, hT⟩ : ∃ T : ByteArray, ⟨(be4 q).toArray⟩ = T := ⟨_, rfl⟩
   rw [hT] at HTL hne
   clear hq hT hd HI HE
   go_enter Tryz.func98, Tryz.ntmps98
   go_wp2_with fail
   refine wp_region_mild (by kernel_rfl) (by kernel_rfl) ?_
   repeat (go_big_quiet_step (first | (go_at_call 146; exact mild_same (HO.out _)) | (go_at_call 164; exact mild_of (HTL.out _)) | fail))
   refine wpQuiet_nil ?_
   intro w4 hw'
   obtain ⟨⟨wq, k4⟩, hw''⟩ := hw'
   subst hw''
   go_wp2
   go_ret2
   exact ⟨by rw [openV_no (by rw [HE0.out]; decide), HE0.out]; rfl, k4⟩
end
section
def IsTp (s : ByteArray) (sd d x m : Int) (a b : List Nat) : Prop := U32 sd ∧ U32 m ∧ a.length ≤ 20000 ∧ rightTq d x 0 a b = true ∧ s.data.toList = sealB (packB sd d x m a b)
def unpE (s : ByteArray) : Int := if openE s = 0 then 4 else openE s
def UnpQ (w : World) (s : ByteArray) (e : Ending) (w' : World) : Prop := Below w.heap.size w w' ∧
  ((∃ (sd d x m : Int) (a b : List Nat) (A B : Option Addr) (c c' : Nat), IsTp s sd d x m a b ∧ (∀ sd' d' x' m' a' b', IsTp s sd' d' x' m' a' b' → sd' = sd ∧ d' = d ∧ x' = x ∧ m' = m ∧ a' = a ∧ b' = b) ∧ e = .returned (.tuple #[.agg #[.int .u32 sd, .int .i64 d, .int .i64 x, .int .i64 0, .slice A a.length c, .slice B b.length c', .int .u32 m], .int .i64 0]) ∧
      OwnL w' w.heap.size 5 1 (.slice A a.length c) btC a ∧ OwnL w' w.heap.size 5 1 (.slice B b.length c') btC b) ∨
   ((∀ sd d x m a b, ¬ IsTp s sd d x m a b) ∧ e = .returned (.tuple #[.agg #[.int .u32 0, .int .i64 0, .int .i64 0, .int .i64 0, .slice none 0 0, .slice none 0 0, .int .u32 0], .int .i64 (unpE s)])))
theorem seal_take (u : List UInt8) : (sealB u).take ((sealB u).length - 4) = u := by
 rw [sealB_length, Nat.add_sub_cancel]
 unfold sealB
 rw [List.take_left]
theorem IsTp.opens {s : ByteArray} {sd d x m : Int} {a b : List Nat} (h : IsTp s sd d x m a b) : openE s = 0 ∧ (openV s).data.toList = packB sd d x m a b := by
 obtain ⟨-, -, -, -, h5⟩ := h
 have hl : s.size = (sealB (packB sd d x m a b)).length := by rw [← h5, ba_len]
 have h0 : openE s = 0 := by
  unfold openE
  rw [if_neg (by rw [hl, sealB_length]; omega), if_pos]
  rw [hl, h5, seal_take]
 refine ⟨h0, ?_⟩
 rw [openV_ok h0, extract_take, hl, h5, seal_take]
theorem pack_split (sd d x m : Int) (a b : List Nat) : packB sd d x m a b = [80, 66, 49] ++ (numB sd.toNat ++ (numB d.toNat ++ (numB x.toNat ++ (numB a.length ++ (insB a ++ (insB b ++ be4 m.toNat)))))) := by
 unfold packB headB
 simp only [List.append_assoc]
def NumQ (w : World) (g : Nat) (s : ByteArray) (bad : Bool) (most : Nat) (e : Ending) (w' : World) : Prop :=
 ∃ (v : Nat) (R : ByteArray) (bad' : Bool), e = .returned (.int .i64 v) ∧ v ≤ most ∧ RdB w' g R bad' ∧ w.grownBy w' (some g) ∧ R.size ≤ s.size ∧
  (∀ (m : Nat) (rest : List UInt8), bad = false → m ≤ most → s.data.toList = numB m ++ rest → v = m ∧ R.data.toList = rest ∧ bad' = false)
theorem number_q (g : Nat) (s : ByteArray) (bad : Bool) (most : Nat) (w : World) (h : RdB w g s bad) (hs : s.size ≤ 1000000) (hm : most ≤ 4294967295) :
  Calls Tryz.prog 100 #[.pointer (some ⟨g, 0, none⟩), .int .u64 most] w fun e w' => NumQ w g s bad most e w' := by
 by_cases hk : nrOk s bad most
 ·refine (number_ok g s bad most w h hk hs hm).mono ?_
  rintro e w' ⟨rfl, h1, h2⟩
  refine ⟨_, _, _, rfl, hk.2.2, h1, h2, by simp, fun m rest _ h3 h4 => ?_⟩
  have h5 : rdN s.data.toList = (m, (numB m).length, 0) := by rw [h4]; exact rdN_numB rest (by omega)
  rw [h5]
  exact ⟨rfl, by rw [extract_drop, h4, List.drop_left], rfl⟩
 ·refine (number_no g s bad most w h hk hs).mono ?_
  rintro e w' ⟨rfl, h1, h2⟩
  refine ⟨0, _, _, rfl, Nat.zero_le _, h1, h2, zL _, fun m rest h6 h3 h4 => ?_⟩
  exfalso
  have h5 : rdN s.data.toList = (m, (numB m).length, 0) := by rw [h4]; exact rdN_numB rest (by omega)
  exact hk ⟨h6, by rw [h5], by rw [h5]; exact h3⟩
theorem built_cfg (s d x : Int) : Tryz.prog.built 24 [(0, .int .u32 s), (1, .int .i64 d), (2, .int .i64 x)] = some #[.int .u32 s, .int .i64 d, .int .i64 x, .int .i64 0] := by kernel_rfl
theorem built_tp1 (s d x y : Int) : Tryz.prog.built 76 [(0, .agg #[.int .u32 s, .int .i64 d, .int .i64 x, .int .i64 y])] = some #[.int .u32 s, .int .i64 d, .int .i64 x, .int .i64 y, .slice none 0 0, .slice none 0 0, .int .u32 0] := by kernel_rfl
theorem built_tp0 : Tryz.prog.built 76 [] = some #[.int .u32 0, .int .i64 0, .int .i64 0, .int .i64 0, .slice none 0 0, .slice none 0 0, .int .u32 0] := by kernel_rfl
theorem OwnL.cap {α : Type} {w : World} {base : Nat} {E : TypeId} {m : Nat} {f : α → List Value} {l : List α} {A : Option Addr} {n c : Nat} (h : OwnL w base E m (.slice A n c) f l) : n ≤ c := by
 rcases h.2 with ⟨h1, -⟩ | ⟨g, cap, cur, h1, -, -, h2, -⟩
 ·simp only [Value.slice.injEq] at h1
  omega
 ·simp only [Value.slice.injEq] at h1
  omega
theorem tape_put {W : World} {g : Nat} {Z C : Array Value} (K : Blk W g 76 Z) (hZ : Z.size = 7) (hC : C.size = 7) :
  ∃ wx, W.setCells g 0 C.toList = wx ∧ W.there g 0 C.size ∧ (∀ p : Addr, p = ⟨g, 0, none⟩ → (loadVar 76 p).run Tryz.prog wx = .ok (.agg C) wx) ∧ Blk wx g 76 C ∧ W.grownBy wx (some g) := by
 have hcl : C.toList.length = C.size := by simp
 have hth : W.there g 0 C.size := Blk.there K (by omega)
 have hrg := World.rangeAt_setCells_same W g 0 C.toList (by rw [hcl]; exact hth)
 refine ⟨_, rfl, hth, fun p hp => ?_, ?_, oSetCells (oRefl _ _) 0 _⟩
 ·subst hp
  have := run_loadVar_mid (P := Tryz.prog) _ _ _ 76 C.toList _ hrg Tryz.underlying76 rfl (by rw [hcl, hC]; kernel_rfl)
  rwa [zJ] at this
 ·have := K.whole C.toList (by rw [hcl]; omega)
  rwa [zJ] at this
end
section
theorem unpack_any (s : ByteArray) (hs : s.size ≤ 1000000) (w : World) : Calls Tryz.prog 43 #[.string s] w fun e w' => UnpQ w s e w' := by
 have HOP := zz (fun V => open_sum s V hs)
 obtain ⟨C0, hC0⟩ : ∃ C0 : Array Value, #[.int .u32 0, .int .i64 0, .int .i64 0, .int .i64 0, .slice none 0 0, .slice none 0 0, .int .u32 0] = C0 := ⟨_, rfl⟩
 have HBT : Hid (Tryz.prog.built 76 [] = some C0) := zz (by rw [← hC0]; exact built_tp0)
 have HZ7 : Hid (C0.size = 7) := zz (by rw [← hC0]; rfl)
 have H1C : Hid (C0.all (·.oneCell') = true) := zz (by rw [← hC0]; simp [Value.oneCell'])
 have HSZ : Hid ((Tryz.prog.info? 76).map (·.size) = some C0.size) := zz (by rw [HZ7.out]; kernel_rfl)
 have HC0 : Hid (C0 = #[.int .u32 0, .int .i64 0, .int .i64 0, .int .i64 0, .slice none 0 0, .slice none 0 0, .int .u32 0]) := zz hC0.symm
 clear hC0
 by_cases h0 : openE s = 0
 ·have hbs : (openV s).size ≤ 1000000 := by rw [openV_ok h0]; simp; omega
  have HIS : Hid (∀ sd d x m a b, IsTp s sd d x m a b → (openV s).data.toList = [80, 66, 49] ++ (numB sd.toNat ++ (numB d.toNat ++ (numB x.toNat ++ (numB a.length ++ (insB a ++ (insB b ++ be4 m.toNat))))))) := zz (fun sd d x m a b h => by rw [← pack_split]; exact h.opens.2)
  have HU4 : Hid (unpE s = 4) := zz (if_pos h0)
  have HSL : Hid (∀ sd d x m a b, (openV s).data.toList = packB sd d x m a b → s.data.toList = sealB (packB sd d x m a b)) := zz (fun sd d x m a b h => by
   have h1 := h0
   unfold openE at h1
   split at h1
   ·cases h1
   ·split at h1
    ·rename_i h2
     rw [openV_ok h0, extract_take] at h
     rw [h] at h2
     exact h2
    ·cases h1)
  obtain ⟨B, hB⟩ : ∃ B, openV s = B := ⟨_, rfl⟩
  rw [h0, hB] at HOP
  rw [hB] at hbs HIS HSL
  unfold UnpQ
  rw [HU4.out]
  clear h0 hB
  go_enter Tryz.func43, Tryz.ntmps43
  go_upto_region 1 with fail
  refine named1 (F := fun W => Code.wp _ _ _ _ W) ?_
  intro w1 k0 hb1 hz1
  have K0 := zz k0
  have HB1 := zz hb1
  clear k0 hb1 hz1
  go_upto_region 5 with (first | (go_at_call 98; refine (HOP.out _).mono ?_; rintro e w2 ⟨rfl, hb2⟩; have K2 := zz (K0.out.on hb2); have HB2 := zz (bTrans HB1.out hb2); clear hb2))
  refine named1 (F := fun W => Code.wp _ _ _ _ W) ?_
  intro w3 k3 hb3 hz3
  have R3 : Hid (RdB w3 w2.heap.size B false) := zz k3
  have K3 := zz (K2.out.on hb3)
  have HB3 := zz (bTrans HB2.out hb3)
  have hg0 : w.heap.size < w2.heap.size := K2.out.lt
  obtain ⟨g, hg⟩ : ∃ g, w2.heap.size = g := ⟨_, rfl⟩
  rw [hg] at R3 hg0 ⊢
  clear k3 hb3 hz3 hg K2 HB2 K0 HB1 HOP
  have hkg : some g ≠ some w.heap.size := fun e => by injection e with e; omega
  have HBG : Hid (∀ {a b : World}, Below w.heap.size w a → a.grownBy b (some g) → Below w.heap.size w b) := zz (fun ha hab => ha.grown hab ha.size (fun k e => by cases e; omega))
  by_cases h3 : B.size < 3
  ·have HT := zz (take_no g B false 3 w3 R3.out (.inr h3))
   have HNO : Hid (∀ sd d x m a b, ¬ IsTp s sd d x m a b) := zz (fun sd d x m a b h => by
    have := HIS.out sd d x m a b h
    have h5 := congrArg List.length this
    rw [ba_len, zG] at h5
    simp at h5
    omega)
   clear HIS HSL
   go_upto_region 6 with (first | (go_at_call 99; refine HT.out.mono ?_; rintro e w4 ⟨rfl, -, hg4⟩; have K4 := K3.out.grown hg4 hkg; have HB4 := HBG.out HB3.out hg4; clear hg4))
   obtain ⟨wx, hwx, hth, hres, -, hgx⟩ := tape_put (C := C0) K4 rfl HZ7.out
   have HTH := zz hth
   have HRES := zz hres
   have HWX := zz hwx
   have HGX := zz hgx
   clear hwx hth hres hgx
   go_wp2_with (first
    | (refine wpList_built rfl 76 [] rfl C0 [] rfl HBT.out ?_)
    | (refine wpList_store_mid rfl 76 (.tmp 2) (.tmp 26) rfl w.heap.size 0 C0 rfl rfl HTH.out HSZ.out H1C.out ?_; rw [HWX.out]))
   exact bodyPost_ret (results_c1 (a := 2) (t := 76) (x := 3) rfl rfl (HRES.out _ rfl)) rfl ⟨((HB4).grown HGX.out (HB4).size (fun k e => by cases e; exact zL _)), .inr ⟨HNO.out, by rw [HC0.out]; rfl⟩⟩
  ·have HT := zz (take_ok g B 3 w3 R3.out (by omega))
   by_cases hm3 : B.data.toList.take 3 = [80, 66, 49]
   ·have hq : ((B.extract 0 3).toList == [80, 66, 49]) = true := by
     rw [ByteArray.toList_eq, extract_take, hm3]
     rfl
    have HIR : Hid (∀ sd d x m a b, IsTp s sd d x m a b → (B.extract 3 B.size).data.toList = numB sd.toNat ++ (numB d.toNat ++ (numB x.toNat ++ (numB a.length ++ (insB a ++ (insB b ++ be4 m.toNat)))))) := zz (fun sd d x m a b h => by
     rw [extract_drop, HIS.out sd d x m a b h]; rfl)
    have hrs : (B.extract 3 B.size).size ≤ 1000000 := by simp; omega
    obtain ⟨R0, hR0⟩ : ∃ R0, B.extract 3 B.size = R0 := ⟨_, rfl⟩
    rw [hR0] at HT HIR hrs
    have HPK : Hid ([80, 66, 49] ++ R0.data.toList = B.data.toList) := zz (by rw [← hR0, extract_drop, ← hm3, List.take_append_drop])
    clear HIS hm3 hR0
    go_upto_region 7 with (first | (go_at_call 99; refine HT.out.mono ?_; rintro e w4 ⟨rfl, hr4, hg4⟩; have R4 := zz hr4; have K4 := zz (K3.out.grown hg4 hkg); have HB4 := zz (HBG.out HB3.out hg4); clear hg4 hr4))
    clear hq HT R3 K3 HB3 h3
    go_upto_region 8 with (first
     | (go_at_call 100; refine (number_q g R2 b2 16 _ R6.out (by omega) (by decide)).mono ?_; rintro e w7 ⟨x, R3, b3, rfl, hx, hr7, hg7, hs3, hf3⟩; have R7 := zz hr7; have K7 := zz (K6.out.grown hg7 hkg); have HB7 := zz (HBG.out HB6.out hg7); have HF3 := zz hf3; clear hg7 hr7 hf3)
     | (go_at_call 100; refine (number_q g R1 b1 8 _ R5.out (by omega) (by decide)).mono ?_; rintro e w6 ⟨d, R2, b2, rfl, hd, hr6, hg6, hs2, hf2⟩; have R6 := zz hr6; have K6 := zz (K5.out.grown hg6 hkg); have HB6 := zz (HBG.out HB5.out hg6); have HF2 := zz hf2; clear hg6 hr6 hf2)
     | (go_at_call 100; refine (number_q g R0 false 4294967295 _ R4.out (by omega) (by decide)).mono ?_; rintro e w5 ⟨sd, R1, b1, rfl, hsd, hr5, hg5, hs1, hf1⟩; have R5 := zz hr5; have K5 := zz (K4.out.grown hg5 hkg); have HB5 := zz (HBG.out HB4.out hg5); have HF1 := zz hf1; clear hg5 hr5 hf1)
     | (refine wpList_built rfl 24 [(0, .tmp 29), (1, .tmp 31), (2, .tmp 33)] rfl #[.int .u32 (sd : Nat), .int .i64 (d : Nat), .int .i64 (x : Nat), .int .i64 0] [(0, .int .u32 (sd : Nat)), (1, .int .i64 (d : Nat)), (2, .int .i64 (x : Nat))] ?hv1 (built_cfg (sd : Nat) (d : Nat) (x : Nat)) ?_; (case' hv1 => rfl))
     | (refine wpList_built rfl 76 [(0, .tmp 34)] rfl #[.int .u32 (sd : Nat), .int .i64 (d : Nat), .int .i64 (x : Nat), .int .i64 0, .slice none 0 0, .slice none 0 0, .int .u32 0] [(0, .agg #[.int .u32 (sd : Nat), .int .i64 (d : Nat), .int .i64 (x : Nat), .int .i64 0])] ?hv2 (built_tp1 (sd : Nat) (d : Nat) (x : Nat) 0) ?_; (case' hv2 => rfl))
     | (refine wpList_store_mid rfl 76 (.tmp 7) (.tmp 35) rfl w7.heap.size 0 #[.int .u32 (sd : Nat), .int .i64 (d : Nat), .int .i64 (x : Nat), .int .i64 0, .slice none 0 0, .slice none 0 0, .int .u32 0] rfl rfl (there_new _ _ _ rfl) (by kernel_rfl) (by simp [Value.oneCell']) ?_))
    refine named_put (F := fun W => Code.wp _ _ _ _ W) rfl ?_
    intro w8 k8 hb8 hz8
    have R8 := zz (R7.out.on hb8)
    have K8 := zz (K7.out.on hb8)
    have HB8 := zz (bTrans HB7.out hb8)
    have hgt0 : g < w7.heap.size := R7.out.lt
    obtain ⟨gt, hgt⟩ : ∃ gt, w7.heap.size = gt := ⟨_, rfl⟩
    rw [hgt] at k8 hgt0 ⊢
    have T8 := zz k8
    have hkt : some g ≠ some gt := fun e => by injection e with e; omega
    clear hgt k8 hb8 hz8 K7 HB7 R7 K6 HB6 R6 K5 HB5 R5 K4 HB4 R4
    go_upto_region 9 with (first
     | (go_at_call 100; refine (number_q g R3 b3 20000 _ R8.out (by omega) (by decide)).mono ?_; rintro e w9 ⟨n, R4, b4, rfl, hn, hr9, hg9, hs4, hf4⟩; have R9 := zz hr9; have K9 := zz (K8.out.grown hg9 hkg); have T9 := zz (T8.out.grown hg9 hkt); have HB9 := zz (HBG.out HB8.out hg9); have HF4 := zz hf4; clear hg9 hr9 hf4))
    have hw9 := HB9.out.size
    have hg9 : g < w9.heap.size := R9.out.lt
    clear K8 HB8 R8 T8
    go_upto_region 10 with (first
     | (go_at_call 101; refine (rinp_any g R4 b4 n _ R9.out (by omega) hn).mono ?_; rintro e w10 ⟨A, cA, a, R5, b5, rfl, hoa, hla, hza, hr10, hg10, hs5, hf5⟩; have OA10 := zz hoa; have HZA := zz hza; have R10 := zz hr10; have K10 := zz (K9.out.grown hg10 hkg); have T10 := zz (T9.out.grown hg10 hkt); have HB10 := zz (HBG.out HB9.out hg10); have HF5 := zz hf5; have t4 := T10.out.cell 4; have f4 := T10.out.frozen 4; have l4 := T10.out.lt; simp only [zA, zB, zC] at t4; clear hg10 hr10 hf5 hoa hza))
    have hw10 := HB10.out.size
    have kk := K10.out.farG (show w.heap.size ≠ gt by omega) 4 (.slice A a.length cA)
    have rr : RdB (w10.setCell ⟨gt, 4, none⟩ (.slice A a.length cA)) g R5 b5 := Blk.farG R10.out (show g ≠ gt by omega) 4 (.slice A a.length cA)
    have tt : Blk (w10.setCell ⟨gt, 4, none⟩ (.slice A a.length cA)) gt 76 #[.int .u32 (sd : Nat), .int .i64 (d : Nat), .int .i64 (x : Nat), .int .i64 0, .slice A a.length cA, .slice none 0 0, .int .u32 0] := T10.out.set 4 (.slice A a.length cA)
    have bb := bSetG HB10.out (show w.heap.size ≤ gt by omega) 4 (.slice A a.length cA)
    have oo := OA10.out.farG (T10.out.apart OA10.out (by decide)) 4 (.slice A a.length cA)
    obtain ⟨w11, hw11⟩ : ∃ w11, w10.setCell ⟨gt, 4, none⟩ (.slice A a.length cA) = w11 := ⟨_, rfl⟩
    rw [hw11] at kk rr tt bb oo ⊢
    have K11 := zz kk
    have R11 := zz rr
    have T11 := zz tt
    have HB11 := zz bb
    have OA11 := zz oo
    have hg11 : g < w11.heap.size := rr.lt
    have hw11' := bb.size
    clear kk rr tt bb oo hw11 K10 R10 T10 HB10 OA10 t4 f4 l4 K9 R9 T9 HB9
    go_upto_region 11 with (first
     | (go_at_call 101; refine (rinp_any g R5 b5 n _ R11.out (by omega) hn).mono ?_; rintro e w12 ⟨A', cB, b, R6, b6, rfl, hob, hlb, hzb, hr12, hg12, hs6, hf6⟩; have OA12 := zz (own_turn OA11.out hg12 hg9); have OB12 := zz hob; have HZB := zz hzb; have R12 := zz hr12; have K12 := zz (K11.out.grown hg12 hkg); have T12 := zz (T11.out.grown hg12 hkt); have HB12 := zz (HBG.out HB11.out hg12); have HF6 := zz hf6; have t5 := T12.out.cell 5; have f5 := T12.out.frozen 5; have l5 := T12.out.lt; simp only [zA, zB, zC] at t5; clear hg12 hr12 hf6 hob hzb))
    have hw12 := HB12.out.size
    have kk := K12.out.farG (show w.heap.size ≠ gt by omega) 5 (.slice A' b.length cB)
    have rr : RdB (w12.setCell ⟨gt, 5, none⟩ (.slice A' b.length cB)) g R6 b6 := Blk.farG R12.out (show g ≠ gt by omega) 5 (.slice A' b.length cB)
    have tt : Blk (w12.setCell ⟨gt, 5, none⟩ (.slice A' b.length cB)) gt 76 #[.int .u32 (sd : Nat), .int .i64 (d : Nat), .int .i64 (x : Nat), .int .i64 0, .slice A a.length cA, .slice A' b.length cB, .int .u32 0] := T12.out.set 5 (.slice A' b.length cB)
    have bb := bSetG HB12.out (show w.heap.size ≤ gt by omega) 5 (.slice A' b.length cB)
    have oo := OA12.out.farG (T12.out.apart OA12.out (by decide)) 5 (.slice A' b.length cB)
    have pp := OB12.out.farG (T12.out.apart OB12.out (by decide)) 5 (.slice A' b.length cB)
    obtain ⟨w13, hw13⟩ : ∃ w13, w12.setCell ⟨gt, 5, none⟩ (.slice A' b.length cB) = w13 := ⟨_, rfl⟩
    rw [hw13] at kk rr tt bb oo pp ⊢
    have K13 := zz kk
    have R13 := zz rr
    have T13 := zz tt
    have HB13 := zz bb
    have OA13 := zz oo
    have OB13 := zz pp
    clear kk rr tt bb oo pp hw13 K12 R12 T12 HB12 OA12 OB12 t5 f5 l5 K11 R11 T11 HB11 OA11
    go_upto_region 12 with (first
     | (go_at_call 102; refine (rword_any g R6 b6 _ R13.out).mono ?_; rintro e w14 ⟨m, R7, b7, rfl, hm, hr14, hg14, hf7⟩; have OA14 := zz (own_turn OA13.out hg14 hg9); have OB14 := zz (own_turn OB13.out hg14 hg11); have R14 := zz hr14; have K14 := zz (K13.out.grown hg14 hkg); have T14 := zz (T13.out.grown hg14 hkt); have HB14 := zz (HBG.out HB13.out hg14); have HF7 := zz hf7; have t6 := T14.out.cell 6; have f6 := T14.out.frozen 6; have l6 := T14.out.lt; simp only [zA, zB, zC] at t6; clear hg14 hr14 hf7))
    have kk := K14.out.farG (show w.heap.size ≠ gt by omega) 6 (.int .u32 (m : Nat))
    have rr : RdB (w14.setCell ⟨gt, 6, none⟩ (.int .u32 (m : Nat))) g R7 b7 := Blk.farG R14.out (show g ≠ gt by omega) 6 (.int .u32 (m : Nat))
    have tt : Blk (w14.setCell ⟨gt, 6, none⟩ (.int .u32 (m : Nat))) gt 76 #[.int .u32 (sd : Nat), .int .i64 (d : Nat), .int .i64 (x : Nat), .int .i64 0, .slice A a.length cA, .slice A' b.length cB, .int .u32 (m : Nat)] := T14.out.set 6 (.int .u32 (m : Nat))
    have bb := bSetG HB14.out (show w.heap.size ≤ gt by omega) 6 (.int .u32 (m : Nat))
    have oo := (OA14.out.farG (T14.out.apart OA14.out (by decide)) 6 (.int .u32 (m : Nat))).more hw9
    have pp := (OB14.out.farG (T14.out.apart OB14.out (by decide)) 6 (.int .u32 (m : Nat))).more hw11'
    obtain ⟨w15, hw15⟩ : ∃ w15, w14.setCell ⟨gt, 6, none⟩ (.int .u32 (m : Nat)) = w15 := ⟨_, rfl⟩
    rw [hw15] at kk rr tt bb oo pp ⊢
    have K15 := zz kk
    have R15 := zz rr
    have T15 := zz tt
    have HB15 := zz bb
    have OA15 := zz oo
    have OB15 := zz pp
    have hca := oo.cap
    have hcb := pp.cap
    clear kk rr tt bb oo pp hw15 K14 R14 T14 HB14 OA14 OB14 t6 f6 l6 K13 R13 T13 HB13 OA13 OB13
    have HCH : Hid (∀ sd' d' x' m' a' b', IsTp s sd' d' x' m' a' b' → (sd' = (sd : Nat) ∧ d' = (d : Nat) ∧ x' = (x : Nat) ∧ m' = (m : Nat) ∧ a' = a ∧ b' = b) ∧ b7 = false ∧ R7.data.toList = []) := zz (fun sd' d' x' m' a' b' h => by
     have h1 := HIR.out _ _ _ _ _ _ h
     obtain ⟨g1, g2, g3, g4, -⟩ := h
     obtain ⟨⟨q1, q2⟩, -, q3, ⟨q4, q5⟩, q6, q7⟩ := right_parts (rightTq_tp g4)
     obtain ⟨e1, h2, c1⟩ := HF1.out _ _ trivial (by have := g1.1; have := g1.2; omega) h1
     obtain ⟨e2, h3, c2⟩ := HF2.out _ _ c1 (by omega) h2
     obtain ⟨e3, h4, c3⟩ := HF3.out _ _ c2 (by omega) h3
     obtain ⟨e4, h5, c4⟩ := HF4.out _ _ c3 (by omega) h4
     obtain ⟨e5, h6, c5⟩ := HF5.out _ _ ⟨c4, by omega, fun z hz => by have := q6 z hz; omega, h5⟩
     obtain ⟨e6, h7, c6⟩ := HF6.out _ _ ⟨c5, by omega, fun z hz => by have := q7 z hz; omega, h6⟩
     obtain ⟨e7, h8, c7⟩ := HF7.out m'.toNat [] c6 (by have := g2.1; have := g2.2; omega) (by rw [h7, List.append_nil])
     have := g1.1
     have := g2.1
     exact ⟨⟨by omega, by omega, by omega, by omega, e5.symm, e6.symm⟩, c7, h8⟩)
    clear HF1 HF2 HF3 HF4 HF5 HF6 HF7 HIR hs1 hs2 hs3 hs4 hs5 hs6
    have hsd2 : U32 (sd : Nat) := ⟨by omega, by omega⟩
    have hm2 : U32 (m : Nat) := ⟨by omega, by omega⟩
    obtain ⟨P, f, HPC, HGD⟩ : ∃ (P : ByteArray) (f : Int), Hid (∀ V, Below w15.heap.size w15 V → Calls Tryz.prog 34 #[.agg #[.int .u32 (sd : Nat), .int .i64 (d : Nat), .int .i64 (x : Nat), .int .i64 0, .slice A a.length cA, .slice A' b.length cB, .int .u32 (m : Nat)]] V fun e w' => e = .returned (.tuple #[.string P, .int .i64 f]) ∧ Below V.heap.size V w') ∧ Hid ((f = 0 ∧ P = s) ↔ IsTp s (sd : Nat) (d : Nat) (x : Nat) (m : Nat) a b) := by
     have RA := fun (V : World) (hV : Below w15.heap.size w15 V) => (OA15.out.rd.below hV (zL _)).more hV.size
     have RB := fun (V : World) (hV : Below w15.heap.size w15 V) => (OB15.out.rd.below hV (zL _)).more hV.size
     by_cases hq : rightTq (d : Nat) (x : Nat) 0 a b = true
     ·refine ⟨_, _, zz (fun V hV => pack_good20 (sd : Nat) (d : Nat) (x : Nat) (m : Nat) A A' cA cB a b V hsd2 hm2 hq (by omega) (by omega) hca hcb (RA V hV) (RB V hV)), zz ⟨fun h => ⟨hsd2, hm2, by omega, hq, by rw [← h.2]⟩, fun h => ⟨rfl, data_ext _ _ h.2.2.2.2.symm⟩⟩⟩
     ·refine ⟨_, _, zz (fun V hV => pack_bad20 (sd : Nat) (d : Nat) (x : Nat) 0 (m : Nat) A A' cA cB a b V (by simpa using hq) (by omega) (by omega) (RA V hV) (RB V hV)), zz ⟨fun h => absurd h.1 (by decide), fun h => absurd h.2.2.2.1 hq⟩⟩
    obtain ⟨C1, hC1⟩ : ∃ C1 : Array Value, #[.int .u32 (sd : Nat), .int .i64 (d : Nat), .int .i64 (x : Nat), .int .i64 0, .slice A a.length cA, .slice A' b.length cB, .int .u32 (m : Nat)] = C1 := ⟨_, rfl⟩
    rw [hC1] at HPC
    have HT := T15.out
    rw [hC1] at HT
    have HC1 := zz hC1.symm
    have HY7 : Hid (C1.size = 7) := zz (by rw [← hC1]; rfl)
    have HY1 : Hid (C1.all (·.oneCell') = true) := zz (by rw [← hC1]; simp [Value.oneCell'])
    have HYZ : Hid ((Tryz.prog.info? 76).map (·.size) = some C1.size) := zz (by rw [HY7.out]; kernel_rfl)
    have T16 := zz HT
    have HRG : Hid (∀ V, Below w15.heap.size w15 V → V.rangeAt gt 0 C1.toList) := zz (fun V hV => Blk.range (by simpa using T16.out.on hV))
    clear hC1 HT T15 hsd2 hm2 hca hcb
    go_upto_region 13 with (first
     | (refine wpList_load_mid rfl 76 (.tmp 7) rfl gt 0 rfl C1.toList _ (HRG.out _ (Below.refl _ _)) Tryz.underlying76 rfl (by rw [zK]; exact HYZ.out) ?_; rw [zJ])
     | (go_at_call 34; refine (HPC.out _ (Below.refl _ _)).mono ?_; rintro e w16 ⟨rfl, hb16⟩; have K16 := K15.out.on hb16; have HB16 := bTrans HB15.out hb16; have OA16 := zz (OA15.out.below hb16); have OB16 := zz (OB15.out.below hb16); have R16 := R15.out.on hb16; have HR16 := zz (HRG.out _ hb16); clear hb16))
    have ra := Blk.cell R16 0; have rb := Blk.cell R16 1; have rl := Blk.lt R16; have rf := Blk.frozen R16 0; have rg := Blk.frozen R16 1; simp only [zA, zB, zC] at ra rb
    by_cases hgood : (f = 0 ∧ P = s)
    ·have hT := HGD.out.1 hgood
     obtain ⟨-, rfl, h7⟩ := HCH.out _ _ _ _ _ _ hT
     have h8 : R7 = ⟨#[]⟩ := data_ext _ _ h7
     obtain ⟨rfl, rfl⟩ := hgood
     subst h8
     have HUN : Hid (∀ sd' d' x' m' a' b', IsTp P sd' d' x' m' a' b' → sd' = (sd : Nat) ∧ d' = (d : Nat) ∧ x' = (x : Nat) ∧ m' = (m : Nat) ∧ a' = a ∧ b' = b) := zz (fun _ _ _ _ _ _ h => (HCH.out _ _ _ _ _ _ h).1)
     clear HGD HCH h7
     obtain ⟨wx, hwx, hth, hres, -, hgx⟩ := tape_put (C := C1) K16 rfl HY7.out
     have HTH := zz hth
     have HRES := zz hres
     have HWX := zz hwx
     have HGX := zz hgx
     have HOA := zz (OwnL.kept (row := some w.heap.size) OA16.out hgx (.inr (K16.apart OA16.out (by decide))))
     have HOB := zz (OwnL.kept (row := some w.heap.size) OB16.out hgx (.inr (K16.apart OB16.out (by decide))))
     have HTT := zz hT
     clear hwx hth hres hgx hT
     go_upto_region 15 with fail
     go_wp2_with (first
      | (refine wpList_load_mid rfl 76 (.tmp 7) rfl gt 0 rfl C1.toList _ HR16.out Tryz.underlying76 rfl (by rw [zK]; exact HYZ.out) ?_; rw [zJ])
      | (refine wpList_store_mid rfl 76 (.tmp 2) (.tmp 75) rfl w.heap.size 0 C1 rfl rfl HTH.out HYZ.out HY1.out ?_; rw [HWX.out]))
     exact bodyPost_ret (results_c1 (a := 2) (t := 76) (x := 3) rfl rfl (HRES.out _ rfl)) rfl ⟨HB16.grown HGX.out HB16.size (fun k e => by cases e; exact zL _), .inl ⟨_, _, _, _, a, b, A, A', cA, cB, HTT.out, HUN.out, by rw [HC1.out]; rfl, HOA.out, HOB.out⟩⟩
    ·have HNO : Hid (∀ sd d x m a b, ¬ IsTp s sd d x m a b) := zz (fun sd' d' x' m' a' b' h => by
      obtain ⟨⟨rfl, rfl, rfl, rfl, rfl, rfl⟩, -, -⟩ := HCH.out _ _ _ _ _ _ h
      exact hgood (HGD.out.2 h))
     clear HGD HCH
     cases b7
     ·by_cases h7 : (R7.toList == []) = true
      ·by_cases hf : f = 0
       ·have hp : (P.toList == s.toList) = false := beq_no (fun h => hgood ⟨hf, h⟩)
        subst hf
        clear hgood
        go_upto_region 14 with fail
        obtain ⟨wx, hwx, hth, hres, -, hgx⟩ := tape_put (C := C0) K16 rfl HZ7.out
        have HTH := zz hth
        have HRES := zz hres
        have HWX := zz hwx
        have HGX := zz hgx
        clear hwx hth hres hgx
        go_wp2_with (first
         | (refine wpList_built rfl 76 [] rfl C0 [] rfl HBT.out ?_)
         | (refine wpList_store_mid rfl 76 (.tmp 2) (.tmp 74) rfl w.heap.size 0 C0 rfl rfl HTH.out HSZ.out H1C.out ?_; rw [HWX.out]))
        exact bodyPost_ret (results_c1 (a := 2) (t := 76) (x := 3) rfl rfl (HRES.out _ rfl)) rfl ⟨((HB16).grown HGX.out (HB16).size (fun k e => by cases e; exact zL _)), .inr ⟨HNO.out, by rw [HC0.out]; rfl⟩⟩
       ·have hf2 : (f != 0) = true := by simpa using hf
        clear hgood hf
        go_upto_region 14 with fail
        obtain ⟨wx, hwx, hth, hres, -, hgx⟩ := tape_put (C := C0) K16 rfl HZ7.out
        have HTH := zz hth
        have HRES := zz hres
        have HWX := zz hwx
        have HGX := zz hgx
        clear hwx hth hres hgx
        go_wp2_with (first
         | (refine wpList_built rfl 76 [] rfl C0 [] rfl HBT.out ?_)
         | (refine wpList_store_mid rfl 76 (.tmp 2) (.tmp 74) rfl w.heap.size 0 C0 rfl rfl HTH.out HSZ.out H1C.out ?_; rw [HWX.out]))
        exact bodyPost_ret (results_c1 (a := 2) (t := 76) (x := 3) rfl rfl (HRES.out _ rfl)) rfl ⟨((HB16).grown HGX.out (HB16).size (fun k e => by cases e; exact zL _)), .inr ⟨HNO.out, by rw [HC0.out]; rfl⟩⟩
      ·have h72 : (R7.toList == []) = false := by simpa using h7
       clear hgood h7
       go_upto_region 14 with fail
       obtain ⟨wx, hwx, hth, hres, -, hgx⟩ := tape_put (C := C0) K16 rfl HZ7.out
       have HTH := zz hth
       have HRES := zz hres
       have HWX := zz hwx
       have HGX := zz hgx
       clear hwx hth hres hgx
       go_wp2_with (first
        | (refine wpList_built rfl 76 [] rfl C0 [] rfl HBT.out ?_)
        | (refine wpList_store_mid rfl 76 (.tmp 2) (.tmp 74) rfl w.heap.size 0 C0 rfl rfl HTH.out HSZ.out H1C.out ?_; rw [HWX.out]))
       exact bodyPost_ret (results_c1 (a := 2) (t := 76) (x := 3) rfl rfl (HRES.out _ rfl)) rfl ⟨((HB16).grown HGX.out (HB16).size (fun k e => by cases e; exact zL _)), .inr ⟨HNO.out, by rw [HC0.out]; rfl⟩⟩
     ·clear hgood
      go_upto_region 14 with fail
      obtain ⟨wx, hwx, hth, hres, -, hgx⟩ := tape_put (C := C0) K16 rfl HZ7.out
      have HTH := zz hth
      have HRES := zz hres
      have HWX := zz hwx
      have HGX := zz hgx
      clear hwx hth hres hgx
      go_wp2_with (first
       | (refine wpList_built rfl 76 [] rfl C0 [] rfl HBT.out ?_)
       | (refine wpList_store_mid rfl 76 (.tmp 2) (.tmp 74) rfl w.heap.size 0 C0 rfl rfl HTH.out HSZ.out H1C.out ?_; rw [HWX.out]))
      exact bodyPost_ret (results_c1 (a := 2) (t := 76) (x := 3) rfl rfl (HRES.out _ rfl)) rfl ⟨((HB16).grown HGX.out (HB16).size (fun k e => by cases e; exact zL _)), .inr ⟨HNO.out, by rw [HC0.out]; rfl⟩⟩
   ·have HNO : Hid (∀ sd d x m a b, ¬ IsTp s sd d x m a b) := zz (fun sd d x m a b h => by
     have := HIS.out sd d x m a b h
     exact hm3 (by rw [this]; rfl))
    have hq : ((B.extract 0 3).toList == [80, 66, 49]) = false := by
     rw [beq_eq_false_iff_ne, ByteArray.toList_eq, extract_take]
     exact hm3
    clear HIS HSL hm3
    go_upto_region 6 with (first | (go_at_call 99; refine HT.out.mono ?_; rintro e w4 ⟨rfl, -, hg4⟩; have K4 := K3.out.grown hg4 hkg; have HB4 := HBG.out HB3.out hg4; clear hg4))
    obtain ⟨wx, hwx, hth, hres, -, hgx⟩ := tape_put (C := C0) K4 rfl HZ7.out
    have HTH := zz hth
    have HRES := zz hres
    have HWX := zz hwx
    have HGX := zz hgx
    clear hwx hth hres hgx
    go_wp2_with (first
     | (refine wpList_built rfl 76 [] rfl C0 [] rfl HBT.out ?_)
     | (refine wpList_store_mid rfl 76 (.tmp 2) (.tmp 26) rfl w.heap.size 0 C0 rfl rfl HTH.out HSZ.out H1C.out ?_; rw [HWX.out]))
    exact bodyPost_ret (results_c1 (a := 2) (t := 76) (x := 3) rfl rfl (HRES.out _ rfl)) rfl ⟨((HB4).grown HGX.out (HB4).size (fun k e => by cases e; exact zL _)), .inr ⟨HNO.out, by rw [HC0.out]; rfl⟩⟩
 ·have HE : Hid (unpE s = openE s) := zz (if_neg h0)
  have HNO : Hid (∀ sd d x m a b, ¬ IsTp s sd d x m a b) := zz (fun sd d x m a b h => h0 h.opens.1)
  obtain ⟨er, her⟩ : ∃ er, openE s = er := ⟨_, rfl⟩
  rw [her] at HOP h0 HE
  have hne : (er != 0) = true := by simpa using h0
  unfold UnpQ
  rw [HE.out]
  clear her h0
  go_enter Tryz.func43, Tryz.ntmps43
  go_upto_region 1 with fail
  refine named1 (F := fun W => Code.wp _ _ _ _ W) ?_
  intro w1 k0 hb1 hz1
  go_upto_region 3 with (first | (go_at_call 98; refine (HOP.out _).mono ?_; rintro e w2 ⟨rfl, hb2⟩; have K2 := k0.on hb2; have HB2 := bTrans hb1 hb2; clear k0 hb1 hb2))
  obtain ⟨wx, hwx, hth, hres, -, hgx⟩ := tape_put (C := C0) K2 rfl HZ7.out
  have HTH := zz hth
  have HRES := zz hres
  have HWX := zz hwx
  have HGX := zz hgx
  clear hwx hth hres hgx
  go_wp2_with (first
   | (refine wpList_built rfl 76 [] rfl C0 [] rfl HBT.out ?_)
   | (refine wpList_store_mid rfl 76 (.tmp 2) (.tmp 18) rfl w.heap.size 0 C0 rfl rfl HTH.out HSZ.out H1C.out ?_; rw [HWX.out]))
  exact bodyPost_ret (results_c1 (a := 2) (t := 76) (x := 3) rfl rfl (HRES.out _ rfl)) rfl ⟨((HB2).grown HGX.out (HB2).size (fun k e => by cases e; exact zL _)), .inr ⟨HNO.out, by rw [HC0.out]; rfl⟩⟩
end
section
theorem take_eq_succ {a b : List Nat} {k : Nat} (h1 : k < a.length) (h2 : k < b.length) (h : a.take k = b.take k) (he : a[k] = b[k]) : a.take (k + 1) = b.take (k + 1) := by
 rw [List.take_succ_eq_append_getElem h1, List.take_succ_eq_append_getElem h2, h, he]
theorem same06_any (A B : Option Addr) (c c' : Nat) (a b : List Nat) (w : World) (ha : a.length ≤ 20000) (ra : Rd w w.heap.size A (a.flatMap btC)) (rb : Rd w w.heap.size B (b.flatMap btC)) :
  Calls Tryz.prog 97 #[.slice A a.length c, .slice B b.length c'] w fun e w' => e = .returned (.bool (decide (a = b))) ∧ Below w.heap.size w w' := by
 by_cases hn : a.length = b.length
 ·have HRA := zz ra
  have HRB := zz rb
  obtain ⟨n, hna⟩ : ∃ n, a.length = n := ⟨_, rfl⟩
  have HNA := zz hna
  have HNB : Hid (b.length = n) := zz (by rw [← hn]; exact hna)
  rw [← hn, hna]
  rw [hna] at ha
  clear ra rb hn hna
  go_enter Tryz.func97, Tryz.ntmps97
  go_wp2
  go_loopw [5] (fun i wr => ∃ k : Nat, k ≤ n ∧ i = .int .i64 k ∧ Hid (a.take k = b.take k) ∧ Hid (Below w.heap.size w wr)) (fun i _ => n - (intOf i).toNat)
  case atStart => exact ⟨0, Nat.zero_le _, rfl, zz rfl, zz (Below.refl _ _)⟩
  case round =>
   obtain ⟨k, hk, rfl, HT, HB⟩ := hrel
   by_cases hlt : k < n
   ·have hka : k < a.length := by rw [HNA.out]; exact hlt
    have hkb : k < b.length := by rw [HNB.out]; exact hlt
    obtain ⟨ga, oa, rfl, hga, ca⟩ := HRA.out.at_ btC_length (by omega) hka
    replace ca := ca 0 _ rfl
    rw [Nat.add_zero, Nat.mul_one] at ca
    have ca1 := (HB.out.cell (p := ⟨ga, oa + k, none⟩) hga).trans ca
    have hla : ga < wr.heap.size := Nat.lt_of_lt_of_le hga HB.out.size
    obtain ⟨gb, ob, rfl, hgb, cb⟩ := HRB.out.at_ btC_length (by omega) hkb
    replace cb := cb 0 _ rfl
    rw [Nat.add_zero, Nat.mul_one] at cb
    have cb1 := (HB.out.cell (p := ⟨gb, ob + k, none⟩) hgb).trans cb
    have hlb : gb < wr.heap.size := Nat.lt_of_lt_of_le hgb HB.out.size
    have HTS := zz (take_eq_succ hka hkb HT.out)
    have HNE : Hid (a[k] ≠ b[k] → a ≠ b) := zz (fun h e => h (by simp only [e]))
    obtain ⟨xa, hxa⟩ : ∃ xa, a[k] = xa := ⟨_, rfl⟩
    obtain ⟨xb, hxb⟩ : ∃ xb, b[k] = xb := ⟨_, rfl⟩
    rw [hxa, hxb] at HTS HNE
    rw [hxa] at ca1
    rw [hxb] at cb1
    clear hxa hxb ca cb hka hkb
    by_cases hx : xa = xb
    ·have hq : ((xa : Int) != (xb : Int)) = false := by rw [hx]; simp
     have HT2 := zz (HTS.out hx)
     clear HTS HNE hx
     go_wp2_with fail
     refine wp_region_mild (by kernel_rfl) (by kernel_rfl) ?_
     repeat (go_big_quiet_step (fail))
     refine wpQuiet_nil ?_
     intro w4 hw'
     obtain ⟨⟨wq, k4⟩, hw''⟩ := hw'
     subst hw''
     have HB4 := zz (bTrans HB.out k4)
     clear k4
     go_wp2
     go_roundw
     case rel => exact ⟨k + 1, by omega, by go_num, HT2, HB4⟩
     case measure => simp [intOf]; omega
    ·have hq : ((xa : Int) != (xb : Int)) = true := by simp; omega
     have HNN : Hid (decide (a = b) = false) := zz (decide_eq_false (HNE.out hx))
     clear HTS HNE hx
     go_wp2_with fail
     refine wp_region_mild (by kernel_rfl) (by kernel_rfl) ?_
     repeat (go_big_quiet_step (fail))
     refine wpQuiet_nil ?_
     intro w4 hw'
     obtain ⟨⟨wq, k4⟩, hw''⟩ := hw'
     subst hw''
     have HB4 := zz (bTrans HB.out k4)
     clear k4
     go_wp2
     go_ret
     exact ⟨by rw [HNN.out]; rfl, HB4.out⟩
   ·have HE : Hid (decide (a = b) = true) := zz (decide_eq_true (by
     have := HT.out
     rwa [List.take_of_length_le (by rw [HNA.out]; omega), List.take_of_length_le (by rw [HNB.out]; omega)] at this))
    go_wp2
    go_ret
    exact ⟨by rw [HE.out]; rfl, HB.out⟩
 ·have HNN : Hid (decide (a = b) = false) := zz (decide_eq_false (fun e => hn (by rw [e])))
  have hq : ((a.length : Int) != (b.length : Int)) = true := by simp; omega
  clear ra rb
  go_enter Tryz.func97, Tryz.ntmps97
  go_wp2
  go_ret
  exact ⟨by rw [HNN.out]; rfl, Below.refl _ _⟩
theorem same28_yes (s d x y m : Int) (A B A' B' : Option Addr) (c c' k k' : Nat) (a b : List Nat) (w : World) (ha : a.length ≤ 20000) (hb : b.length ≤ 20000) (ra : Rd w w.heap.size A (a.flatMap btC)) (rb : Rd w w.heap.size B (b.flatMap btC)) (ra' : Rd w w.heap.size A' (a.flatMap btC)) (rb' : Rd w w.heap.size B' (b.flatMap btC)) :
  Calls Tryz.prog 42 #[.agg #[.int .u32 s, .int .i64 d, .int .i64 x, .int .i64 y, .slice A a.length c, .slice B b.length c', .int .u32 m], .agg #[.int .u32 s, .int .i64 d, .int .i64 x, .int .i64 y, .slice A' a.length k, .slice B' b.length k', .int .u32 m]] w fun e w' => e = .returned (.bool true) ∧ Below w.heap.size w w' := by
 have HA := zz (fun (V : World) (hV : Below w.heap.size w V) => same06_any A A' c k a a V ha ((ra.below hV (zL _)).more hV.size) ((ra'.below hV (zL _)).more hV.size))
 have HB := zz (fun (V : World) (hV : Below w.heap.size w V) => same06_any B B' c' k' b b V hb ((rb.below hV (zL _)).more hV.size) ((rb'.below hV (zL _)).more hV.size))
 rw [decide_eq_true rfl] at HA
 rw [decide_eq_true rfl] at HB
 obtain ⟨na, hna⟩ : ∃ na, a.length = na := ⟨_, rfl⟩
 obtain ⟨nb, hnb⟩ : ∃ nb, b.length = nb := ⟨_, rfl⟩
 rw [hna] at HA ⊢
 rw [hnb] at HB ⊢
 clear ra rb ra' rb' hna hnb ha hb
 go_enter Tryz.func42, Tryz.ntmps42
 go_upto_region 1 with fail
 refine named2 (F := fun W => Code.wp _ _ _ _ W) ?_
 intro w1 k0 k1 hb1 hz1
 have q7 := k0; have r0a := q7.cell 0; have r0b := q7.cell 1; have r0c := q7.cell 2; have r0d := q7.cell 3; have r0e := q7.cell 4; have r0f := q7.cell 5; have r0g := q7.cell 6; have r0l := q7.lt; simp only [zA, zB, zC] at r0a r0b r0c r0d r0e r0f r0g; clear q7
 have q7 := k1; have r1a := q7.cell 0; have r1b := q7.cell 1; have r1c := q7.cell 2; have r1d := q7.cell 3; have r1e := q7.cell 4; have r1f := q7.cell 5; have r1g := q7.cell 6; have r1l := q7.lt; simp only [zA, zB, zC] at r1a r1b r1c r1d r1e r1f r1g; clear q7
 have K0 := zz k0
 have K1 := zz k1
 have HB1 := zz hb1
 clear k0 k1 hb1 hz1
 go_wp2_with (first
  | (go_at_call 97; first
   | (refine (HB.out _ HB2.out).mono ?_; rintro e w3 ⟨rfl, hb3⟩; have HB3 := zz (bTrans HB2.out hb3); have q7 := (K0.out.on (bTrans hb2x hb3)); have u0a := q7.cell 0; have u0b := q7.cell 1; have u0c := q7.cell 2; have u0d := q7.cell 3; have u0e := q7.cell 4; have u0f := q7.cell 5; have u0g := q7.cell 6; have u0l := q7.lt; simp only [zA, zB, zC] at u0a u0b u0c u0d u0e u0f u0g; clear q7; have q7 := (K1.out.on (bTrans hb2x hb3)); have u1a := q7.cell 0; have u1b := q7.cell 1; have u1c := q7.cell 2; have u1d := q7.cell 3; have u1e := q7.cell 4; have u1f := q7.cell 5; have u1g := q7.cell 6; have u1l := q7.lt; simp only [zA, zB, zC] at u1a u1b u1c u1d u1e u1f u1g; clear q7; clear hb3)
   | (refine (HA.out _ HB1.out).mono ?_; rintro e w2 ⟨rfl, hb2⟩; have HB2 := zz (bTrans HB1.out hb2); have hb2x := hb2; have q7 := (K0.out.on hb2); have t0a := q7.cell 0; have t0b := q7.cell 1; have t0c := q7.cell 2; have t0d := q7.cell 3; have t0e := q7.cell 4; have t0f := q7.cell 5; have t0g := q7.cell 6; have t0l := q7.lt; simp only [zA, zB, zC] at t0a t0b t0c t0d t0e t0f t0g; clear q7; have q7 := (K1.out.on hb2); have t1a := q7.cell 0; have t1b := q7.cell 1; have t1c := q7.cell 2; have t1d := q7.cell 3; have t1e := q7.cell 4; have t1f := q7.cell 5; have t1g := q7.cell 6; have t1l := q7.lt; simp only [zA, zB, zC] at t1a t1b t1c t1d t1e t1f t1g; clear q7; clear hb2)))
 go_ret
 exact ⟨rfl, HB3.out⟩
end
end Go.Proofs.YtibeihcpehikoaaGreat
