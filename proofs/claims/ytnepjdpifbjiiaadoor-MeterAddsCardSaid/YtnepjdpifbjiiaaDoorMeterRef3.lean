/-
  The reference's Sent and Share.
-/
import Derived.Test.YtnepjdpifbjiiaaDoorMeterRef2
namespace Go.Proofs.YtnepjdpifbjiiaaDoor
open Go.RowKit
set_option maxRecDepth 100000

def addB (b : Int) (s : ByteArray) : Int := wrap64 (b + s.size)
def sendsOf (l : List OutP) : List ByteArray := l.flatMap OutP.sends
def bytesOf (l : List OutP) : Int := (sendsOf l).foldl addB 0
theorem sends_take (l : List OutP) (k : Nat) (h : k < l.length) : sendsOf (l.take (k + 1)) = sendsOf (l.take k) ++ l[k].sends := by
  unfold sendsOf
  rw [List.take_succ_eq_append_getElem h, List.flatMap_append]; simp
theorem sends_len (l : List OutP) (hc : ∀ o ∈ l, o.sends.length ≤ 60) : (sendsOf l).length ≤ 60 * l.length := by
  unfold sendsOf
  induction l with
  | nil => simp
  | cons o m ih =>
    rw [List.flatMap_cons, List.length_append, List.length_cons]
    have h1 := hc o (by simp)
    have h2 := ih fun x hx => hc x (by simp [hx])
    omega

set_option maxHeartbeats 1000000 in
theorem rSent_any (A : Option Addr) (c : Nat) (l : List OutP) (w : World) (hn : l.length ≤ 200) (hr : Rd w w.heap.size A (l.flatMap OutP.cells)) (hin : ∀ o ∈ l, o.In w w.heap.size) (hc : ∀ o ∈ l, o.sends.length ≤ 60) :
    Calls Tryd.prog 22 #[.slice A l.length c] w fun e w' => e = .returned (.tuple #[.int .i64 ((sendsOf l).length : Nat), .int .i64 (bytesOf l)]) ∧ w = w' := by
  have HR := Lib.hid hr
  have HIN := Lib.hid hin
  have HC := Lib.hid hc
  clear hr hin hc
  go_enter Tryd.func22, Tryd.ntmps22
  go_wp2
  go_loop [4, 5, 6] (fun n b i => ∃ k : Nat, k ≤ l.length ∧ i = .int .i64 k ∧ n = .int .i64 ((sendsOf (l.take k)).length : Nat) ∧ b = .int .i64 ((sendsOf (l.take k)).foldl addB 0)) (fun _ _ i => l.length - (intOf i).toNat)
  case atStart => exact ⟨0, Nat.zero_le _, rfl, rfl, rfl⟩
  case round =>
    obtain ⟨k, hk, rfl, rfl, rfl⟩ := hrel
    by_cases hlt : k < l.length
    · obtain ⟨b, off, rfl, hB, hc⟩ := HR.out.at_ OutP.cells_length (by decide) hlt
      have c1 := hc 1 _ rfl
      have hl := sends_len (l.take k) fun o ho => HC.out o (List.mem_of_mem_take ho)
      rw [List.length_take] at hl
      have hst := sends_take l k hlt
      have HST := Lib.hid hst
      have hok := HC.out l[k] (List.getElem_mem hlt)
      have HIK := Lib.hid (HIN.out l[k] (List.getElem_mem hlt))
      obtain ⟨O, hO⟩ : ∃ O, l[k] = O := ⟨_, rfl⟩
      rw [hO] at c1 HST hok HIK
      obtain ⟨S, hS⟩ : ∃ S, sendsOf (l.take k) = S := ⟨_, rfl⟩
      rw [hS] at hl HST ⊢
      clear hc hst hO hS
      go_wp2
      go_loop [5, 7] (fun b j => ∃ q : Nat, q ≤ O.sends.length ∧ j = .int .i64 q ∧ b = .int .i64 ((S ++ O.sends.take q).foldl addB 0)) (fun _ j => O.sends.length - (intOf j).toNat)
      case atStart => exact ⟨0, Nat.zero_le _, rfl, by simp⟩
      case round =>
        obtain ⟨q, hq, rfl, rfl⟩ := hrel
        by_cases hlq : q < O.sends.length
        · obtain ⟨b2, off2, hA2, hb2, hc2⟩ := HIK.out.2.one (k := q) (by simpa using hlq)
          simp only [List.getElem_map] at hc2
          have hft : (S ++ O.sends.take (q + 1)).foldl addB 0 = wrap64 ((S ++ O.sends.take q).foldl addB 0 + O.sends[q].size) := by
            rw [List.take_succ_eq_append_getElem hlq, ← List.append_assoc, List.foldl_append]; rfl
          have HFT := Lib.hid hft
          rw [hA2] at c1
          obtain ⟨Z, hZ⟩ : ∃ Z, (S ++ O.sends.take q).foldl addB 0 = Z := ⟨_, rfl⟩
          rw [hZ] at HFT ⊢
          clear hft hZ
          go_wp2
          go_round
          case rel => exact ⟨q + 1, by omega, by go_num, by rw [HFT.out]⟩
          case measure => simp [intOf]; omega
        · rw [List.take_of_length_le (by omega)]
          go_wp2
          go_round
          case rel => exact ⟨k + 1, by omega, by go_num, by rw [HST.out, List.length_append]; go_num, by rw [HST.out]⟩
          case measure => simp [intOf]; omega
    · rw [List.take_of_length_le (by omega)]
      go_wp2
      go_ret2
      exact ⟨rfl, rfl⟩

theorem find_none (q : Nat → Bool) (h : ∀ j, j < 64 → q j = false) : (List.range 64).find? q = none := by
  rw [List.find?_eq_none]
  intro j hj
  rw [h j (List.mem_range.1 hj)]; decide
theorem share_hit (f : Nat → Int) (p : Int) (h6 : f 6 ≠ 0) (n : Nat) (hn : n < 64) (h1 : ∀ j, j < n → psum f (j + 1) * 100 < clampP p * f 6) (h2 : clampP p * f 6 ≤ psum f (n + 1) * 100) : shareF f p = n := by
  unfold shareF
  rw [if_neg h6, find_at (fun n => decide (clampP p * f 6 ≤ psum f (n + 1) * 100)) n hn (fun j hj => decide_eq_false (by have := h1 j hj; omega)) (decide_eq_true h2)]
  rfl
theorem share_miss (f : Nat → Int) (p : Int) (h6 : f 6 ≠ 0) (h1 : ∀ j, j < 64 → psum f (j + 1) * 100 < clampP p * f 6) : shareF f p = 63 := by
  unfold shareF
  rw [if_neg h6, find_none (fun n => decide (clampP p * f 6 ≤ psum f (n + 1) * 100)) (fun j hj => decide_eq_false (by have := h1 j hj; omega))]
  rfl

set_option maxHeartbeats 2000000 in
theorem rShare_any (A : Option Addr) (c : Nat) (l : List OutP) (p : Int) (f : Nat → Int) (w : World) (hn : l.length ≤ 200) (hr : Rd w w.heap.size A (l.flatMap OutP.cells)) (hin : ∀ o ∈ l, o.In w w.heap.size) (hc : ∀ o ∈ l, o.cmds.length ≤ 60)
    (hs : Sm f 1000000) (h6 : ((cmdsOf l 1).length : Int) = f 6) (hf : ∀ j : Nat, j < 64 → cnt (lateIs j) (cmdsOf l 1) = f (10 + j)) :
    Calls Tryd.prog 28 #[.slice A l.length c, .int .i64 p] w fun e w' => e = .returned (.int .i64 (shareF f p)) ∧ Below w.heap.size w w' := by
  have HR := Lib.hid hr
  have HIN := Lib.hid hin
  have HC := Lib.hid hc
  have HF := Lib.hid hf
  have HS := Lib.hid hs
  have b6 := hs 6 (by decide)
  clear hf hs
  go_enter Tryd.func28, Tryd.ntmps28
  go_wp2_with fail
  refine (rCmds_any A c l 1 _ hn hr hin hc).mono ?_
  rintro e w1 ⟨A1, c1, rfl, -, hb1⟩
  clear hr hin hc
  obtain ⟨m, hm⟩ : ∃ m, (cmdsOf l 1).length = m := ⟨_, rfl⟩
  rw [hm] at h6 ⊢
  have HM := Lib.hid hm
  clear hm
  by_cases hz : m = 0
  · have hs0 : shareF f p = 0 := by unfold shareF; rw [if_pos (by omega)]
    have HS0 := Lib.hid hs0
    subst hz
    clear hs0 h6
    go_wp2
    go_ret
    exact ⟨ret_int HS0.out.symm, hb1⟩
  · have h60 : f 6 ≠ 0 := by omega
    have hd : ((m : Int) == 0) = false := by simp; omega
    have hcl : (p < 0 ∧ clampP p = 0) ∨ (100 < p ∧ clampP p = 100) ∨ (0 ≤ p ∧ p ≤ 100 ∧ clampP p = p) := by unfold clampP; omega
    have hcb : 0 ≤ clampP p ∧ clampP p ≤ 100 := by unfold clampP; omega
    obtain ⟨cp, hcp⟩ : ∃ cp, clampP p = cp := ⟨_, rfl⟩
    have hmul : 0 ≤ cp * f 6 ∧ cp * f 6 ≤ 100000000 := ⟨Int.mul_nonneg (by omega) b6.1, by
      have h1 := Int.mul_le_mul (show cp ≤ 100 by omega) b6.2 b6.1 (by decide : (0 : Int) ≤ 100)
      omega⟩
    have HH := Lib.hid (share_hit f p h60)
    have HMS := Lib.hid (share_miss f p h60)
    rw [hcp] at hcl HH HMS
    rw [← h6] at hmul HH HMS
    have H6 := Lib.hid h6
    clear h60 hz hcp hcb h6 b6
    rcases hcl with ⟨hp1, rfl⟩ | ⟨hp1, rfl⟩ | ⟨hp1, hp2, rfl⟩
    all_goals
      go_wp2
      go_loopw [6, 7] (fun s i wr => ∃ n : Nat, n ≤ 64 ∧ i = .int .i64 n ∧ s = .int .i64 (psum f n) ∧ Hid (∀ j, j < n → psum f (j + 1) * 100 < _ * (m : Int)) ∧ Below w.heap.size w wr) (fun _ i _ => 64 - (intOf i).toNat)
      case atStart => exact ⟨0, by decide, rfl, rfl, Lib.hid (fun j hj => absurd hj (Nat.not_lt_zero j)), hb1⟩
      case round =>
        obtain ⟨n, hn', rfl, rfl, hno, hb⟩ := hrel
        by_cases hlt : n < 64
        · have hq := psum_bd f _ HS.out n
          have hq2 := psum_bd f _ HS.out (n + 1)
          have hq3 := HS.out (10 + n) (by omega)
          have hlc := rLate_any A c l (n : Int) wr hn ((HR.out.below hb (Nat.le_refl _)).more hb.size) (fun o ho => ⟨((HIN.out o ho).1.below hb (Nat.le_refl _)).more hb.size, ((HIN.out o ho).2.below hb (Nat.le_refl _)).more hb.size⟩) HC.out
          rw [HF.out n hlt] at hlc
          have HLC := Lib.hid hlc
          have hps : psum f n + f (10 + n) = psum f (n + 1) := rfl
          clear hlc
          go_wp2_with fail
          refine HLC.out.mono ?_
          rintro e w2 ⟨rfl, hb2⟩
          go_wp2
          all_goals first
            | (go_ret
               refine ⟨ret_int ?_, bTrans hb hb2⟩
               rw [HH.out n hlt hno.out (by omega)])
            | (go_roundw
               case rel =>
                 refine ⟨n + 1, by omega, by go_num, by rw [← hps], Lib.hid (fun j hj => ?_), bTrans hb hb2⟩
                 by_cases hjn : j < n
                 · exact hno.out j hjn
                 · obtain rfl : j = n := by omega
                   omega
               case measure => simp [intOf]; omega)
        · obtain rfl : n = 64 := by omega
          go_wp2
          go_ret
          exact ⟨ret_int (by rw [HMS.out hno.out]), hb⟩
end Go.Proofs.YtnepjdpifbjiiaaDoor
