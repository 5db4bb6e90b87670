/-
  Who decides a series of any best; the law's longest run.
-/
import Derived.Test.YtfcllbhkimjhkaaDoorSwW
namespace Go.Proofs.YtfcllbhkimjhkaaDoor.Ser
open Go.RowKit
set_option maxRecDepth 100000
set_option linter.unusedSimpArgs false
def badBest (best : Int) : Prop := best < 1 ∨ 99 < best ∨ best % 2 = 0
theorem decidedX_bad (A : Option Addr) (c n : Nat) (best : Int) (w : World) (hb : badBest best) :
    Calls Tryd.prog 11 #[.slice A n c, .int .i64 best] w fun e w' => e = .returned (.tuple #[.int .i64 0, .int .i64 0, .int .i64 1]) ∧ Below w.heap.size w w' := by
  by_cases h1 : best < 1
  · go_enter Tryd.func11, Tryd.ntmps11
    go_wp2
    refine bodyPost_ret (v := .tuple #[.int .i64 0, .int .i64 0, .int .i64 1]) ?_ rfl ⟨rfl, Below.refl _ _⟩
    simp [results, Tryd.results11, go_sem]
  · by_cases h2 : 99 < best
    · go_enter Tryd.func11, Tryd.ntmps11
      go_wp2
      refine bodyPost_ret (v := .tuple #[.int .i64 0, .int .i64 0, .int .i64 1]) ?_ rfl ⟨rfl, Below.refl _ _⟩
      simp [results, Tryd.results11, go_sem]
    · have h3 : best % 2 = 0 := by unfold badBest at hb; omega
      clear hb
      go_enter Tryd.func11, Tryd.ntmps11
      go_wp2
      refine bodyPost_ret (v := .tuple #[.int .i64 0, .int .i64 0, .int .i64 1]) ?_ rfl ⟨rfl, Below.refl _ _⟩
      simp [results, Tryd.results11, go_sem]
def DecR (l : List Rnd) (best z1 z2 z3 : Int) : Prop :=
  (z3 = 0 ∧ ∃ i : Nat, i < l.length ∧ z2 = i ∧ decB l best i z1 ∧ ∀ j, j < i → ∀ v, ¬ decB l best j v) ∨ (z1 = 0 ∧ z2 = 0 ∧ z3 = 6 ∧ ∀ i, i < l.length → ∀ v, ¬ decB l best i v)
set_option maxHeartbeats 8000000 in
theorem decidedX_good (A : Option Addr) (c : Nat) (l : List Rnd) (best : Int) (w : World) (hl : l.length ≤ 1000) (hr : Rd w w.heap.size A (l.flatMap Rnd.cells)) (h1 : 1 ≤ best) (h2 : best ≤ 99) (h3 : best % 2 = 1) :
    Calls Tryd.prog 11 #[.slice A l.length c, .int .i64 best] w fun e w' => (∃ z1 z2 z3, e = .returned (.tuple #[.int .i64 z1, .int .i64 z2, .int .i64 z3]) ∧ DecR l best z1 z2 z3) ∧ Below w.heap.size w w' := by
  have HR := Lib.hid hr
  have HS := Lib.hid (fun k hk => wonZ_snoc l k hk)
  have HP := Lib.hid (fun n V => place_any n V)
  have HNX := Lib.hid (fun i (hi : i < l.length) hn hp => decB_next (best := best) h1 hi hn hp)
  obtain ⟨m, hm⟩ : ∃ m, l.length = m := ⟨_, rfl⟩
  rw [hm] at hl ⊢
  have HM := Lib.hid hm
  have h4 : (best % 2 == 0) = false := by simp; omega
  have h5 : decide (best < 1) = false := decide_eq_false (by omega)
  have h6 : decide (99 < best) = false := decide_eq_false (by omega)
  clear hr hm h3
  go_enter Tryd.func11, Tryd.ntmps11
  go_upto_region 4 with fail
  obtain ⟨W, hW⟩ : ∃ W, W = w.alloc (.cells #[.int .i64 0, .int .i64 0, .int .i64 0] 30) := ⟨_, rfl⟩
  have HC : Hid (Blk W w.heap.size 30 #[.int .i64 0, .int .i64 0, .int .i64 0]) := Lib.hid (by rw [hW]; exact Blk.new _ _ _)
  have hb0 : Below w.heap.size w W := by rw [hW]; exact bAlloc (Below.refl _ _) _
  rw [← hW]
  clear hW
  go_wp2_with fail
  go_loopw [24] (fun v wr => ∃ k : Nat, k ≤ m ∧ v = .int .i64 k ∧ ∃ a b d : Nat, a ≤ k ∧ b ≤ k ∧ d ≤ k ∧ Hid (a = wonZ (l.take k) 0 ∧ b = wonZ (l.take k) 1) ∧ Hid (∀ j, j < k → ∀ v, ¬ decB l best j v) ∧ Hid (Blk wr w.heap.size 30 #[.int .i64 a, .int .i64 b, .int .i64 d]) ∧ Below w.heap.size w wr) (fun v _ => m - (intOf v).toNat)
  case atStart => exact ⟨0, Nat.zero_le _, rfl, 0, 0, 0, Nat.le_refl _, Nat.le_refl _, Nat.le_refl _, Lib.hid (by simp [wonZ]), Lib.hid (fun j hj => absurd hj (Nat.not_lt_zero j)), HC, hb0⟩
  case round =>
    clear HC hb0
    obtain ⟨k, hk, rfl, a, b, d, ha, hb', hd, HQ, HN, HC, hb⟩ := hrel
    obtain ⟨c0, c1, c2⟩ : wr.cell? ⟨w.heap.size, 0, none⟩ = some (.int .i64 a) ∧ wr.cell? ⟨w.heap.size, 1, none⟩ = some (.int .i64 b) ∧ wr.cell? ⟨w.heap.size, 2, none⟩ = some (.int .i64 d) := ⟨HC.out.cell 0, HC.out.cell 1, HC.out.cell 2⟩
    have f0 := HC.out.frozen 0
    have f1 := HC.out.frozen 1
    have f2 := HC.out.frozen 2
    have hcl := HC.out.lt
    by_cases hlt : k < m
    · have hkL : k < l.length := by rw [HM.out]; exact hlt
      obtain ⟨b0, off, rfl, hB, x0, x1, x2, x3⟩ := Rd.rnd (HR.out.below hb (Nat.le_refl _)) hkL
      have hblw := Nat.lt_of_lt_of_le hB hb.size
      have hst := HS.out k hkL
      have hnx := HNX.out k hkL HN.out
      obtain ⟨x, hx⟩ : ∃ x, l[k] = x := ⟨_, rfl⟩
      rw [hx] at x0 x1 x2 x3 hnx
      simp only [hx] at hst
      have hp := place_bd' x.win
      have HPX := Lib.hid (HP.out x.win)
      obtain ⟨p, hpp⟩ : ∃ p, placeZ x.win = p := ⟨_, rfl⟩
      rw [hpp] at hp HPX hnx
      simp only [hpp] at hst
      have HST := Lib.hid hst
      have HNXT := Lib.hid hnx
      clear hst hx hpp hnx
      rcases hp with ⟨rfl, -⟩ | ⟨rfl, -⟩ | ⟨rfl, -⟩
      · have hwn : wonZ (l.take (k + 1)) 0 = a + 1 := by rw [HST.out, HQ.out.1]; rfl
        have hdb : decB l best k 0 ↔ best < 2 * ((a : Int) + 1) := by
          unfold decB
          rw [hwn]
          omega
        by_cases hdec : best < 2 * ((a : Int) + 1)
        · have HDB := Lib.hid (hdb.2 hdec)
          have HQN := Lib.hid HN.out
          clear hdb hwn
          go_wp2_with (first | (go_at_call 13; refine (HPX.out _).mono ?_; rintro e w4 ⟨rfl, rfl⟩))
          refine bodyPost_ret (v := .tuple #[.int .i64 0, .int .i64 k, .int .i64 0]) ?_ rfl ⟨⟨0, k, 0, rfl, .inl ⟨rfl, k, hkL, rfl, HDB.out, HQN.out⟩⟩, bAlloc (bSetG hb (Nat.le_refl _) _ _) _⟩
          simp [results, Tryd.results11, go_sem]
        · have HNN : Hid (∀ j, j < k + 1 → ∀ v, ¬ decB l best j v) := Lib.hid (fun j hj v => by
            rcases Nat.lt_or_ge j k with h | h
            · exact HN.out j h v
            · obtain rfl : j = k := by omega
              exact HNXT.out (fun h => hdec (hdb.1 h)) v)
          have HW0 := Lib.hid hwn
          clear hdb hwn
          go_wp2_with (first | (go_at_call 13; refine (HPX.out _).mono ?_; rintro e w4 ⟨rfl, rfl⟩))
          go_roundw
          case rel => exact ⟨k + 1, by omega, by go_num, a + 1, b, d, by omega, by omega, by omega, Lib.hid ⟨HW0.out.symm, by rw [HST.out, HQ.out.2]; rfl⟩, HNN, Lib.hid ((HC.out.set 0 _).alloc _), bAlloc (bSetG hb (Nat.le_refl _) _ _) _⟩
          case measure => simp [intOf]; omega
      · have hwn : wonZ (l.take (k + 1)) 1 = b + 1 := by rw [HST.out, HQ.out.2]; rfl
        have hdb : decB l best k 1 ↔ best < 2 * ((b : Int) + 1) := by
          unfold decB
          rw [hwn]
          omega
        by_cases hdec : best < 2 * ((b : Int) + 1)
        · have HDB := Lib.hid (hdb.2 hdec)
          have HQN := Lib.hid HN.out
          clear hdb hwn
          go_wp2_with (first | (go_at_call 13; refine (HPX.out _).mono ?_; rintro e w4 ⟨rfl, rfl⟩))
          refine bodyPost_ret (v := .tuple #[.int .i64 1, .int .i64 k, .int .i64 0]) ?_ rfl ⟨⟨1, k, 0, rfl, .inl ⟨rfl, k, hkL, rfl, HDB.out, HQN.out⟩⟩, bAlloc (bSetG hb (Nat.le_refl _) _ _) _⟩
          simp [results, Tryd.results11, go_sem]
        · have HNN : Hid (∀ j, j < k + 1 → ∀ v, ¬ decB l best j v) := Lib.hid (fun j hj v => by
            rcases Nat.lt_or_ge j k with h | h
            · exact HN.out j h v
            · obtain rfl : j = k := by omega
              exact HNXT.out (fun h => hdec (hdb.1 h)) v)
          have HW0 := Lib.hid hwn
          clear hdb hwn
          go_wp2_with (first | (go_at_call 13; refine (HPX.out _).mono ?_; rintro e w4 ⟨rfl, rfl⟩))
          go_roundw
          case rel => exact ⟨k + 1, by omega, by go_num, a, b + 1, d, by omega, by omega, by omega, Lib.hid ⟨by rw [HST.out, HQ.out.1]; rfl, HW0.out.symm⟩, HNN, Lib.hid ((HC.out.set 1 _).alloc _), bAlloc (bSetG hb (Nat.le_refl _) _ _) _⟩
          case measure => simp [intOf]; omega
      · have HNN : Hid (∀ j, j < k + 1 → ∀ v, ¬ decB l best j v) := Lib.hid (fun j hj v => by
          rcases Nat.lt_or_ge j k with h | h
          · exact HN.out j h v
          · obtain rfl : j = k := by omega
            exact HNXT.out (fun h => by have := h.2.1; omega) v)
        go_wp2_with (first | (go_at_call 13; refine (HPX.out _).mono ?_; rintro e w4 ⟨rfl, rfl⟩))
        go_roundw
        case rel => exact ⟨k + 1, by omega, by go_num, a, b, d + 1, by omega, by omega, by omega, Lib.hid ⟨by rw [HST.out, HQ.out.1]; rfl, by rw [HST.out, HQ.out.2]; rfl⟩, HNN, Lib.hid ((HC.out.set 2 _).alloc _), bAlloc (bSetG hb (Nat.le_refl _) _ _) _⟩
        case measure => simp [intOf]; omega
    · obtain rfl : k = m := by omega
      have HDR : Hid (DecR l best 0 0 6) := Lib.hid (.inr ⟨rfl, rfl, rfl, by rw [HM.out]; exact HN.out⟩)
      go_wp2
      refine bodyPost_ret (v := .tuple #[.int .i64 0, .int .i64 0, .int .i64 6]) ?_ rfl ⟨⟨0, 0, 6, rfl, HDR.out⟩, hb⟩
      simp [results, Tryd.results11, go_sem]
set_option maxHeartbeats 8000000 in
theorem lawstreak_any (A B : Option Addr) (c d : Nat) (l : List Rnd) (w : World) (hl : l.length ≤ 1000) (hr : Rd w w.heap.size A (l.flatMap Rnd.cells)) (hr2 : Rd w w.heap.size B (l.flatMap Rnd.cells)) :
    Calls Tryd.prog 10 #[.slice A l.length c, .slice B l.length d] w fun e w' => e = .returned (.bool true) ∧ Below w.heap.size w w' := by
  have HW := Lib.hid (fun (n : Nat) who hn h0 h2 => won_any B d l n who w hl hn h0 h2 hr2)
  have HST := Lib.hid (streak_any A c l w hl hr)
  have HSN := Lib.hid (fun f t k a b hk hf ht h => seen_next (l := l) (f := f) (t := t) (w := k) (a := a) (b := b) hk hf ht h)
  have H2 : Hid (∀ f a b, Best l (seen3 f 0 0) a b → Best l (seen3 f (f + 1) 0) a b) := Lib.hid (fun f a b h => seen_same (fun w' f' t' hR => by have := hR.1; have := hR.2.2.1; unfold seen3; omega) h)
  have H3 : Hid (∀ f t a b, Best l (seen3 f t 2) a b → Best l (seen3 f (t + 1) 0) a b) := Lib.hid (fun f t a b h => seen_same (fun w' f' t' hR => by have := hR.1; have := hR.2.1; unfold seen3; omega) h)
  have H4 : Hid (∀ f a b, Best l (seen3 f (l.length + 1) 0) a b → Best l (seen3 (f + 1) 0 0) a b) := Lib.hid (fun f a b h => seen_same (fun w' f' t' hR => by have := hR.1; have := hR.2.2.2.1; unfold seen3; omega) h)
  have H5 : Hid (∀ a b, Best l (seen3 l.length 0 0) a b → Best l (fun _ _ _ => True) a b) := Lib.hid (fun a b h => seen_same (fun w' f' t' hR => by have := hR.1; have := hR.2.2.1; have := hR.2.2.2.1; unfold seen3; simp only [iff_true]; omega) h)
  have H0 : Hid (Best l (seen3 0 0 0) 0 (-1)) := Lib.hid ⟨fun w' f' t' hs hR => by have := hR.1; unfold seen3 at hs; omega, .inl ⟨rfl, rfl⟩⟩
  obtain ⟨m, hm⟩ : ∃ m, l.length = m := ⟨_, rfl⟩
  rw [hm] at HW HST HSN H4 H5 hl ⊢
  have HWL := Lib.hid (fun k who => wonZ_le (l.take k) who)
  clear hr hr2 hm
  go_enter Tryd.func10, Tryd.ntmps10
  go_wp2_with fail
  go_loopw [5, 6, 7] (fun va vb v wr => ∃ f : Nat, f ≤ m ∧ v = .int .i64 f ∧ ∃ (a : Nat) (b : Int), va = .int .i64 a ∧ vb = .int .i64 b ∧ a ≤ m ∧ Hid (Best l (seen3 f 0 0) a b) ∧ wr = w) (fun _ _ v _ => m - (intOf v).toNat)
  case atStart => exact ⟨0, Nat.zero_le _, rfl, 0, -1, rfl, rfl, Nat.zero_le _, H0, rfl⟩
  case round =>
    obtain ⟨f, hf, rfl, a, b, rfl, rfl, ham, HQ, hwr⟩ := hrel
    have hwr' := hwr.symm
    subst hwr'
    by_cases hlt : f < m
    · go_wp2_with fail
      go_loopw [5, 6, 8] (fun va vb v wr => ∃ t : Nat, f < t ∧ t ≤ m + 1 ∧ v = .int .i64 t ∧ ∃ (a : Nat) (b : Int), va = .int .i64 a ∧ vb = .int .i64 b ∧ a ≤ m ∧ Hid (Best l (seen3 f t 0) a b) ∧ wr = w) (fun _ _ v _ => m + 1 - (intOf v).toNat)
      case atStart => exact ⟨f + 1, by omega, by omega, by go_num, a, b, rfl, rfl, ham, Lib.hid (H2.out f a b HQ.out), rfl⟩
      case round =>
        clear HQ ham
        obtain ⟨t, hft, htm, rfl, a, b, rfl, rfl, ham, HQ, hwr⟩ := hrel
        have hwr' := hwr.symm
        subst hwr'
        by_cases hlt2 : t ≤ m
        · go_wp2_with fail
          go_loopw [5, 6, 9] (fun va vb v wr => ∃ k : Nat, k ≤ 2 ∧ v = .int .i64 k ∧ ∃ (a : Nat) (b : Int), va = .int .i64 a ∧ vb = .int .i64 b ∧ a ≤ m ∧ Hid (Best l (seen3 f t k) a b) ∧ wr = w) (fun _ _ v _ => 2 - (intOf v).toNat)
          case atStart => exact ⟨0, Nat.zero_le _, rfl, a, b, rfl, rfl, ham, HQ, rfl⟩
          case round =>
            clear HQ ham
            obtain ⟨k, hk, rfl, a, b, rfl, rfl, ham, HQ, hwr⟩ := hrel
            have hwr' := hwr.symm
            subst hwr'
            by_cases hk2 : k < 2
            · have HW1 := Lib.hid (HW.out t k hlt2 (by omega) (by omega))
              have HW2 := Lib.hid (HW.out f k (by omega) (by omega) (by omega))
              have hs := HSN.out f t k a b hk2 hft (by omega) HQ.out
              have hl1 := HWL.out t k
              have hl2 := HWL.out f k
              rw [List.length_take] at hl1 hl2
              obtain ⟨p, hp⟩ : ∃ p, wonZ (l.take t) k = p := ⟨_, rfl⟩
              obtain ⟨q, hq⟩ : ∃ q, wonZ (l.take f) k = q := ⟨_, rfl⟩
              rw [hp] at HW1 hs hl1
              rw [hq] at HW2 hs hl2
              have hp1 : p ≤ 1000 := by omega
              have hq1 : q ≤ 1000 := by omega
              have HSS := Lib.hid hs
              clear hs hp hq hl1 hl2
              by_cases hc1 : (p : Int) - q = t - f
              · have g1 : ((p : Int) - q == (t : Int) - f) = true := by rw [hc1]; simp
                by_cases hc2 : a < t - f
                · have g2 : decide ((a : Int) < (t : Int) - f) = true := decide_eq_true (by omega)
                  have HN : Hid (Best l (seen3 f t (k + 1)) (t - f) k) := Lib.hid (by have := HSS.out; rw [if_pos ⟨hc1, hc2⟩, if_pos ⟨hc1, hc2⟩] at this; exact this)
                  go_wp2_with (first | (go_at_call 6; (with_reducible refine (HW1.out).mono ?_); rintro e w4 ⟨rfl, rfl⟩) | (go_at_call 6; (with_reducible refine (HW2.out).mono ?_); rintro e w4 ⟨rfl, rfl⟩))
                  go_roundw
                  case rel => exact ⟨k + 1, by omega, by go_num, t - f, k, by congr 1; omega, rfl, by omega, HN, trivial⟩
                  case measure => simp [intOf]; omega
                · have g2 : decide ((a : Int) < (t : Int) - f) = false := decide_eq_false (by omega)
                  have HN : Hid (Best l (seen3 f t (k + 1)) a b) := Lib.hid (by have := HSS.out; rw [if_neg (fun h => hc2 h.2), if_neg (fun h => hc2 h.2)] at this; exact this)
                  go_wp2_with (first | (go_at_call 6; (with_reducible refine (HW1.out).mono ?_); rintro e w4 ⟨rfl, rfl⟩) | (go_at_call 6; (with_reducible refine (HW2.out).mono ?_); rintro e w4 ⟨rfl, rfl⟩))
                  go_roundw
                  case rel => exact ⟨k + 1, by omega, by go_num, a, b, rfl, rfl, ham, HN, trivial⟩
                  case measure => simp [intOf]; omega
              · have g1 : ((p : Int) - q == (t : Int) - f) = false := by simpa using hc1
                have HN : Hid (Best l (seen3 f t (k + 1)) a b) := Lib.hid (by have := HSS.out; rw [if_neg (fun h => hc1 h.1), if_neg (fun h => hc1 h.1)] at this; exact this)
                go_wp2_with (first | (go_at_call 6; (with_reducible refine (HW1.out).mono ?_); rintro e w4 ⟨rfl, rfl⟩) | (go_at_call 6; (with_reducible refine (HW2.out).mono ?_); rintro e w4 ⟨rfl, rfl⟩))
                go_roundw
                case rel => exact ⟨k + 1, by omega, by go_num, a, b, rfl, rfl, ham, HN, trivial⟩
                case measure => simp [intOf]; omega
            · obtain rfl : k = 2 := by omega
              go_wp2
              go_roundw
              case rel => exact ⟨t + 1, by omega, by omega, by go_num, a, b, rfl, rfl, ham, Lib.hid (H3.out f t a b HQ.out), trivial⟩
              case measure => simp [intOf]; omega
        · obtain rfl : t = m + 1 := by omega
          go_wp2
          go_roundw
          case rel => exact ⟨f + 1, by omega, by go_num, a, b, rfl, rfl, ham, Lib.hid (H4.out f a b HQ.out), trivial⟩
          case measure => simp [intOf]; omega
    · obtain rfl : f = m := by omega
      have HF := Lib.hid (H5.out a b HQ.out)
      have HFO : Hid (∀ (a' : Nat) (b' : Int), Best l (fun _ _ _ => True) a' b' → a = a' ∧ b = b') := Lib.hid (fun a' b' h => best_one HF.out h)
      clear HQ HF
      go_upto_region 14 with (first | (go_at_call 19; refine HST.out.mono ?_; rintro e w4 ⟨⟨a', b', ha', hb', rfl, hbest⟩, hb4⟩; obtain ⟨rfl, rfl⟩ := HFO.out a' b' hbest; clear hbest))
      have g1 : (a == a) = true := by simp
      have g2 : (b == b) = true := by simp
      go_wp2
      go_ret
      exact ⟨rfl, hb4⟩
end Go.Proofs.YtfcllbhkimjhkaaDoor.Ser
