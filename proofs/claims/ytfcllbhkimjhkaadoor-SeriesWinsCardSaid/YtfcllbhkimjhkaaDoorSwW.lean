/-
  The walks of Won, Wins, Close, Streak.
-/
import Derived.Test.YtfcllbhkimjhkaaDoorSwP
import Derived.Deep.Cut
namespace Go.Proofs.YtfcllbhkimjhkaaDoor.Ser
open Go.RowKit
set_option maxRecDepth 100000
set_option linter.unusedSimpArgs false
theorem place_bd' (n : Int) : placeZ n = 0 ∧ n = 0 ∨ placeZ n = 1 ∧ n = 1 ∨ placeZ n = 2 ∧ n ≠ 0 ∧ n ≠ 1 := by
  unfold placeZ
  split <;> omega
set_option maxHeartbeats 4000000 in
theorem won_any (A : Option Addr) (c : Nat) (l : List Rnd) (n : Nat) (who : Int) (w : World) (hl : l.length ≤ 1000) (hn : n ≤ l.length) (h0 : 0 ≤ who) (h2 : who ≤ 2) (hr : Rd w w.heap.size A (l.flatMap Rnd.cells)) :
    Calls Tryd.prog 6 #[.slice A l.length c, .int .i64 n, .int .i64 who] w fun e w' => e = .returned (.int .i64 (wonZ (l.take n) who)) ∧ w = w' := by
  have HR := Lib.hid hr
  have HS := Lib.hid (fun k hk => wonZ_snoc l k hk who)
  have HL := Lib.hid (fun k => wonZ_le (l.take k) who)
  have HLN := Lib.hid hn
  obtain ⟨m, hm⟩ : ∃ m, l.length = m := ⟨_, rfl⟩
  rw [hm] at hl hn ⊢
  have HM := Lib.hid hm
  clear hr hm
  go_enter Tryd.func6, Tryd.ntmps6
  go_wp2
  go_loopw [7, 8] (fun z v wr => ∃ k : Nat, k ≤ n ∧ v = .int .i64 k ∧ ∃ q : Nat, z = .int .i64 q ∧ q ≤ k ∧ Hid (q = wonZ (l.take k) who) ∧ wr = w) (fun _ v _ => n - (intOf v).toNat)
  case atStart => exact ⟨0, Nat.zero_le _, rfl, 0, rfl, Nat.le_refl _, Lib.hid (by simp [wonZ]), rfl⟩
  case round =>
    obtain ⟨k, hk, rfl, q, rfl, hqk, HQ, rfl⟩ := hrel
    by_cases hlt : k < n
    · have hkL : k < l.length := by rw [HM.out]; omega
      have hkm : k < m := by omega
      obtain ⟨b, off, rfl, hB, x0, x1, x2, x3⟩ := Rd.rnd HR.out hkL
      have hst := HS.out k hkL
      rw [← HQ.out] at hst
      obtain ⟨y, hy⟩ : ∃ y, (l[k]).win = y := ⟨_, rfl⟩
      rw [hy] at x3 hst
      have hp := place_bd' y
      obtain ⟨p, hpp⟩ : ∃ p, placeZ y = p := ⟨_, rfl⟩
      rw [hpp] at hst hp
      have HST := Lib.hid hst
      clear hst hy hpp x0 x1 x2
      rcases hp with ⟨rfl, rfl⟩ | ⟨rfl, rfl⟩ | ⟨rfl, hy0, hy1⟩
      · by_cases hw : who = 0
        · subst hw
          rw [if_pos rfl] at HST
          go_wp2
          go_roundw
          case rel => exact ⟨k + 1, by omega, by go_num, q + 1, by go_num, by omega, Lib.hid HST.out.symm, trivial⟩
          case measure => simp [intOf]; omega
        · rw [if_neg (fun e => hw e.symm), Nat.add_zero] at HST
          have hq : ((0 : Int) == who) = false := by simp; omega
          go_wp2
          go_roundw
          case rel => exact ⟨k + 1, by omega, by go_num, q, rfl, by omega, Lib.hid HST.out.symm, trivial⟩
          case measure => simp [intOf]; omega
      · by_cases hw : who = 1
        · subst hw
          rw [if_pos rfl] at HST
          go_wp2
          go_roundw
          case rel => exact ⟨k + 1, by omega, by go_num, q + 1, by go_num, by omega, Lib.hid HST.out.symm, trivial⟩
          case measure => simp [intOf]; omega
        · rw [if_neg (fun e => hw e.symm), Nat.add_zero] at HST
          have hq : ((1 : Int) == who) = false := by simp; omega
          go_wp2
          go_roundw
          case rel => exact ⟨k + 1, by omega, by go_num, q, rfl, by omega, Lib.hid HST.out.symm, trivial⟩
          case measure => simp [intOf]; omega
      · have k0 : (y != 0) = true := by simpa using hy0
        have k1 : (y != 1) = true := by simpa using hy1
        clear hy0 hy1
        by_cases hw : who = 2
        · subst hw
          rw [if_pos rfl] at HST
          go_wp2
          go_roundw
          case rel => exact ⟨k + 1, by omega, by go_num, q + 1, by go_num, by omega, Lib.hid HST.out.symm, trivial⟩
          case measure => simp [intOf]; omega
        · rw [if_neg (fun e => hw e.symm), Nat.add_zero] at HST
          have hq : ((2 : Int) == who) = false := by simp; omega
          go_wp2
          go_roundw
          case rel => exact ⟨k + 1, by omega, by go_num, q, rfl, by omega, Lib.hid HST.out.symm, trivial⟩
          case measure => simp [intOf]; omega
    · obtain rfl : k = n := by omega
      go_wp2
      go_ret
      exact ⟨ret_int (by rw [HQ.out]), rfl⟩
set_option maxHeartbeats 4000000 in
theorem wins_any (A : Option Addr) (c : Nat) (l : List Rnd) (w : World) (hl : l.length ≤ 1000) (hr : Rd w w.heap.size A (l.flatMap Rnd.cells)) :
    Calls Tryd.prog 5 #[.slice A l.length c] w fun e w' => e = .returned (.agg #[.int .i64 (wonZ l 0), .int .i64 (wonZ l 1), .int .i64 (wonZ l 2)]) ∧ Below w.heap.size w w' := by
  have HR := Lib.hid hr
  have HS := Lib.hid (fun k hk => wonZ_snoc l k hk)
  have HP := Lib.hid (fun n V => place_any n V)
  obtain ⟨m, hm⟩ : ∃ m, l.length = m := ⟨_, rfl⟩
  rw [hm] at hl ⊢
  have HM := Lib.hid hm
  have hb0 : Below w.heap.size w ((w.alloc (.cells #[.int .i64 0, .int .i64 0, .int .i64 0] 30)).alloc (.cells #[.int .i64 0, .int .i64 0, .int .i64 0] 30)) := bAlloc (bAlloc (Below.refl _ _) _) _
  clear hr hm
  go_enter Tryd.func5, Tryd.ntmps5
  go_upto_region 2 with fail
  obtain ⟨W, hW⟩ : ∃ W, W = (w.alloc (.cells #[.int .i64 0, .int .i64 0, .int .i64 0] 30)).alloc (.cells #[.int .i64 0, .int .i64 0, .int .i64 0] 30) := ⟨_, rfl⟩
  rw [← hW] at hb0 ⊢
  have HZ : Hid (Blk W w.heap.size 30 #[.int .i64 0, .int .i64 0, .int .i64 0]) := Lib.hid (by rw [hW]; exact (Blk.new _ _ _).alloc _)
  have HC : Hid (Blk W (w.heap.size + 1) 30 #[.int .i64 0, .int .i64 0, .int .i64 0]) := Lib.hid (by rw [hW]; have := Blk.new (w.alloc (.cells #[.int .i64 0, .int .i64 0, .int .i64 0] 30)) 30 #[.int .i64 0, .int .i64 0, .int .i64 0]; simpa using this)
  clear hW
  go_wp2_with fail
  go_loopw [8] (fun v wr => ∃ k : Nat, k ≤ m ∧ v = .int .i64 k ∧ ∃ a b d : Nat, a ≤ k ∧ b ≤ k ∧ d ≤ k ∧ Hid (a = wonZ (l.take k) 0 ∧ b = wonZ (l.take k) 1 ∧ d = wonZ (l.take k) 2) ∧ Hid (Blk wr w.heap.size 30 #[.int .i64 0, .int .i64 0, .int .i64 0]) ∧ Hid (Blk wr (w.heap.size + 1) 30 #[.int .i64 a, .int .i64 b, .int .i64 d]) ∧ Below w.heap.size w wr) (fun v _ => m - (intOf v).toNat)
  case atStart => exact ⟨0, Nat.zero_le _, rfl, 0, 0, 0, Nat.le_refl _, Nat.le_refl _, Nat.le_refl _, Lib.hid (by simp [wonZ]), HZ, HC, hb0⟩
  case round =>
    clear HZ HC hb0
    obtain ⟨k, hk, rfl, a, b, d, ha, hb', hd, HQ, HZ, HC, hb⟩ := hrel
    obtain ⟨c0, c1, c2⟩ : wr.cell? ⟨w.heap.size + 1, 0, none⟩ = some (.int .i64 a) ∧ wr.cell? ⟨w.heap.size + 1, 1, none⟩ = some (.int .i64 b) ∧ wr.cell? ⟨w.heap.size + 1, 2, none⟩ = some (.int .i64 d) := ⟨HC.out.cell 0, HC.out.cell 1, HC.out.cell 2⟩
    have f0 := HC.out.frozen 0
    have f1 := HC.out.frozen 1
    have f2 := HC.out.frozen 2
    have hcl := HC.out.lt
    by_cases hlt : k < m
    · have hkL : k < l.length := by rw [HM.out]; exact hlt
      obtain ⟨b0, off, rfl, hB, x0, x1, x2, x3⟩ := Rd.rnd (HR.out.below hb (Nat.le_refl _)) hkL
      have hblw := Nat.lt_of_lt_of_le hB hb.size
      have hst := HS.out k hkL
      obtain ⟨x, hx⟩ : ∃ x, l[k] = x := ⟨_, rfl⟩
      rw [hx] at x0 x1 x2 x3
      simp only [hx] at hst
      have hp := place_bd' x.win
      have HPX := Lib.hid (HP.out x.win)
      obtain ⟨p, hpp⟩ : ∃ p, placeZ x.win = p := ⟨_, rfl⟩
      rw [hpp] at hp HPX
      simp only [hpp] at hst
      have HST := Lib.hid hst
      clear hst hx hpp
      rcases hp with ⟨rfl, -⟩ | ⟨rfl, -⟩ | ⟨rfl, -⟩
      · go_wp2_with (first | (go_at_call 13; refine (HPX.out _).mono ?_; rintro e w4 ⟨rfl, rfl⟩))
        go_roundw
        case rel => exact ⟨k + 1, by omega, by go_num, a + 1, b, d, by omega, by omega, by omega, Lib.hid ⟨by rw [HST.out, HQ.out.1]; rfl, by rw [HST.out, HQ.out.2.1]; rfl, by rw [HST.out, HQ.out.2.2]; rfl⟩, Lib.hid ((HZ.out.farG (by omega) _ _).alloc _), Lib.hid ((HC.out.set 0 _).alloc _), bAlloc (bSetG hb (by omega) _ _) _⟩
        case measure => simp [intOf]; omega
      · go_wp2_with (first | (go_at_call 13; refine (HPX.out _).mono ?_; rintro e w4 ⟨rfl, rfl⟩))
        go_roundw
        case rel => exact ⟨k + 1, by omega, by go_num, a, b + 1, d, by omega, by omega, by omega, Lib.hid ⟨by rw [HST.out, HQ.out.1]; rfl, by rw [HST.out, HQ.out.2.1]; rfl, by rw [HST.out, HQ.out.2.2]; rfl⟩, Lib.hid ((HZ.out.farG (by omega) _ _).alloc _), Lib.hid ((HC.out.set 1 _).alloc _), bAlloc (bSetG hb (by omega) _ _) _⟩
        case measure => simp [intOf]; omega
      · go_wp2_with (first | (go_at_call 13; refine (HPX.out _).mono ?_; rintro e w4 ⟨rfl, rfl⟩))
        go_roundw
        case rel => exact ⟨k + 1, by omega, by go_num, a, b, d + 1, by omega, by omega, by omega, Lib.hid ⟨by rw [HST.out, HQ.out.1]; rfl, by rw [HST.out, HQ.out.2.1]; rfl, by rw [HST.out, HQ.out.2.2]; rfl⟩, Lib.hid ((HZ.out.farG (by omega) _ _).alloc _), Lib.hid ((HC.out.set 2 _).alloc _), bAlloc (bSetG hb (by omega) _ _) _⟩
        case measure => simp [intOf]; omega
    · obtain rfl : k = m := by omega
      have hq := HQ.out
      rw [List.take_of_length_le (by rw [HM.out]; exact Nat.le_refl _)] at hq
      have HQ2 := Lib.hid hq
      obtain ⟨z0, z1, z2⟩ : wr.cell? ⟨w.heap.size, 0, none⟩ = some (.int .i64 0) ∧ wr.cell? ⟨w.heap.size, 1, none⟩ = some (.int .i64 0) ∧ wr.cell? ⟨w.heap.size, 2, none⟩ = some (.int .i64 0) := ⟨HZ.out.cell 0, HZ.out.cell 1, HZ.out.cell 2⟩
      have g0 := HZ.out.frozen 0
      have g1 := HZ.out.frozen 1
      have g2 := HZ.out.frozen 2
      have hzl := HZ.out.lt
      have hfin : Blk (((wr.setCell ⟨w.heap.size, 0, none⟩ (.int .i64 a)).setCell ⟨w.heap.size, 1, none⟩ (.int .i64 b)).setCell ⟨w.heap.size, 2, none⟩ (.int .i64 d)) w.heap.size 30 #[.int .i64 a, .int .i64 b, .int .i64 d] := ((HZ.out.set 0 _).set 1 _).set 2 _
      have HFIN := Lib.hid hfin
      clear hfin hq
      go_wp2
      have y0 := HFIN.out.cell 0
      have y1 := HFIN.out.cell 1
      have y2 := HFIN.out.cell 2
      simp only [List.getElem?_toArray, List.getElem?_cons_zero, List.getElem?_cons_succ] at y0 y1 y2
      refine bodyPost_ret (v := .agg #[.int .i64 a, .int .i64 b, .int .i64 d]) ?_ rfl ⟨by rw [HQ2.out.1, HQ2.out.2.1, HQ2.out.2.2], bSetG (bSetG (bSetG hb (Nat.le_refl _) _ _) (Nat.le_refl _) _ _) (Nat.le_refl _) _ _⟩
      simp [results, Tryd.results5, go_sem, y0, y1, y2]
set_option maxHeartbeats 4000000 in
theorem close_any (A : Option Addr) (c : Nat) (l : List Rnd) (w : World) (hl : l.length ≤ 1000) (hr : Rd w w.heap.size A (l.flatMap Rnd.cells)) (hb : ∀ r ∈ l, (-1099511627776 ≤ r.a ∧ r.a ≤ 1099511627776) ∧ (-1099511627776 ≤ r.b ∧ r.b ≤ 1099511627776)) :
    Calls Tryd.prog 7 #[.slice A l.length c] w fun e w' => e = .returned (.int .i64 (closeN l)) ∧ Below w.heap.size w w' := by
  have HR := Lib.hid hr
  have HS := Lib.hid (fun k hk => closeN_snoc l k hk)
  have HBD := Lib.hid hb
  obtain ⟨m, hm⟩ : ∃ m, l.length = m := ⟨_, rfl⟩
  rw [hm] at hl ⊢
  have HM := Lib.hid hm
  clear hr hm hb
  go_enter Tryd.func7, Tryd.ntmps7
  go_wp2_with fail
  go_loopw [3, 9] (fun z v wr => ∃ k : Nat, k ≤ m ∧ v = .int .i64 k ∧ ∃ q : Nat, z = .int .i64 q ∧ q ≤ k ∧ Hid (q = closeN (l.take k)) ∧ Below w.heap.size w wr) (fun _ v _ => m - (intOf v).toNat)
  case atStart => exact ⟨0, Nat.zero_le _, rfl, 0, rfl, Nat.le_refl _, Lib.hid (by simp [closeN]), Below.refl _ _⟩
  case round =>
    obtain ⟨k, hk, rfl, q, rfl, hqk, HQ, hb⟩ := hrel
    by_cases hlt : k < m
    · have hkL : k < l.length := by rw [HM.out]; exact hlt
      obtain ⟨b0, off, rfl, hB, x0, x1, x2, x3⟩ := Rd.rnd (HR.out.below hb (Nat.le_refl _)) hkL
      have hblw := Nat.lt_of_lt_of_le hB hb.size
      have hst := HS.out k hkL
      have hbd := HBD.out l[k] (List.getElem_mem hkL)
      obtain ⟨x, hx⟩ : ∃ x, l[k] = x := ⟨_, rfl⟩
      rw [hx] at x0 x1 x2 x3 hst hbd
      have hcz : closeZ x = decide (-1 ≤ x.a - x.b ∧ x.a - x.b ≤ 1) := rfl
      rw [hcz, ← HQ.out] at hst
      obtain ⟨d, hd⟩ : ∃ d, x.a - x.b = d := ⟨_, rfl⟩
      rw [hd] at hst
      have HST := Lib.hid hst
      clear hst hx hcz
      by_cases h1 : -1 ≤ d
      · by_cases h2 : d ≤ 1
        · have HNX : Hid (closeN (l.take (k + 1)) = q + 1) := Lib.hid (by rw [HST.out, decide_eq_true ⟨h1, h2⟩, if_pos rfl])
          have g1 : decide (-1 ≤ d) = true := decide_eq_true h1
          have g2 : decide (d ≤ 1) = true := decide_eq_true h2
          go_wp2
          go_roundw
          case rel => exact ⟨k + 1, by omega, by go_num, q + 1, by go_num, by omega, Lib.hid HNX.out.symm, bAlloc hb _⟩
          case measure => simp [intOf]; omega
        · have HNX : Hid (closeN (l.take (k + 1)) = q) := Lib.hid (by rw [HST.out, decide_eq_false (fun h => h2 h.2), if_neg (by decide), Nat.add_zero])
          have g1 : decide (-1 ≤ d) = true := decide_eq_true h1
          have g2 : decide (d ≤ 1) = false := decide_eq_false h2
          go_wp2
          go_roundw
          case rel => exact ⟨k + 1, by omega, by go_num, q, rfl, by omega, Lib.hid HNX.out.symm, bAlloc hb _⟩
          case measure => simp [intOf]; omega
      · have HNX : Hid (closeN (l.take (k + 1)) = q) := Lib.hid (by rw [HST.out, decide_eq_false (fun h => h1 h.1), if_neg (by decide), Nat.add_zero])
        have g1 : decide (-1 ≤ d) = false := decide_eq_false h1
        go_wp2
        go_roundw
        case rel => exact ⟨k + 1, by omega, by go_num, q, rfl, by omega, Lib.hid HNX.out.symm, bAlloc hb _⟩
        case measure => simp [intOf]; omega
    · obtain rfl : k = m := by omega
      have hq := HQ.out
      rw [List.take_of_length_le (by rw [HM.out]; exact Nat.le_refl _)] at hq
      have HQ2 := Lib.hid hq
      clear hq
      go_wp2
      go_ret
      exact ⟨ret_int (by rw [HQ2.out]), hb⟩
set_option maxHeartbeats 4000000 in
theorem streak_any (A : Option Addr) (c : Nat) (l : List Rnd) (w : World) (hl : l.length ≤ 1000) (hr : Rd w w.heap.size A (l.flatMap Rnd.cells)) :
    Calls Tryd.prog 19 #[.slice A l.length c] w fun e w' => (∃ (a : Nat) (b : Int), a ≤ 1000 ∧ (-1 ≤ b ∧ b ≤ 2) ∧ e = .returned (.tuple #[.int .i64 a, .int .i64 b]) ∧ Best l (fun _ _ _ => True) a b) ∧ Below w.heap.size w w' := by
  have HR := Lib.hid hr
  have HP := Lib.hid (fun n V => place_any n V)
  have HNX := Lib.hid (fun k a run b last hk h => streak_next (l := l) (k := k) (a := a) (run := run) (b := b) (last := last) hk h)
  obtain ⟨m, hm⟩ : ∃ m, l.length = m := ⟨_, rfl⟩
  rw [hm] at hl ⊢
  have HM := Lib.hid hm
  clear hr hm
  go_enter Tryd.func19, Tryd.ntmps19
  go_wp2_with fail
  go_loopw [4, 5, 6, 7, 13] (fun va vb vr vl v wr => ∃ k : Nat, k ≤ m ∧ v = .int .i64 k ∧ ∃ (a run : Nat) (b last : Int), va = .int .i64 a ∧ vb = .int .i64 b ∧ vr = .int .i64 run ∧ vl = .int .i64 last ∧ a ≤ k ∧ run ≤ k ∧ (-1 ≤ b ∧ b ≤ 2) ∧ Hid (StreakAt l k a b run last) ∧ Below w.heap.size w wr) (fun _ _ _ _ v _ => m - (intOf v).toNat)
  case atStart => exact ⟨0, Nat.zero_le _, rfl, 0, 0, -1, -1, rfl, rfl, rfl, rfl, Nat.le_refl _, Nat.le_refl _, by omega, Lib.hid (streak_zero l), Below.refl _ _⟩
  case round =>
    obtain ⟨k, hk, rfl, a, run, b, last, rfl, rfl, rfl, rfl, hak, hrk, hbb, HQ, hb⟩ := hrel
    by_cases hlt : k < m
    · have hkL : k < l.length := by rw [HM.out]; exact hlt
      obtain ⟨b0, off, rfl, hB, x0, x1, x2, x3⟩ := Rd.rnd (HR.out.below hb (Nat.le_refl _)) hkL
      have hblw := Nat.lt_of_lt_of_le hB hb.size
      have hst := HNX.out k a run b last hkL HQ.out
      obtain ⟨x, hx⟩ : ∃ x, l[k] = x := ⟨_, rfl⟩
      rw [hx] at x0 x1 x2 x3 hst
      have hpb := placeZ_bd x.win
      have HPX := Lib.hid (HP.out x.win)
      obtain ⟨p, hpp⟩ : ∃ p, placeZ x.win = p := ⟨_, rfl⟩
      rw [hpp] at hpb HPX hst
      have HST := Lib.hid hst
      clear hst hx hpp
      by_cases hpl : p = last
      · subst hpl
        have hne : (p != p) = false := by simp
        by_cases hc : p < 2 ∧ a < run + 1
        · obtain ⟨hc1, hc2⟩ := hc
          have HN : Hid (StreakAt l (k + 1) (run + 1) p (run + 1) p) := Lib.hid (by have := HST.out; rw [if_pos rfl, if_pos ⟨hc1, hc2⟩, if_pos ⟨hc1, hc2⟩] at this; exact this)
          go_wp2_with (first | (go_at_call 13; refine (HPX.out _).mono ?_; rintro e w4 ⟨rfl, rfl⟩))
          go_roundw
          case rel => exact ⟨k + 1, by omega, by go_num, run + 1, run + 1, p, p, by go_num, rfl, by go_num, rfl, by omega, by omega, by omega, HN, bAlloc hb _⟩
          case measure => simp [intOf]; omega
        · have HN : Hid (StreakAt l (k + 1) a b (run + 1) p) := Lib.hid (by have := HST.out; rw [if_pos rfl, if_neg hc, if_neg hc] at this; exact this)
          by_cases hc1 : p < 2
          · have hc2 : ¬ a < run + 1 := fun h => hc ⟨hc1, h⟩
            clear hc
            go_wp2_with (first | (go_at_call 13; refine (HPX.out _).mono ?_; rintro e w4 ⟨rfl, rfl⟩))
            go_roundw
            case rel => exact ⟨k + 1, by omega, by go_num, a, run + 1, b, p, rfl, rfl, by go_num, rfl, by omega, by omega, by omega, HN, bAlloc hb _⟩
            case measure => simp [intOf]; omega
          · clear hc
            go_wp2_with (first | (go_at_call 13; refine (HPX.out _).mono ?_; rintro e w4 ⟨rfl, rfl⟩))
            go_roundw
            case rel => exact ⟨k + 1, by omega, by go_num, a, run + 1, b, p, rfl, rfl, by go_num, rfl, by omega, by omega, by omega, HN, bAlloc hb _⟩
            case measure => simp [intOf]; omega
      · have hne : (p != last) = true := by simpa using hpl
        rw [if_neg hpl] at HST
        clear hpl
        by_cases hc : p < 2 ∧ a < 1
        · obtain ⟨hc1, hc2⟩ := hc
          have HN : Hid (StreakAt l (k + 1) 1 p 1 p) := Lib.hid (by have := HST.out; rw [if_pos ⟨hc1, hc2⟩, if_pos ⟨hc1, hc2⟩] at this; exact this)
          go_wp2_with (first | (go_at_call 13; refine (HPX.out _).mono ?_; rintro e w4 ⟨rfl, rfl⟩))
          go_roundw
          case rel => exact ⟨k + 1, by omega, by go_num, 1, 1, p, p, rfl, rfl, rfl, rfl, by omega, by omega, by omega, HN, bAlloc hb _⟩
          case measure => simp [intOf]; omega
        · have HN : Hid (StreakAt l (k + 1) a b 1 p) := Lib.hid (by have := HST.out; rw [if_neg hc, if_neg hc] at this; exact this)
          by_cases hc1 : p < 2
          · have hc2 : ¬ a < 1 := fun h => hc ⟨hc1, h⟩
            clear hc
            go_wp2_with (first | (go_at_call 13; refine (HPX.out _).mono ?_; rintro e w4 ⟨rfl, rfl⟩))
            go_roundw
            case rel => exact ⟨k + 1, by omega, by go_num, a, 1, b, p, rfl, rfl, rfl, rfl, by omega, by omega, by omega, HN, bAlloc hb _⟩
            case measure => simp [intOf]; omega
          · clear hc
            go_wp2_with (first | (go_at_call 13; refine (HPX.out _).mono ?_; rintro e w4 ⟨rfl, rfl⟩))
            go_roundw
            case rel => exact ⟨k + 1, by omega, by go_num, a, 1, b, p, rfl, rfl, rfl, rfl, by omega, by omega, by omega, HN, bAlloc hb _⟩
            case measure => simp [intOf]; omega
    · obtain rfl : k = m := by omega
      have HBS : Hid (Best l (fun _ _ _ => True) a b) := Lib.hid (seen_same (fun w f t hR => ⟨fun _ => trivial, fun _ => by have := hR.2.2.2.1; rw [HM.out] at this; exact this⟩) HQ.out.best)
      go_wp2
      go_ret2
      exact ⟨⟨a, b, by omega, hbb, rfl, HBS.out⟩, hb⟩
end Go.Proofs.YtfcllbhkimjhkaaDoor.Ser
