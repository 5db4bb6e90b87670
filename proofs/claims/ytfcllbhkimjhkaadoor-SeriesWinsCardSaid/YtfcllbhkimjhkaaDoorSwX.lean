/-
  The walk of SeriesWins.
-/
import Derived.Test.YtfcllbhkimjhkaaDoorSwV
namespace Go.Proofs.YtfcllbhkimjhkaaDoor.Ser
open Go.RowKit
set_option maxRecDepth 100000
set_option linter.unusedSimpArgs false
theorem wins_long (A : Option Addr) (c n : Nat) (best : Int) (w : World) (h1 : 100 < n) (h2 : n ≤ 9223372036854775807) : Calls Tryd.prog 3 #[.slice A n c, .int .i64 best] w fun e w' => e = .returned (.bool true) ∧ Below w.heap.size w w' := by
  go_enter Tryd.func3, Tryd.ntmps3
  go_wp2_with (first | (go_at_call 4; refine (awake_any _).mono ?_; rintro e w2 ⟨rfl, hb2⟩))
  go_ret
  exact ⟨rfl, hb2⟩
theorem decB_half {l : List Rnd} {best : Int} {i : Nat} {w : Nat} (hw : w < 2) : (best / 2 < (wonZ (l.take (i + 1)) w : Int)) ↔ decB l best i w := by
  unfold decB
  omega
set_option maxHeartbeats 32000000 in
theorem wins_walk (A : Option Addr) (c : Nat) (l : List Rnd) (best : Int) (w : World) (hl : l.length ≤ 100) (hr : Rd w w.heap.size A (l.flatMap Rnd.cells)) (ht : Tab w w.heap.size) (hb1 : -9223372036854775808 ≤ best) (hb2 : best ≤ 9223372036854775807) :
    Calls Tryd.prog 3 #[.slice A l.length c, .int .i64 best] w fun e w' => e = .returned (.bool true) ∧ Below w.heap.size w w' := by
  have HR := Lib.hid hr
  have HTB := Lib.hid ht
  have HTA := Lib.hid (fun k (hk : k < l.length) => List.take_succ_eq_append_getElem hk)
  have HCN := Lib.hid (fun k hk => closeN_snoc l k hk)
  have HCL := Lib.hid (fun k => closeN_le (l.take k))
  obtain ⟨m, hm⟩ : ∃ m, l.length = m := ⟨_, rfl⟩
  have HM := Lib.hid hm
  rw [hm] at hl ⊢
  clear hr ht hm
  go_enter Tryd.func3, Tryd.ntmps3
  go_upto_region 5 with (first | (go_at_call 4; refine (awake_any _).mono ?_; rintro e w2 ⟨rfl, hb2⟩; have HB2 := Lib.hid hb2; clear hb2))
  go_upto_region 6 with fail
  obtain ⟨W, hW⟩ : ∃ W, W = w2.alloc (.cells #[] 29) := ⟨_, rfl⟩
  have HO0 : Hid (OwnL W w.heap.size 29 4 (.slice (some ⟨w2.heap.size, 0, none⟩) 0 0) Rnd.cells (l.take 0)) := Lib.hid (by rw [hW]; exact OwnL.lit (f := Rnd.cells) [] #[] HB2.out.size (by simp) Rnd.cells_length rfl rfl rfl)
  have HB0 : Hid (Below w.heap.size w W) := Lib.hid (by rw [hW]; exact bAlloc HB2.out _)
  rw [← hW]
  clear hW HB2
  go_wp2_with fail
  go_loopw [5, 6, 7, 8] (fun u vb vn v wr => ∃ k : Nat, k ≤ m ∧ v = .int .i64 k ∧ ∃ (B : Option Addr) (n' d : Nat) (below : Bool) (near : Nat), u = .slice B n' d ∧ vb = .bool below ∧ vn = .int .i64 near ∧ near ≤ k ∧ Hid (OwnL wr w.heap.size 29 4 (.slice B n' d) Rnd.cells (l.take k)) ∧ Hid (below = (l.take k).any negR) ∧ Hid (near = closeN (l.take k)) ∧ Hid (∀ r ∈ l.take k, BdR r) ∧ Hid (Below w.heap.size w wr)) (fun _ _ _ v _ => m - (intOf v).toNat)
  case atStart => exact ⟨0, Nat.zero_le _, rfl, _, _, _, false, 0, rfl, rfl, rfl, Nat.le_refl _, HO0, Lib.hid rfl, Lib.hid (by simp [closeN]), Lib.hid (by simp), HB0⟩
  case round =>
    clear HO0 HB0
    obtain ⟨k, hk, rfl, B, n', d, below, near, rfl, rfl, rfl, hnk, HO, HNG, HNR, HBD, HB⟩ := hrel
    by_cases hlt : k < m
    · have hkL : k < l.length := by rw [HM.out]; exact hlt
      obtain ⟨b0, off, rfl, hB, x0, x1, x2, x3⟩ := Rd.rnd (HR.out.below HB.out (Nat.le_refl _)) hkL
      have hblw := Nat.lt_of_lt_of_le hB HB.out.size
      have hgw := HB.out.size
      have htk := HTA.out k hkL
      have hcn := HCN.out k hkL
      obtain ⟨x, hx⟩ : ∃ x, l[k] = x := ⟨_, rfl⟩
      rw [hx] at x0 x1 x2 x3 htk hcn
      have hml : (l.take k).length ≤ 100 := by rw [List.length_take]; omega
      have hns : (l.take (k + 1)).any negR = ((l.take k).any negR || negR x) := by rw [htk, List.any_append]; simp
      obtain ⟨M, hM⟩ : ∃ M, l.take k = M := ⟨_, rfl⟩
      rw [hM] at htk hml HO hns HNG HBD HNR hcn
      rw [← HNR.out] at hcn
      have HNS := Lib.hid hns
      have HTK := Lib.hid htk
      clear hx hM hns
      by_cases hok : BdR x
      · obtain ⟨k1, ⟨k2, k3⟩, ⟨k4, k5⟩⟩ := hok
        have HBDN : Hid (∀ r ∈ l.take (k + 1), BdR r) := Lib.hid (fun r hr => by
          rw [HTK.out] at hr
          rcases List.mem_append.1 hr with h | h
          · exact HBD.out r h
          · rw [List.mem_singleton] at h
            subst h
            exact ⟨k1, ⟨k2, k3⟩, ⟨k4, k5⟩⟩)
        have hcz : closeZ x = decide (-1 ≤ x.a - x.b ∧ x.a - x.b ≤ 1) := rfl
        rw [hcz] at hcn
        have hmx : max x.a x.b ≤ 1099511627776 := by omega
        have hmn : -1099511627776 ≤ min x.a x.b := by omega
        have HCN2 := Lib.hid hcn
        clear hcn hcz htk
        obtain ⟨bn, hbn⟩ : ∃ bn, (below || negR x) = bn := ⟨_, rfl⟩
        have HBN : Hid ((l.take (k + 1)).any negR = bn) := Lib.hid (by rw [HNS.out, ← HNG.out]; exact hbn)
        have hcase : (below = true ∧ bn = true) ∨ (below = false ∧ x.frame < 0 ∧ bn = true) ∨ (below = false ∧ 0 ≤ x.frame ∧ x.a < 0 ∧ bn = true) ∨ (below = false ∧ 0 ≤ x.frame ∧ 0 ≤ x.a ∧ x.b < 0 ∧ bn = true) ∨ (below = false ∧ 0 ≤ x.frame ∧ 0 ≤ x.a ∧ 0 ≤ x.b ∧ bn = false) := by
          subst hbn
          unfold negR
          cases below
          · by_cases q1 : x.frame < 0
            · simp [q1]
            · by_cases q2 : x.a < 0
              · simp [q2]; omega
              · by_cases q3 : x.b < 0
                · simp [q3]; omega
                · simp; omega
          · simp
        clear hbn
        go_upto_region 14 with fail
        clear hmx hmn
        rcases hcase with ⟨rfl, rfl⟩ | ⟨rfl, q1, rfl⟩ | ⟨rfl, q1, q2, rfl⟩ | ⟨rfl, q1, q2, q3, rfl⟩ | ⟨rfl, q1, q2, q3, rfl⟩
        all_goals
          go_upto_region 15 with fail
          have hnear : (∃ q : Nat, Hid (closeN (l.take (k + 1)) = q) ∧ q ≤ k + 1 ∧ ((q = near + 1 ∧ (x.a == x.b) = true) ∨ (q = near + 1 ∧ (x.a == x.b) = false ∧ (x.a == x.b + 1) = true) ∨ (q = near + 1 ∧ (x.a == x.b) = false ∧ (x.a == x.b + 1) = false ∧ (x.a == x.b - 1) = true) ∨ (q = near ∧ (x.a == x.b) = false ∧ (x.a == x.b + 1) = false ∧ (x.a == x.b - 1) = false))) := by
            refine ⟨_, Lib.hid rfl, ?_⟩
            rw [HCN2.out]
            by_cases hc : -1 ≤ x.a - x.b ∧ x.a - x.b ≤ 1
            · rw [decide_eq_true hc, if_pos rfl]
              simp
              omega
            · rw [decide_eq_false hc, if_neg (by decide)]
              simp
              omega
          obtain ⟨q, HCQ, hqk, hq⟩ := hnear
          rcases hq with ⟨rfl, t1⟩ | ⟨rfl, t1, t2⟩ | ⟨rfl, t1, t2, t3⟩ | ⟨rfl, t1, t2, t3⟩
          · skip
            go_wp2_with (first | (at_builtin; refine wpList_app_rnd rfl (.tmp 103) (.tmp 115) rfl w.heap.size _ M [x] ((HO.out.alloc _).alloc _) rfl _ _ 1 1 rfl rfl (rd_rnd2 wr _ x) (by simp only [List.length_cons, List.length_nil]; omega) (by simp; omega) ?_; intro A6 c6 n6 w6 ho6 hg6; have HO6 : Hid (OwnL w6 w.heap.size 29 4 (.slice A6 n6 c6) Rnd.cells (l.take (k + 1))) := Lib.hid (by rw [HTK.out]; exact ho6); have HB6 : Hid (Below w.heap.size w w6) := Lib.hid (Below.grown (bAlloc (bAlloc HB.out _) _) hg6 (by simp; omega) HO.out.base_le); clear ho6 hg6))
            go_roundw
            case rel => exact ⟨k + 1, by omega, by go_num, A6, n6, c6, _, near + 1, rfl, rfl, (by go_num), by omega, HO6, Lib.hid (by rw [HBN.out] <;> first | rfl | (simp; omega)), Lib.hid HCQ.out.symm, HBDN, HB6⟩
            case measure => simp [intOf]; omega
          · skip
            go_wp2_with (first | (at_builtin; refine wpList_app_rnd rfl (.tmp 103) (.tmp 115) rfl w.heap.size _ M [x] ((HO.out.alloc _).alloc _) rfl _ _ 1 1 rfl rfl (rd_rnd2 wr _ x) (by simp only [List.length_cons, List.length_nil]; omega) (by simp; omega) ?_; intro A6 c6 n6 w6 ho6 hg6; have HO6 : Hid (OwnL w6 w.heap.size 29 4 (.slice A6 n6 c6) Rnd.cells (l.take (k + 1))) := Lib.hid (by rw [HTK.out]; exact ho6); have HB6 : Hid (Below w.heap.size w w6) := Lib.hid (Below.grown (bAlloc (bAlloc HB.out _) _) hg6 (by simp; omega) HO.out.base_le); clear ho6 hg6))
            go_roundw
            case rel => exact ⟨k + 1, by omega, by go_num, A6, n6, c6, _, near + 1, rfl, rfl, (by go_num), by omega, HO6, Lib.hid (by rw [HBN.out] <;> first | rfl | (simp; omega)), Lib.hid HCQ.out.symm, HBDN, HB6⟩
            case measure => simp [intOf]; omega
          · skip
            go_wp2_with (first | (at_builtin; refine wpList_app_rnd rfl (.tmp 103) (.tmp 115) rfl w.heap.size _ M [x] ((HO.out.alloc _).alloc _) rfl _ _ 1 1 rfl rfl (rd_rnd2 wr _ x) (by simp only [List.length_cons, List.length_nil]; omega) (by simp; omega) ?_; intro A6 c6 n6 w6 ho6 hg6; have HO6 : Hid (OwnL w6 w.heap.size 29 4 (.slice A6 n6 c6) Rnd.cells (l.take (k + 1))) := Lib.hid (by rw [HTK.out]; exact ho6); have HB6 : Hid (Below w.heap.size w w6) := Lib.hid (Below.grown (bAlloc (bAlloc HB.out _) _) hg6 (by simp; omega) HO.out.base_le); clear ho6 hg6))
            go_roundw
            case rel => exact ⟨k + 1, by omega, by go_num, A6, n6, c6, _, near + 1, rfl, rfl, (by go_num), by omega, HO6, Lib.hid (by rw [HBN.out] <;> first | rfl | (simp; omega)), Lib.hid HCQ.out.symm, HBDN, HB6⟩
            case measure => simp [intOf]; omega
          · skip
            go_wp2_with (first | (at_builtin; refine wpList_app_rnd rfl (.tmp 103) (.tmp 115) rfl w.heap.size _ M [x] ((HO.out.alloc _).alloc _) rfl _ _ 1 1 rfl rfl (rd_rnd2 wr _ x) (by simp only [List.length_cons, List.length_nil]; omega) (by simp; omega) ?_; intro A6 c6 n6 w6 ho6 hg6; have HO6 : Hid (OwnL w6 w.heap.size 29 4 (.slice A6 n6 c6) Rnd.cells (l.take (k + 1))) := Lib.hid (by rw [HTK.out]; exact ho6); have HB6 : Hid (Below w.heap.size w w6) := Lib.hid (Below.grown (bAlloc (bAlloc HB.out _) _) hg6 (by simp; omega) HO.out.base_le); clear ho6 hg6))
            go_roundw
            case rel => exact ⟨k + 1, by omega, by go_num, A6, n6, c6, _, q, rfl, rfl, rfl, by omega, HO6, Lib.hid (by rw [HBN.out] <;> first | rfl | (simp; omega)), Lib.hid HCQ.out.symm, HBDN, HB6⟩
            case measure => simp [intOf]; omega
      · clear hcn htk
        by_cases k1 : 1099511627776 < x.frame
        · go_wp2
          go_ret
          exact ⟨rfl, bAlloc HB.out _⟩
        · by_cases k2 : 1099511627776 < (if x.b > x.a then x.b else x.a)
          · clear hok
            go_wp2
            go_ret
            exact ⟨rfl, bAlloc HB.out _⟩
          · have k3 : (if x.b < x.a then x.b else x.a) < -1099511627776 := by
              unfold BdR at hok
              split at k2 <;> split <;> omega
            clear hok
            go_wp2
            go_ret
            exact ⟨rfl, bAlloc HB.out _⟩
    · obtain rfl : m = k := by omega
      rw [List.take_of_length_le (by rw [HM.out]; exact Nat.le_refl _)] at HO HNG HNR HBD
      obtain rfl : n' = m := by rw [HO.out.len, HM.out]
      obtain ⟨V, hV⟩ : ∃ V, wr = V := ⟨_, rfl⟩
      rw [hV] at HO HB ⊢
      have HWN := Lib.hid (wins_any A c l V (by rw [HM.out]; omega) ((HR.out.below HB.out (Nat.le_refl _)).more HB.out.size))
      rw [HM.out] at HWN
      have hw0 := wonZ_le l 0
      have hw1 := wonZ_le l 1
      have hw2 := wonZ_le l 2
      rw [HM.out] at hw0 hw1 hw2
      obtain ⟨a0, ha0⟩ : ∃ a, wonZ l 0 = a := ⟨_, rfl⟩
      obtain ⟨a1, ha1⟩ : ∃ a, wonZ l 1 = a := ⟨_, rfl⟩
      obtain ⟨a2, ha2⟩ : ∃ a, wonZ l 2 = a := ⟨_, rfl⟩
      rw [ha0, ha1, ha2] at HWN
      rw [ha0] at hw0
      rw [ha1] at hw1
      rw [ha2] at hw2
      have HA0 := Lib.hid ha0
      have HA1 := Lib.hid ha1
      have HA2 := Lib.hid ha2
      clear hV ha0 ha1 ha2
      go_upto_region 19 with (first | (go_at_call 5; refine HWN.out.mono ?_; rintro e w3 ⟨rfl, hb3⟩; have HB3 := Lib.hid (bTrans HB.out hb3); have HO3 := Lib.hid (HO.out.below hb3); clear hb3))
      obtain ⟨W4, hW4⟩ : ∃ W4, W4 = w3.alloc (.cells #[.int .i64 a0, .int .i64 a1, .int .i64 a2] 30) := ⟨_, rfl⟩
      have HC4 : Hid (Blk W4 w3.heap.size 30 #[.int .i64 a0, .int .i64 a1, .int .i64 a2]) := Lib.hid (by rw [hW4]; exact Blk.new _ _ _)
      have HB4 : Hid (Below w.heap.size w W4) := Lib.hid (by rw [hW4]; exact bAlloc HB3.out _)
      have HO4 : Hid (OwnL W4 w.heap.size 29 4 (.slice B n' d) Rnd.cells l) := Lib.hid (by rw [hW4]; exact HO3.out.alloc _)
      rw [← hW4]
      have HRB : Hid (∀ U, Below W4.heap.size W4 U → Rd U U.heap.size B (l.flatMap Rnd.cells)) := Lib.hid (fun U hU => (HO4.out.below hU).rd)
      have HRA : Hid (∀ U, Below W4.heap.size W4 U → Rd U U.heap.size A (l.flatMap Rnd.cells)) := Lib.hid (fun U hU => (HR.out.below (bTrans HB4.out hU) (Nat.le_refl _)).more (bTrans HB4.out hU).size)
      have HWO : Hid (∀ (i : Nat) (who : Int) U, Below W4.heap.size W4 U → i ≤ n' → 0 ≤ who → who ≤ 2 → Calls Tryd.prog 6 #[.slice B n' d, .int .i64 i, .int .i64 who] U fun e w' => e = .returned (.int .i64 (wonZ (l.take i) who)) ∧ U = w') := Lib.hid (fun i who U hU hi h0 h2 => by
        have := won_any B d l i who U (by rw [HM.out]; omega) (by rw [HM.out]; exact hi) h0 h2 (HRB.out U hU)
        rw [HM.out] at this
        exact this)
      have HTK : Hid (l.take n' = l) := Lib.hid (List.take_of_length_le (by rw [HM.out]; exact Nat.le_refl _))
      have HW0 : Hid (∀ U, Below W4.heap.size W4 U → Calls Tryd.prog 6 #[.slice B n' d, .int .i64 n', .int .i64 0] U fun e w' => e = .returned (.int .i64 a0) ∧ U = w') := Lib.hid (fun U hU => by have := HWO.out n' 0 U hU (Nat.le_refl _) (by decide) (by decide); rw [HTK.out, HA0.out] at this; exact this)
      have HW1 : Hid (∀ U, Below W4.heap.size W4 U → Calls Tryd.prog 6 #[.slice B n' d, .int .i64 n', .int .i64 1] U fun e w' => e = .returned (.int .i64 a1) ∧ U = w') := Lib.hid (fun U hU => by have := HWO.out n' 1 U hU (Nat.le_refl _) (by decide) (by decide); rw [HTK.out, HA1.out] at this; exact this)
      have HW2 : Hid (∀ U, Below W4.heap.size W4 U → Calls Tryd.prog 6 #[.slice B n' d, .int .i64 n', .int .i64 2] U fun e w' => e = .returned (.int .i64 a2) ∧ U = w') := Lib.hid (fun U hU => by have := HWO.out n' 2 U hU (Nat.le_refl _) (by decide) (by decide); rw [HTK.out, HA2.out] at this; exact this)
      have HCLO : Hid (∀ U, Below W4.heap.size W4 U → Calls Tryd.prog 7 #[.slice A n' c] U fun e w' => e = .returned (.int .i64 near) ∧ Below U.heap.size U w') := Lib.hid (fun U hU => by
        have := close_any A c l U (by rw [HM.out]; omega) (HRA.out U hU) (fun r hr => (HBD.out r hr).2)
        rw [HM.out, ← HNR.out] at this
        exact this)
      have HSTK : Hid (∀ U, Below W4.heap.size W4 U → Calls Tryd.prog 10 #[.slice A n' c, .slice B n' d] U fun e w' => e = .returned (.bool true) ∧ Below U.heap.size U w') := Lib.hid (fun U hU => by
        have := lawstreak_any A B c d l U (by rw [HM.out]; omega) (HRA.out U hU) (HRB.out U hU)
        rw [HM.out] at this
        exact this)
      obtain ⟨S, hS⟩ : ∃ S, linesZ l = S := ⟨_, rfl⟩
      have HLI : Hid (below = false → ∀ U, Below W4.heap.size W4 U → Calls Tryd.prog 8 #[.slice A n' c] U fun e w' => e = .returned (.string ⟨S.toArray⟩) ∧ Below U.heap.size U w') := Lib.hid (fun hbf U hU => by
        have := lines_any A c l U (by rw [HM.out]; omega) (HRA.out U hU) (neg_ok HBD.out (by rw [← HNG.out]; exact hbf)) (HTB.out.below (bTrans HB4.out hU) (Nat.le_refl _) |> fun t => ⟨t.1, Nat.lt_of_lt_of_le t.2 (bTrans HB4.out hU).size⟩)
        rw [HM.out, hS] at this
        exact this)
      have HRL : Hid (below = false → ∀ U, Below W4.heap.size W4 U → Calls Tryd.prog 9 #[.slice B n' d] U fun e w' => e = .returned (.string ⟨S.toArray⟩) ∧ Below U.heap.size U w') := Lib.hid (fun hbf U hU => by
        have := rlines_any B d l U (by rw [HM.out]; omega) (HRB.out U hU) (neg_ok HBD.out (by rw [← HNG.out]; exact hbf))
        rw [HM.out, hS] at this
        exact this)
      have HDB : Hid (badBest best → ∀ U, Below W4.heap.size W4 U → Calls Tryd.prog 11 #[.slice A n' c, .int .i64 best] U fun e w' => e = .returned (.tuple #[.int .i64 0, .int .i64 0, .int .i64 1]) ∧ Below U.heap.size U w') := Lib.hid (fun hbb U _ => decidedX_bad A c n' best U hbb)
      have HDG : Hid (1 ≤ best → best ≤ 99 → best % 2 = 1 → ∀ U, Below W4.heap.size W4 U → Calls Tryd.prog 11 #[.slice A n' c, .int .i64 best] U fun e w' => (∃ z1 z2 z3, e = .returned (.tuple #[.int .i64 z1, .int .i64 z2, .int .i64 z3]) ∧ DecR l best z1 z2 z3) ∧ Below U.heap.size U w') := Lib.hid (fun h1 h2 h3 U hU => by
        have := decidedX_good A c l best U (by rw [HM.out]; omega) (HRA.out U hU) h1 h2 h3
        rw [HM.out] at this
        exact this)
      clear hW4 hS HWN HB3 HO3 HO HB HNG HNR HTA HCN HCL
      go_wp2_with fail
      go_loopw [11] (fun v wr => ∃ k : Nat, k ≤ 3 ∧ v = .int .i64 k ∧ Hid (Below W4.heap.size W4 wr)) (fun v _ => 3 - (intOf v).toNat)
      case atStart => exact ⟨0, by decide, rfl, Lib.hid (Below.refl _ _)⟩
      case round =>
        obtain ⟨i, hi, rfl, HQ⟩ := hrel
        obtain ⟨c0, c1, c2⟩ : wr.cell? ⟨w3.heap.size, 0, none⟩ = some (.int .i64 a0) ∧ wr.cell? ⟨w3.heap.size, 1, none⟩ = some (.int .i64 a1) ∧ wr.cell? ⟨w3.heap.size, 2, none⟩ = some (.int .i64 a2) := ⟨(HC4.out.on HQ.out).cell 0, (HC4.out.on HQ.out).cell 1, (HC4.out.on HQ.out).cell 2⟩
        have hcl := (HC4.out.on HQ.out).lt
        by_cases hi3 : i < 3
        · obtain rfl | rfl | rfl : i = 0 ∨ i = 1 ∨ i = 2 := by omega
          · have hne : ((a0 : Int) != a0) = false := by simp
            go_wp2_with fail
            refine wp_region_mild (by kernel_rfl) (by kernel_rfl) ?_
            repeat (go_big_quiet_step ((go_at_call 6; exact mild_same (HW0.out _ (bTrans HQ.out (Ext.below _))))))
            refine wpQuiet_nil ?_
            intro w7 hw'
            obtain ⟨⟨wq, k7⟩, hw''⟩ := hw'
            subst hw''
            go_wp2
            go_roundw
            case rel => exact ⟨0 + 1, by omega, by go_num, Lib.hid (bTrans HQ.out k7)⟩
            case measure => simp [intOf]
          · have hne : ((a1 : Int) != a1) = false := by simp
            go_wp2_with fail
            refine wp_region_mild (by kernel_rfl) (by kernel_rfl) ?_
            repeat (go_big_quiet_step ((go_at_call 6; exact mild_same (HW1.out _ (bTrans HQ.out (Ext.below _))))))
            refine wpQuiet_nil ?_
            intro w7 hw'
            obtain ⟨⟨wq, k7⟩, hw''⟩ := hw'
            subst hw''
            go_wp2
            go_roundw
            case rel => exact ⟨1 + 1, by omega, by go_num, Lib.hid (bTrans HQ.out k7)⟩
            case measure => simp [intOf]
          · have hne : ((a2 : Int) != a2) = false := by simp
            go_wp2_with fail
            refine wp_region_mild (by kernel_rfl) (by kernel_rfl) ?_
            repeat (go_big_quiet_step ((go_at_call 6; exact mild_same (HW2.out _ (bTrans HQ.out (Ext.below _))))))
            refine wpQuiet_nil ?_
            intro w7 hw'
            obtain ⟨⟨wq, k7⟩, hw''⟩ := hw'
            subst hw''
            go_wp2
            go_roundw
            case rel => exact ⟨2 + 1, by omega, by go_num, Lib.hid (bTrans HQ.out k7)⟩
            case measure => simp [intOf]
        · clear c0 c1 c2 hcl HW0 HW1 HW2
          have hnn : ((near : Int) != near) = false := by simp
          have hss : (S != S) = false := by simp
          have hss2 : (S == S) = true := by simp
          cases below
          all_goals
            go_upto_region 26 with (first
              | (go_at_call 7; refine (HCLO.out _ HQ.out).mono ?_; rintro e wx ⟨rfl, hbx⟩; have HQ := Lib.hid (bTrans HQ.out hbx); clear hbx)
              | (go_at_call 8; refine (HLI.out (by first | rfl | trivial) _ HQ.out).mono ?_; rintro e wy ⟨rfl, hbx⟩; have HQ := Lib.hid (bTrans HQ.out hbx); clear hbx)
              | (go_at_call 9; refine (HRL.out (by first | rfl | trivial) _ HQ.out).mono ?_; rintro e wz ⟨rfl, hbx⟩; have HQ := Lib.hid (bTrans HQ.out hbx); clear hbx)
              | (go_at_call 10; refine (HSTK.out _ HQ.out).mono ?_; rintro e wv ⟨rfl, hbx⟩; have HQ := Lib.hid (bTrans HQ.out hbx); clear hbx))
            by_cases hbb : badBest best
            · have HBB := Lib.hid hbb
              have hand := and1_eq best
              by_cases g1 : best < 1
              · go_wp2_with (first | (go_at_call 11; refine (HDB.out HBB.out _ HQ.out).mono ?_; rintro e wu ⟨rfl, hbx⟩; have HQ := Lib.hid (bTrans HQ.out hbx); clear hbx))
                go_ret
                exact ⟨rfl, bTrans HB4.out HQ.out⟩
              · by_cases g2 : 99 < best
                · go_wp2_with (first | (go_at_call 11; refine (HDB.out HBB.out _ HQ.out).mono ?_; rintro e wu ⟨rfl, hbx⟩; have HQ := Lib.hid (bTrans HQ.out hbx); clear hbx))
                  go_ret
                  exact ⟨rfl, bTrans HB4.out HQ.out⟩
                · have h3 : best % 2 = 0 := by unfold badBest at hbb; omega
                  rw [h3] at hand
                  clear hbb h3
                  go_wp2_with (first | (go_at_call 11; refine (HDB.out HBB.out _ HQ.out).mono ?_; rintro e wu ⟨rfl, hbx⟩; have HQ := Lib.hid (bTrans HQ.out hbx); clear hbx))
                  go_ret
                  exact ⟨rfl, bTrans HB4.out HQ.out⟩
            · have hand := and1_eq best
              have g1 : 1 ≤ best := by unfold badBest at hbb; omega
              have g2 : best ≤ 99 := by unfold badBest at hbb; omega
              have g3 : best % 2 = 1 := by unfold badBest at hbb; omega
              have HDGG := Lib.hid (HDG.out g1 g2 g3)
              rw [g3] at hand
              clear hbb g3
              go_upto_region 30 with (first | (go_at_call 11; refine (HDGG.out _ HQ.out).mono ?_; rintro e wu ⟨⟨z1, z2, z3, rfl, hdec⟩, hbx⟩; have HQ := Lib.hid (bTrans HQ.out hbx); have HDEC := Lib.hid hdec; clear hbx hdec))
              have HDL : Hid (DecR l best z1 z2 z3) := HDEC
              have HM1 := Lib.hid (show (1 : Int) ≤ best from g1)
              clear hand
              go_wp2_with fail
              go_loopw [15] (fun v wr => ∃ i : Nat, i ≤ n' ∧ v = .int .i64 i ∧ Hid (∀ j, j < i → ∀ v, ¬ decB l best j v) ∧ Hid (Below W4.heap.size W4 wr)) (fun v _ => n' - (intOf v).toNat)
              case atStart => exact ⟨0, Nat.zero_le _, rfl, Lib.hid (fun j hj => absurd hj (Nat.not_lt_zero j)), HQ⟩
              case round =>
                clear HQ
                obtain ⟨i, hi, rfl, HN, HQ⟩ := hrel
                by_cases hlt : i < n'
                · have hiL : i < l.length := by rw [HM.out]; exact hlt
                  have HFND : Hid (∀ u, decB l best i u → z1 = u ∧ z2 = i ∧ z3 = 0) := Lib.hid (fun u hu => by
                    rcases HDL.out with ⟨e3, i0, hi0, e2, hd0, hn0⟩ | ⟨-, -, -, hno⟩
                    · have e : i0 = i := by
                        rcases Nat.lt_trichotomy i0 i with h | h | h
                        · exact absurd hd0 (HN.out i0 h z1)
                        · exact h
                        · exact absurd hu (hn0 i h u)
                      subst e
                      exact ⟨decB_one HM1.out hiL HN.out hd0 hu, e2, e3⟩
                    · exact absurd hu (hno i hiL u))
                  go_wp2_with fail
                  go_loopw [16] (fun v wr => ∃ k : Nat, k ≤ 2 ∧ v = .int .i64 k ∧ Hid (∀ u : Nat, u < k → ¬ decB l best i u) ∧ Hid (Below W4.heap.size W4 wr)) (fun v _ => 2 - (intOf v).toNat)
                  case atStart => exact ⟨0, Nat.zero_le _, rfl, Lib.hid (fun j hj => absurd hj (Nat.not_lt_zero j)), HQ⟩
                  case round =>
                    clear HQ
                    obtain ⟨k, hk, rfl, HNK, HQ⟩ := hrel
                    by_cases hk2 : k < 2
                    · have HWK := Lib.hid (HWO.out (i + 1) k wr HQ.out (by omega) (by omega) (by omega))
                      have hh := decB_half (l := l) (best := best) (i := i) hk2
                      have hwl := wonZ_le (l.take (i + 1)) k
                      rw [List.length_take] at hwl
                      obtain ⟨q, hq⟩ : ∃ q, wonZ (l.take (i + 1)) k = q := ⟨_, rfl⟩
                      rw [hq] at HWK hh hwl
                      have hq1 : q ≤ 1000 := by omega
                      have HHH := Lib.hid hh
                      clear hh hwl hq
                      by_cases hgt : best / 2 < (q : Int)
                      · obtain ⟨rfl, rfl, rfl⟩ := HFND.out k (HHH.out.1 hgt)
                        have e1 : ((k : Int) == k) = true := by simp
                        have e2 : ((i : Int) == i) = true := by simp
                        go_wp2_with (first | (go_at_call 6; refine (HWK.out).mono ?_; rintro e w4 ⟨rfl, rfl⟩))
                        go_ret
                        exact ⟨rfl, bTrans HB4.out HQ.out⟩
                      · have HNN : Hid (∀ u : Nat, u < k + 1 → ¬ decB l best i u) := Lib.hid (fun u hu hd => by
                          rcases Nat.lt_or_ge u k with h | h
                          · exact HNK.out u h hd
                          · obtain rfl : u = k := by omega
                            exact hgt (HHH.out.2 hd))
                        go_wp2_with (first | (go_at_call 6; refine (HWK.out).mono ?_; rintro e w4 ⟨rfl, rfl⟩))
                        go_roundw
                        case rel => exact ⟨k + 1, by omega, by go_num, HNN, HQ⟩
                        case measure => simp [intOf]; omega
                    · obtain rfl : k = 2 := by omega
                      have HNN : Hid (∀ j, j < i + 1 → ∀ v, ¬ decB l best j v) := Lib.hid (fun j hj v hd => by
                        rcases Nat.lt_or_ge j i with h | h
                        · exact HN.out j h v hd
                        · obtain rfl : j = i := by omega
                          obtain ⟨u, rfl⟩ : ∃ u : Nat, v = u := ⟨v.toNat, by have := hd.1; omega⟩
                          exact HNK.out u (by have := hd.2.1; omega) hd)
                      go_wp2
                      go_roundw
                      case rel => exact ⟨i + 1, by omega, by go_num, HNN, HQ⟩
                      case measure => simp [intOf]; omega
                · obtain rfl : n' = i := by omega
                  obtain ⟨rfl, rfl, rfl⟩ : z1 = 0 ∧ z2 = 0 ∧ z3 = 6 := by
                    rcases HDL.out with ⟨e3, i0, hi0, e2, hd0, hn0⟩ | ⟨e1, e2, e3, -⟩
                    · exact absurd hd0 (HN.out i0 (by rw [HM.out] at hi0; exact hi0) z1)
                    · exact ⟨e1, e2, e3⟩
                  go_wp2
                  go_ret
                  exact ⟨rfl, bTrans HB4.out HQ.out⟩
end Go.Proofs.YtfcllbhkimjhkaaDoor.Ser
