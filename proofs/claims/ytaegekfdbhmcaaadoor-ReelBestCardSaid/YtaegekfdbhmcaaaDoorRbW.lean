/-
  The walk of ReelBest.
-/
import Derived.Test.YtaegekfdbhmcaaaDoorRbB
import Derived.Test.YtaegekfdbhmcaaaDoorRbD
import Derived.Test.YtaegekfdbhmcaaaDoorRbL
import Derived.Test.YtaegekfdbhmcaaaDoorRbA
import Derived.Test.YtaegekfdbhmcaaaDoorReelOf
namespace Go.Proofs.YtaegekfdbhmcaaaDoor
open Go.RowKit
set_option maxRecDepth 100000
set_option linter.unusedSimpArgs false
set_option maxHeartbeats 1000000 in
theorem rb_long (A : Option Addr) (c n : Nat) (f q : Int) (w : World) (hw : Weights w) (h1 : 60 < n) (h2 : n ≤ 9223372036854775807) : Calls Tryd.prog 3 #[.slice A n c, .int .i64 f, .int .i64 q] w fun e w' => e = .returned (.bool true) ∧ Below w.heap.size w w' := by
  have HW := Lib.hid hw
  clear hw
  go_enter Tryd.func3, Tryd.ntmps3
  go_wp2_with (first | (go_at_call 4; refine (awake_any _ HW.out).mono ?_; rintro e w1 ⟨rfl, hb1⟩))
  go_ret
  exact ⟨rfl, hb1⟩
set_option maxHeartbeats 4000000 in
theorem rb_no (A : Option Addr) (c : Nat) (L : List Cut) (f q : Int) (w : World) (hw : Weights w) (hn : L.length ≤ 60) (hr : Rd w w.heap.size A (L.flatMap Cut.cells)) (hno : rightB (-1) L = false ∨ f < 0) : Calls Tryd.prog 3 #[.slice A L.length c, .int .i64 f, .int .i64 q] w fun e w' => e = .returned (.bool true) ∧ Below w.heap.size w w' := by
  have HW := Lib.hid hw
  have HOF := Lib.hid (fun V (hV : Below w.heap.size w V) => of_any A c L V (by omega) ((hr.below hV (Nat.le_refl _)).more hV.size))
  have HBE := Lib.hid (fun V (hV : Below w.heap.size w V) => best_no A c L f V (by omega) ((hr.below hV (Nat.le_refl _)).more hV.size) hno)
  have HRI := Lib.hid (fun V (hV : Below w.heap.size w V) => right_all A c L V (by omega) ((hr.below hV (Nat.le_refl _)).more hV.size))
  have HRR := Lib.hid (fun A2 c2 V (hV : OwnL V w.heap.size 32 3 (.slice A2 L.length c2) Cut.cells L) => rRight_all A2 c2 L V (by omega) hV.rd)
  have hf : rightB (-1) L = true → f < 0 := fun h => by rcases hno with k | k; rw [h] at k; cases k; exact k
  obtain ⟨m, hm⟩ : ∃ m, L.length = m := ⟨_, rfl⟩
  rw [hm] at HOF HBE HRI HRR hn ⊢
  obtain ⟨r, hrr⟩ : ∃ r, rightB (-1) L = r := ⟨_, rfl⟩
  rw [hrr] at HRI HRR hf
  clear hw hr hno hm hrr
  cases r with
  | false =>
    clear hf
    go_enter Tryd.func3, Tryd.ntmps3
    go_wp2_with (first
      | (go_at_call 4; refine (awake_any _ HW.out).mono ?_; rintro e w1 ⟨rfl, hb1⟩; have HB1 := Lib.hid hb1; clear hb1)
      | (go_at_call 5; refine (HOF.out _ HB1.out).mono ?_; rintro e w2 ⟨A2, c2, rfl, ho2, hb2⟩; have HO2 := Lib.hid (ho2.more HB1.out.size); have HB2 := Lib.hid (bTrans HB1.out hb2); clear ho2 hb2)
      | (go_at_call 6; refine (HBE.out _ HB2.out).mono ?_; rintro e w3 ⟨rfl, hb3⟩; have HB3 := Lib.hid (bTrans HB2.out hb3); have HO3 := Lib.hid (HO2.out.below hb3); clear hb3)
      | (go_at_call 7; refine (HRI.out _ HB3.out).mono ?_; rintro e w4 ⟨rfl, hb4⟩; have HB4 := Lib.hid (bTrans HB3.out hb4); have HO4 := Lib.hid (HO3.out.below hb4); clear hb4)
      | (go_at_call 8; refine (HRR.out _ _ _ HO5.out).mono ?_; rintro e w6 ⟨rfl, hb6⟩; have HB6 := Lib.hid (bTrans HB5.out hb6); clear hb6)
      | (go_at_call 8; refine (HRR.out _ _ _ HO4.out).mono ?_; rintro e w5 ⟨rfl, hb5⟩; have HB5 := Lib.hid (bTrans HB4.out hb5); have HO5 := Lib.hid (HO4.out.below hb5); clear hb5))
    go_ret
    exact ⟨rfl, HB6.out⟩
  | true =>
    have hf0 : f < 0 := hf rfl
    clear hf
    go_enter Tryd.func3, Tryd.ntmps3
    go_wp2_with (first
      | (go_at_call 4; refine (awake_any _ HW.out).mono ?_; rintro e w1 ⟨rfl, hb1⟩; have HB1 := Lib.hid hb1; clear hb1)
      | (go_at_call 5; refine (HOF.out _ HB1.out).mono ?_; rintro e w2 ⟨A2, c2, rfl, ho2, hb2⟩; have HO2 := Lib.hid (ho2.more HB1.out.size); have HB2 := Lib.hid (bTrans HB1.out hb2); clear ho2 hb2)
      | (go_at_call 6; refine (HBE.out _ HB2.out).mono ?_; rintro e w3 ⟨rfl, hb3⟩; have HB3 := Lib.hid (bTrans HB2.out hb3); have HO3 := Lib.hid (HO2.out.below hb3); clear hb3)
      | (go_at_call 7; refine (HRI.out _ HB3.out).mono ?_; rintro e w4 ⟨rfl, hb4⟩; have HB4 := Lib.hid (bTrans HB3.out hb4); have HO4 := Lib.hid (HO3.out.below hb4); clear hb4)
      | (go_at_call 8; refine (HRR.out _ _ _ HO5.out).mono ?_; rintro e w6 ⟨rfl, hb6⟩; have HB6 := Lib.hid (bTrans HB5.out hb6); clear hb6)
      | (go_at_call 8; refine (HRR.out _ _ _ HO4.out).mono ?_; rintro e w5 ⟨rfl, hb5⟩; have HB5 := Lib.hid (bTrans HB4.out hb5); have HO5 := Lib.hid (HO4.out.below hb5); clear hb5))
    go_ret
    exact ⟨rfl, HB6.out⟩
theorem lengthOf_bd : ∀ (L : List Cut), (∀ c ∈ L, 0 ≤ c.frm ∧ c.frm ≤ c.to_ ∧ c.to_ ≤ 1073741824) → 0 ≤ lengthOf L ∧ lengthOf L ≤ L.length * 1073741824
  | [], _ => by simp [lengthOf]
  | c :: L, h => by
    have h1 := h c (by simp)
    have h2 := lengthOf_bd L (fun x hx => h x (by simp [hx]))
    have : lengthOf (c :: L) = c.to_ - c.frm + lengthOf L := by simp [lengthOf]
    rw [this, List.length_cons]
    push_cast
    omega
set_option maxHeartbeats 16000000 in
theorem rb_yes (A : Option Addr) (c : Nat) (L : List Cut) (f q : Int) (w : World) (hw : Weights w) (ht : Tab w w.heap.size) (hn : L.length ≤ 60) (hr : Rd w w.heap.size A (L.flatMap Cut.cells)) (hR : rightB (-1) L = true) (hf : 0 ≤ f) (hf2 : f ≤ 9223372036854775807) : Calls Tryd.prog 3 #[.slice A L.length c, .int .i64 f, .int .i64 q] w fun e w' => e = .returned (.bool true) ∧ Below w.heap.size w w' := by
  have hRL := (rightB_iff L (-1)).1 hR
  obtain ⟨hbd, -⟩ := rightL_pair L _ hRL
  have hends : ∀ c ∈ L, 0 ≤ c.frm ∧ c.frm ≤ c.to_ ∧ c.to_ ≤ 1073741824 := fun c hc => by have := hbd c hc; omega
  have hokn : ∀ r ∈ L, OkN r := fun c hc => by have := hbd c hc; unfold OkN; omega
  have hbl := best_length f hf hRL
  have hbm : ∀ x ∈ bestL L f, x ∈ L := fun x hx => (bestL_sub L f).subset hx
  have hbn := (bestL_sub L f).length_le
  have hbb := lengthOf_bd (bestL L f) (fun x hx => hends x (hbm x hx))
  have HW := Lib.hid hw
  have HOF := Lib.hid (fun V (hV : Below w.heap.size w V) => of_any A c L V (by omega) ((hr.below hV (Nat.le_refl _)).more hV.size))
  have HBE := Lib.hid (fun V (hV : Below w.heap.size w V) => best_any A c L f V (by omega) ((hr.below hV (Nat.le_refl _)).more hV.size) hRL hf hf2)
  have HRI := Lib.hid (fun V (hV : Below w.heap.size w V) => right_all A c L V (by omega) ((hr.below hV (Nat.le_refl _)).more hV.size))
  have HRR := Lib.hid (fun A2 c2 V (hV : OwnL V w.heap.size 32 3 (.slice A2 L.length c2) Cut.cells L) => rRight_all A2 c2 L V (by omega) hV.rd)
  have HIN := Lib.hid (fun V (hV : Below w.heap.size w V) => inside_any A c L q V (by omega) ((hr.below hV (Nat.le_refl _)).more hV.size))
  have HRB := Lib.hid (fun A2 c2 V (hV : OwnL V w.heap.size 32 3 (.slice A2 L.length c2) Cut.cells L) => rbest_any A2 c2 L f V (by omega) hV.rd hRL hf hf2)
  have HLB := Lib.hid (fun A2 c2 V (hV : OwnL V w.heap.size 48 3 (.slice A2 (bestL L f).length c2) Cut.cells (bestL L f)) => length_any A2 c2 (bestL L f) V (by omega) hV.rd (fun x hx => hends x (hbm x hx)))
  have HLL := Lib.hid (fun V (hV : Below w.heap.size w V) => length_any A c L V (by omega) ((hr.below hV (Nat.le_refl _)).more hV.size) hends)
  have HSA := Lib.hid (fun A1 A2 c1 c2 V (h1 : OwnL V w.heap.size 48 3 (.slice A1 (bestL L f).length c1) Cut.cells (bestL L f)) (h2 : OwnL V w.heap.size 32 3 (.slice A2 (bestL L f).length c2) Cut.cells (bestL L f)) => same_yes A1 A2 c1 c2 (bestL L f) V (by omega) h1.rd h2.rd)
  have HLI := Lib.hid (fun V (hV : Below w.heap.size w V) => lines_any A c L V (by omega) ((hr.below hV (Nat.le_refl _)).more hV.size) hokn ((ht.below hV (Nat.le_refl _)) |> fun t => ⟨t.1, Nat.lt_of_lt_of_le t.2 hV.size⟩))
  have HRL := Lib.hid (fun A2 c2 V (hV : OwnL V w.heap.size 32 3 (.slice A2 L.length c2) Cut.cells L) => rlines_any A2 c2 L V (by omega) hV.rd hokn)
  have HTK := Lib.hid (fun k hk => ins_take q L k hk)
  have HLT := Lib.hid (fun k hk => lengthOf_take L k hk)
  have HEN := Lib.hid hends
  have HNL : Hid (lengthOf (L.take L.length) = lengthOf L ∧ insK q (L.take L.length) = insK q L ∧ insB q (L.take L.length) = insB q L) := Lib.hid (by rw [List.take_length]; exact ⟨rfl, rfl, rfl⟩)
  rw [hR] at HRI HRR
  obtain ⟨m, hm⟩ : ∃ m, L.length = m := ⟨_, rfl⟩
  have HM := Lib.hid hm
  rw [hm] at HOF HBE HRI HRR HIN HRB HLL HLI HRL HNL hn ⊢
  obtain ⟨nb, hnb⟩ : ∃ nb, (bestL L f).length = nb := ⟨_, rfl⟩
  rw [hnb] at HBE HRB HLB HSA
  obtain ⟨zb, hzb⟩ : ∃ zb, lengthOf (bestL L f) = zb := ⟨_, rfl⟩
  rw [hzb] at HLB hbl
  obtain ⟨zl, hzl⟩ : ∃ zl, lengthOf L = zl := ⟨_, rfl⟩
  rw [hzl] at HLL HNL
  obtain ⟨ik, hik⟩ : ∃ ik, insK q L = ik := ⟨_, rfl⟩
  obtain ⟨ib, hib⟩ : ∃ ib, insB q L = ib := ⟨_, rfl⟩
  rw [hik, hib] at HIN HNL
  obtain ⟨sl, hsl⟩ : ∃ sl, (⟨(linesC L).toArray⟩ : ByteArray) = sl := ⟨_, rfl⟩
  rw [hsl] at HLI HRL
  have g1 : decide (zb ≤ f) = true := decide_eq_true hbl
  have g2 : (zl == zl) = true := by simp
  have g3 : (ik == ik) = true := by simp
  have g4 : (ib == ib) = true := by simp
  have g5 : (sl.toList == sl.toList) = true := by simp
  have g6 : decide (f < 0) = false := decide_eq_false (by omega)
  clear hw ht hr hR hf hRL hbd hends hokn hbl hbm hbn hbb hm hnb hzb hzl hik hib hsl
  go_enter Tryd.func3, Tryd.ntmps3
  go_wp2_with (first
    | (go_at_call 4; refine (awake_any _ HW.out).mono ?_; rintro e w1 ⟨rfl, hb1⟩; have HB1 := Lib.hid hb1; clear hb1)
    | (go_at_call 5; refine (HOF.out _ HB1.out).mono ?_; rintro e w2 ⟨A2, c2, rfl, ho2, hb2⟩; have HO2 := Lib.hid (ho2.more HB1.out.size); have HB2 := Lib.hid (bTrans HB1.out hb2); clear ho2 hb2)
    | (go_at_call 6; refine (HBE.out _ HB2.out).mono ?_; rintro e w3 ⟨A3, c3, rfl, ho3, hb3⟩; have HB3 := Lib.hid (bTrans HB2.out hb3); have HO3 := Lib.hid (HO2.out.below hb3); have HP3 := Lib.hid (ho3.more HB2.out.size); clear hb3 ho3)
    | (go_at_call 7; refine (HRI.out _ HB3.out).mono ?_; rintro e w4 ⟨rfl, hb4⟩; have HB4 := Lib.hid (bTrans HB3.out hb4); have HO4 := Lib.hid (HO3.out.below hb4); have HP4 := Lib.hid (HP3.out.below hb4); clear hb4)
    | (go_at_call 8; refine (HRR.out _ _ _ HO5.out).mono ?_; rintro e w6 ⟨rfl, hb6⟩; have HB6 := Lib.hid (bTrans HB5.out hb6); have HO6 := Lib.hid (HO5.out.below hb6); have HP6 := Lib.hid (HP5.out.below hb6); clear hb6)
    | (go_at_call 8; refine (HRR.out _ _ _ HO4.out).mono ?_; rintro e w5 ⟨rfl, hb5⟩; have HB5 := Lib.hid (bTrans HB4.out hb5); have HO5 := Lib.hid (HO4.out.below hb5); have HP5 := Lib.hid (HP4.out.below hb5); clear hb5))
  clear HO2 HO3 HO4 HO5 HP3 HP4 HP5 HB1 HB2 HB3 HB4 HB5 HBE HOF HRI HRR
  go_loopw [10, 11, 12, 13] (fun n a b i wr => ∃ k : Nat, k ≤ m ∧ i = .int .i64 k ∧ ∃ z, n = .int .i64 z ∧ Hid (z = lengthOf (L.take k)) ∧ 0 ≤ z ∧ z ≤ k * 1073741824 ∧ ∃ x y, a = .int .i64 x ∧ b = .bool y ∧ Hid (x = insK q (L.take k)) ∧ Hid (y = insB q (L.take k)) ∧ Hid (Below w6.heap.size w6 wr)) (fun _ _ _ i _ => m - (intOf i).toNat)
  case atStart => exact ⟨0, Nat.zero_le _, rfl, 0, rfl, Lib.hid (by simp [lengthOf]), Int.le_refl _, by simp, 0, false, rfl, rfl, Lib.hid rfl, Lib.hid rfl, Lib.hid (Below.refl _ _)⟩
  case round =>
    obtain ⟨k, hk, rfl, z, rfl, hz, z0, z1, x, y, rfl, rfl, hx, hy, HB⟩ := hrel
    have HOR := Lib.hid (HO6.out.below HB.out)
    by_cases hlt : k < m
    · have hkL : k < L.length := by rw [HM.out]; exact hlt
      obtain ⟨b, off, hA, hB, hc⟩ := (HO6.out.rd.below HB.out (Nat.le_refl _)).at_ Cut.cells_length (by omega) hkL
      subst hA
      have x0 := hc 0 _ rfl
      have x1 := hc 1 _ rfl
      rw [Nat.add_zero] at x0
      have hst := HLT.out k hkL
      obtain ⟨hs1, hs2⟩ := HTK.out k hkL
      obtain ⟨r1, r2, r3⟩ := HEN.out L[k] (List.getElem_mem hkL)
      rw [← hz.out] at hst
      rw [← hx.out, ← hy.out] at hs2
      rw [← hy.out] at hs1
      unfold inOne at hs1 hs2
      obtain ⟨u, hu⟩ : ∃ u, L[k].frm = u := ⟨_, rfl⟩
      obtain ⟨v, hv⟩ : ∃ v, L[k].to_ = v := ⟨_, rfl⟩
      rw [hu] at x0 r1 r2
      rw [hv] at x1 r2 r3
      rw [hu, hv] at hst hs1 hs2
      have HST := Lib.hid hst
      have HS1 := Lib.hid hs1
      have HS2 := Lib.hid hs2
      have hblw := Nat.lt_of_lt_of_le hB HB.out.size
      have e1 : (0 : Int) ≤ (k : Int) := Int.natCast_nonneg _
      have e2 : (k : Int) < (m : Int) := by omega
      clear hc hst hs1 hs2 hu hv hx hy hz
      go_upto_region 16 with fail
      refine wp_region_mild (by kernel_rfl) (by kernel_rfl) ?_
      repeat (go_big_quiet_step (fail))
      refine wpQuiet_nil ?_
      intro w7 hw'
      obtain ⟨⟨wq, k7⟩, hw''⟩ := hw'
      subst hw''
      have y0 := (k7.cell (p := ⟨b, off + k * 3, none⟩) hblw).trans x0
      have y1 := (k7.cell (p := ⟨b, off + k * 3 + 1, none⟩) hblw).trans x1
      have HB7 := Lib.hid (bTrans HB.out k7)
      have hblw7 := Nat.lt_of_lt_of_le hblw k7.size
      clear x0 x1 k7 hblw
      by_cases h1 : u ≤ q
      · have f1 : decide (u ≤ q) = true := by simpa using h1
        by_cases h2 : q < v
        · have f2 : decide (q < v) = true := by simpa using h2
          rw [f1, f2] at HS1 HS2
          cases y with
          | true =>
            have HT : Hid (insB q (L.take (k + 1)) = true ∧ insK q (L.take (k + 1)) = x) := Lib.hid ⟨HS1.out.trans rfl, HS2.out.trans (if_pos rfl)⟩
            clear HS1 HS2 h1 h2
            go_wp2
            go_roundw
            case rel => exact ⟨k + 1, by omega, by go_num, _, rfl, Lib.hid (by rw [HST.out]; omega), by omega, by omega, x, true, rfl, rfl, Lib.hid HT.out.2.symm, Lib.hid HT.out.1.symm, HB7⟩
            case measure => simp [intOf]; omega
          | false =>
            have HT : Hid (insB q (L.take (k + 1)) = true ∧ insK q (L.take (k + 1)) = (k : Int)) := Lib.hid ⟨HS1.out.trans rfl, HS2.out.trans rfl⟩
            clear HS1 HS2 h1 h2
            go_wp2
            go_roundw
            case rel => exact ⟨k + 1, by omega, by go_num, _, rfl, Lib.hid (by rw [HST.out]; omega), by omega, by omega, k, true, rfl, rfl, Lib.hid HT.out.2.symm, Lib.hid HT.out.1.symm, HB7⟩
            case measure => simp [intOf]; omega
        · have f2 : decide (q < v) = false := by simpa using h2
          rw [f1, f2] at HS1 HS2
          have HT : Hid (insB q (L.take (k + 1)) = y ∧ insK q (L.take (k + 1)) = x) := Lib.hid ⟨HS1.out.trans (by simp), HS2.out.trans (by simp)⟩
          clear HS1 HS2 h1 h2
          go_wp2
          go_roundw
          case rel => exact ⟨k + 1, by omega, by go_num, _, rfl, Lib.hid (by rw [HST.out]; omega), by omega, by omega, x, y, rfl, rfl, Lib.hid HT.out.2.symm, Lib.hid HT.out.1.symm, HB7⟩
          case measure => simp [intOf]; omega
      · have f1 : decide (u ≤ q) = false := by simpa using h1
        rw [f1] at HS1 HS2
        have HT : Hid (insB q (L.take (k + 1)) = y ∧ insK q (L.take (k + 1)) = x) := Lib.hid ⟨HS1.out.trans (by simp), HS2.out.trans (by simp)⟩
        clear HS1 HS2 h1
        go_wp2
        go_roundw
        case rel => exact ⟨k + 1, by omega, by go_num, _, rfl, Lib.hid (by rw [HST.out]; omega), by omega, by omega, x, y, rfl, rfl, Lib.hid HT.out.2.symm, Lib.hid HT.out.1.symm, HB7⟩
        case measure => simp [intOf]; omega
    · obtain rfl : k = m := by omega
      obtain rfl : z = zl := by rw [hz.out, HNL.out.1]
      obtain rfl : x = ik := by rw [hx.out, HNL.out.2.1]
      obtain rfl : y = ib := by rw [hy.out, HNL.out.2.2]
      have HPR := Lib.hid (HP6.out.below HB.out)
      have HBR := Lib.hid (bTrans HB6.out HB.out)
      clear HO6 HP6 HB6 HB hx hy hz HNL HTK HLT HEN
      go_wp2_with (first
        | (go_at_call 9; refine (HIN.out _ HBR.out).mono ?_; rintro e w7 ⟨rfl, hb7⟩; have HB7 := Lib.hid (bTrans HBR.out hb7); have HO7 := Lib.hid (HOR.out.below hb7); have HP7 := Lib.hid (HPR.out.below hb7); clear hb7)
        | (go_at_call 11; refine (HRB.out _ _ _ HO7.out).mono ?_; rintro e w8 ⟨A8, c8, rfl, ho8, hb8⟩; have HB8 := Lib.hid (bTrans HB7.out hb8); have HO8 := Lib.hid (HO7.out.below hb8); have HP8 := Lib.hid (HP7.out.below hb8); have HQ8 := Lib.hid (ho8.more HB7.out.size); clear hb8 ho8)
        | (go_at_call 10; refine (HSA.out _ _ _ _ _ HP8.out HQ8.out).mono ?_; rintro e w9 ⟨rfl, hb9⟩; have HB9 := Lib.hid (bTrans HB8.out hb9); have HO9 := Lib.hid (HO8.out.below hb9); have HP9 := Lib.hid (HP8.out.below hb9); clear hb9)
        | (go_at_call 12; refine (HLL.out _ HB10.out).mono ?_; rintro e w11 ⟨rfl, hb11⟩; have HB11 := Lib.hid (bTrans HB10.out hb11); have HO11 := Lib.hid (HO10.out.below hb11); clear hb11)
        | (go_at_call 12; refine (HLB.out _ _ _ HP9.out).mono ?_; rintro e w10 ⟨rfl, hb10⟩; have HB10 := Lib.hid (bTrans HB9.out hb10); have HO10 := Lib.hid (HO9.out.below hb10); clear hb10)
        | (go_at_call 13; refine (HLI.out _ HB11.out).mono ?_; rintro e w12 ⟨rfl, hb12⟩; have HB12 := Lib.hid (bTrans HB11.out hb12); have HO12 := Lib.hid (HO11.out.below hb12); clear hb12)
        | (go_at_call 14; refine (HRL.out _ _ _ HO12.out).mono ?_; rintro e w13 ⟨rfl, hb13⟩; have HB13 := Lib.hid (bTrans HB12.out hb13); clear hb13))
      go_ret
      exact ⟨rfl, HB13.out⟩
theorem best_all (A : Option Addr) (c : Nat) (L : List Cut) (f q : Int) (w : World) (hw : Weights w) (ht : Tab w w.heap.size) (hc : L.length ≤ c ∧ c ≤ maxLen) (hr : Rd w w.heap.size A (L.flatMap Cut.cells)) (hf2 : f ≤ 9223372036854775807) : Calls Tryd.prog 3 #[.slice A L.length c, .int .i64 f, .int .i64 q] w fun e w' => e = .returned (.bool true) ∧ Below w.heap.size w w' := by
  by_cases h : L.length ≤ 60
  · by_cases hf : 0 ≤ f
    · cases hR : rightB (-1) L with
      | false => exact rb_no A c L f q w hw h hr (.inl hR)
      | true => exact rb_yes A c L f q w hw ht h hr hR hf hf2
    · exact rb_no A c L f q w hw h hr (.inr (by omega))
  · exact rb_long A c L.length f q w hw (by omega) (by have := hc.1; have := hc.2; unfold maxLen at this; omega)
end Go.Proofs.YtaegekfdbhmcaaaDoor
