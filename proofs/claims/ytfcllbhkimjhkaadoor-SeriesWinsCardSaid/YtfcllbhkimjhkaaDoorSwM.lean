/-
  The program's lines of rounds.
-/
import Derived.Test.YtfcllbhkimjhkaaDoorSwL
namespace Go.Proofs.YtfcllbhkimjhkaaDoor.Ser
open Go.RowKit
set_option maxRecDepth 100000
set_option linter.unusedSimpArgs false
theorem words_rd (W : World) (a b c d : List UInt8) : Rd (W.alloc (.cells #[.string ⟨a.toArray⟩, .string ⟨b.toArray⟩, .string ⟨c.toArray⟩, .string ⟨d.toArray⟩] 9)) (W.heap.size + 1) (some ⟨W.heap.size, 0, none⟩) ([a, b, c, d].map str) :=
  rd_new W #[.string ⟨a.toArray⟩, .string ⟨b.toArray⟩, .string ⟨c.toArray⟩, .string ⟨d.toArray⟩] 9 _ rfl _ (Nat.lt_succ_self _)
set_option maxHeartbeats 16000000 in
theorem lines_any (A : Option Addr) (c : Nat) (l : List Rnd) (w : World) (hl : l.length ≤ 1000) (hr : Rd w w.heap.size A (l.flatMap Rnd.cells)) (hok : ∀ r ∈ l, OkR r) (ht : Tab w w.heap.size) :
    Calls Tryd.prog 8 #[.slice A l.length c] w fun e w' => e = .returned (.string ⟨(linesZ l).toArray⟩) ∧ Below w.heap.size w w' := by
  have HR := Lib.hid hr
  have HOK := Lib.hid hok
  have HS := Lib.hid (fun k hk => linesZ_snoc l k hk)
  have HL := Lib.hid (fun k => linesZ_len (l.take k) (fun r hr => hok r (List.mem_of_mem_take hr)))
  have HP := Lib.hid (fun n V => place_any n V)
  have HTB := Lib.hid ht
  obtain ⟨m, hm⟩ : ∃ m, l.length = m := ⟨_, rfl⟩
  rw [hm] at hl ⊢
  have HM := Lib.hid hm
  clear hr hm hok ht
  go_enter Tryd.func8, Tryd.ntmps8
  go_upto_region 2 with fail
  obtain ⟨W, hW⟩ : ∃ W, W = w.alloc (.cells #[.pointer none, .slice none 0 0] 52) := ⟨_, rfl⟩
  have HQ0 : Hid (Lib.IsBuilder 52 5 w.heap.size w.heap.size (Lib.byteCells (linesZ (l.take 0))) W) := Lib.hid (by rw [hW]; exact Lib.fresh_isBuilder 52 5 w)
  have HB0 : Hid (Below w.heap.size w W) := Lib.hid (by rw [hW]; exact bAlloc (Below.refl _ _) _)
  rw [← hW]
  clear hW
  go_wp2_with fail
  go_loopw [10] (fun v wr => ∃ k : Nat, k ≤ m ∧ v = .int .i64 k ∧ Hid (Lib.IsBuilder 52 5 w.heap.size w.heap.size (Lib.byteCells (linesZ (l.take k))) wr) ∧ Hid (Below w.heap.size w wr)) (fun v _ => m - (intOf v).toNat)
  case atStart => exact ⟨0, Nat.zero_le _, rfl, HQ0, HB0⟩
  case round =>
    clear HQ0 HB0
    obtain ⟨k, hk, rfl, HQ, HB⟩ := hrel
    by_cases hlt : k < m
    · have hkL : k < l.length := by rw [HM.out]; exact hlt
      obtain ⟨b0, off, rfl, hB, x0, x1, x2, x3⟩ := Rd.rnd (HR.out.below HB.out (Nat.le_refl _)) hkL
      have hblw := Nat.lt_of_lt_of_le hB HB.out.size
      have hst := HS.out k hkL
      have hln := HL.out k
      have hokx := HOK.out l[k] (List.getElem_mem hkL)
      obtain ⟨x, hx⟩ : ∃ x, l[k] = x := ⟨_, rfl⟩
      rw [hx] at x0 x1 x2 x3 hst hokx
      obtain ⟨P, hP⟩ : ∃ P, linesZ (l.take k) = P := ⟨_, rfl⟩
      rw [hP] at hst hln HQ
      rw [List.length_take] at hln
      have hpl : P.length ≤ 100000 := by omega
      have HST := Lib.hid hst
      have HOKX := Lib.hid hokx
      have hlz := lineZ_len hokx
      have hll : (lineZ x).length = (joinL (wordsZ x)).length + 1 := by unfold lineZ; simp
      have hjl : (joinL (wordsZ x)).length ≤ 100 := by omega
      obtain ⟨⟨f0, f1⟩, ⟨a0, a1⟩, ⟨b1, b2⟩⟩ := hokx
      have HD0 := Lib.hid (fun V (hV : Below w.heap.size w V) => itoaZ x.frame f0 f1 V (HTB.out.below hV (Nat.le_refl _) |> fun t => ⟨t.1, Nat.lt_of_lt_of_le t.2 hV.size⟩))
      have HD1 := Lib.hid (fun V (hV : Below w.heap.size w V) => itoaZ x.a a0 a1 V (HTB.out.below hV (Nat.le_refl _) |> fun t => ⟨t.1, Nat.lt_of_lt_of_le t.2 hV.size⟩))
      have HD2 := Lib.hid (fun V (hV : Below w.heap.size w V) => itoaZ x.b b1 b2 V (HTB.out.below hV (Nat.le_refl _) |> fun t => ⟨t.1, Nat.lt_of_lt_of_le t.2 hV.size⟩))
      have l0 := decZ_len f0 f1
      have l1 := decZ_len a0 a1
      have l2 := decZ_len b1 b2
      have l3 := wordZ_len x
      have HWZ := Lib.hid (show wordZ x = if placeZ x.win < 2 then decZ x.win else [110, 111, 110, 101] from rfl)
      have HWS := Lib.hid (show wordsZ x = [decZ x.frame, decZ x.a, decZ x.b, wordZ x] from rfl)
      have HLZ := Lib.hid (show lineZ x = joinL (wordsZ x) ++ [10] from rfl)
      obtain ⟨u, hu⟩ : ∃ u, wordZ x = u := ⟨_, rfl⟩
      rw [hu] at HWZ HWS l3
      have HPX := Lib.hid (HP.out x.win)
      obtain ⟨J, hJ⟩ : ∃ J, joinL (wordsZ x) = J := ⟨_, rfl⟩
      have HJJ := Lib.hid hJ
      rw [hJ] at HLZ hjl
      clear hst hx hP hu hln hlz hll hJ
      go_upto_region 6 with fail
      obtain ⟨W2, hW2⟩ : ∃ W2, W2 = wr.alloc (.cells #[.int .i64 x.frame, .int .i64 x.a, .int .i64 x.b, .int .i64 x.win] 27) := ⟨_, rfl⟩
      have HE : Hid (Blk W2 wr.heap.size 27 #[.int .i64 x.frame, .int .i64 x.a, .int .i64 x.b, .int .i64 x.win]) := Lib.hid (by rw [hW2]; exact Blk.new _ _ _)
      have HB2 : Hid (Below w.heap.size w W2) := Lib.hid (by rw [hW2]; exact bAlloc HB.out _)
      have HQ2 := Lib.hid (show Lib.IsBuilder 52 5 w.heap.size w.heap.size (Lib.byteCells P) W2 by rw [hW2]; exact IsB_below HQ.out (bAlloc (Below.refl wr.heap.size wr) _))
      rw [← hW2]
      clear hW2 HB HQ x0 x1 x2 x3 hblw
      have e0 := HE.out.cell 0
      have e1 := HE.out.cell 1
      have e2 := HE.out.cell 2
      have e3 := HE.out.cell 3
      simp only [List.getElem?_toArray, List.getElem?_cons_zero, List.getElem?_cons_succ] at e0 e1 e2 e3
      have el := HE.out.lt
      by_cases hp2 : placeZ x.win < 2
      · have hw : x.win = 0 ∨ x.win = 1 := by unfold placeZ at hp2; split at hp2 <;> omega
        have HU : Hid (u = decZ x.win) := Lib.hid (by rw [HWZ.out, if_pos hp2])
        have HD3 := Lib.hid (itoaZ x.win (by omega) (by omega) W2 (HTB.out.below HB2.out (Nat.le_refl _) |> fun t => ⟨t.1, Nat.lt_of_lt_of_le t.2 HB2.out.size⟩))
        rw [← HU.out] at HD3
        clear hw
        go_upto_region 8 with (first | (go_at_call 13; refine (HPX.out _).mono ?_; rintro e w4 ⟨rfl, rfl⟩) | (go_at_call 14; refine HD3.out.mono ?_; rintro e w5 ⟨rfl, hb5⟩; have HB1 := Lib.hid (bTrans HB2.out hb5); have HQ1 := Lib.hid (IsB_below HQ2.out hb5); have HE1 := Lib.hid (HE.out.on hb5); clear hb5))
        clear e0 e1 e2 e3 el HE HB2 HQ2
        have e0 := HE1.out.cell 0
        have e1 := HE1.out.cell 1
        have e2 := HE1.out.cell 2
        have e3 := HE1.out.cell 3
        simp only [List.getElem?_toArray, List.getElem?_cons_zero, List.getElem?_cons_succ] at e0 e1 e2 e3
        have el := HE1.out.lt
        refine wp_region_mild_tail 12 (by kernel_rfl) (by kernel_rfl) ?_
        simp only [List.take_succ_cons, List.take_zero, List.drop_succ_cons, List.drop_zero]
        repeat (go_big_quiet_step ((go_at_call 14; first | (with_reducible exact mild_of (HD0.out _ (bTrans HB1.out (Ext.below _)))) | (with_reducible exact mild_of (HD1.out _ (bTrans HB1.out (Ext.below _)))) | (with_reducible exact mild_of (HD2.out _ (bTrans HB1.out (Ext.below _)))))))
        refine wpQuiet_nil ?_
        intro w7 hw'
        obtain ⟨⟨wq, k7⟩, hw''⟩ := hw'
        subst hw''
        have HB7 := Lib.hid (bTrans HB1.out k7)
        have HQ7 := Lib.hid (IsB_below HQ1.out k7)
        clear k7
        go_upto_region 9 with fail
        obtain ⟨W8, hW8⟩ : ∃ W8, W8 = w7.alloc (.cells #[.string ⟨(decZ x.frame).toArray⟩, .string ⟨(decZ x.a).toArray⟩, .string ⟨(decZ x.b).toArray⟩, .string ⟨u.toArray⟩] 9) := ⟨_, rfl⟩
        have HRW : Hid (Rd W8 W8.heap.size (some ⟨w7.heap.size, 0, none⟩) ((wordsZ x).map str)) := Lib.hid (by rw [HWS.out, hW8]; exact (words_rd w7 (decZ x.frame) (decZ x.a) (decZ x.b) u).more (by simp))
        have HB8 : Hid (Below w.heap.size w W8) := Lib.hid (by rw [hW8]; exact bAlloc HB7.out _)
        have HQ8 := Lib.hid (show Lib.IsBuilder 52 5 w.heap.size w.heap.size (Lib.byteCells P) W8 by rw [hW8]; exact IsB_below HQ7.out (bAlloc (Below.refl w7.heap.size w7) _))
        rw [← hW8]
        clear hW8 HB7 HQ7
        have HJ := Lib.hid (join_any (some ⟨w7.heap.size, 0, none⟩) 4 (wordsZ x) W8 rfl (by decide) (by decide) HRW.out (fun s hs => by have := wordsZ_len HOKX.out s hs; omega))
        rw [HJJ.out] at HJ
        unfold str at HJ
        go_wp2_with (first
          | (go_at_call 16; refine HJ.out.mono ?_; rintro e w9 ⟨rfl, hb9⟩; have HB9 := Lib.hid (bTrans HB8.out hb9); have HQ9 := Lib.hid (IsB_below HQ8.out hb9); clear hb9)
          | (go_at_call 15; refine (write_any w.heap.size w.heap.size _ _ _ HQ9.out (by rw [Lib.byteCells_length]; simp [ByteArray.size]; omega) HB9.out.size).mono ?_; rintro e w10 ⟨rfl, hbd, hb10, -⟩; have HB10 := Lib.hid (HB9.out.trans hb10); have HQ10 := Lib.hid hbd; clear hb10 hbd))
        have HQN : Hid (Lib.IsBuilder 52 5 w.heap.size w.heap.size (Lib.byteCells (linesZ (l.take (k + 1)))) w10) := Lib.hid (.inr (by rw [HST.out, HLZ.out, Lib.byteCells_append]; simpa [Lib.strCells_eq, str_append] using HQ10.out))
        go_roundw
        case rel => exact ⟨k + 1, by omega, by go_num, HQN, HB10⟩
        case measure => simp [intOf]; omega
      · have HU : Hid (u = [110, 111, 110, 101]) := Lib.hid (by rw [HWZ.out, if_neg hp2])
        have HB1 := HB2
        have HQ1 := HQ2
        go_upto_region 8 with (first | (go_at_call 13; refine (HPX.out _).mono ?_; rintro e w4 ⟨rfl, rfl⟩))
        rw [show (⟨#[110, 111, 110, 101]⟩ : ByteArray) = ⟨u.toArray⟩ by rw [HU.out]]
        refine wp_region_mild_tail 12 (by kernel_rfl) (by kernel_rfl) ?_
        simp only [List.take_succ_cons, List.take_zero, List.drop_succ_cons, List.drop_zero]
        repeat (go_big_quiet_step ((go_at_call 14; first | (with_reducible exact mild_of (HD0.out _ (bTrans HB1.out (Ext.below _)))) | (with_reducible exact mild_of (HD1.out _ (bTrans HB1.out (Ext.below _)))) | (with_reducible exact mild_of (HD2.out _ (bTrans HB1.out (Ext.below _)))))))
        refine wpQuiet_nil ?_
        intro w7 hw'
        obtain ⟨⟨wq, k7⟩, hw''⟩ := hw'
        subst hw''
        have HB7 := Lib.hid (bTrans HB1.out k7)
        have HQ7 := Lib.hid (IsB_below HQ1.out k7)
        clear k7
        go_upto_region 9 with fail
        obtain ⟨W8, hW8⟩ : ∃ W8, W8 = w7.alloc (.cells #[.string ⟨(decZ x.frame).toArray⟩, .string ⟨(decZ x.a).toArray⟩, .string ⟨(decZ x.b).toArray⟩, .string ⟨u.toArray⟩] 9) := ⟨_, rfl⟩
        have HRW : Hid (Rd W8 W8.heap.size (some ⟨w7.heap.size, 0, none⟩) ((wordsZ x).map str)) := Lib.hid (by rw [HWS.out, hW8]; exact (words_rd w7 (decZ x.frame) (decZ x.a) (decZ x.b) u).more (by simp))
        have HB8 : Hid (Below w.heap.size w W8) := Lib.hid (by rw [hW8]; exact bAlloc HB7.out _)
        have HQ8 := Lib.hid (show Lib.IsBuilder 52 5 w.heap.size w.heap.size (Lib.byteCells P) W8 by rw [hW8]; exact IsB_below HQ7.out (bAlloc (Below.refl w7.heap.size w7) _))
        rw [← hW8]
        clear hW8 HB7 HQ7
        have HJ := Lib.hid (join_any (some ⟨w7.heap.size, 0, none⟩) 4 (wordsZ x) W8 rfl (by decide) (by decide) HRW.out (fun s hs => by have := wordsZ_len HOKX.out s hs; omega))
        rw [HJJ.out] at HJ
        unfold str at HJ
        go_wp2_with (first
          | (go_at_call 16; refine HJ.out.mono ?_; rintro e w9 ⟨rfl, hb9⟩; have HB9 := Lib.hid (bTrans HB8.out hb9); have HQ9 := Lib.hid (IsB_below HQ8.out hb9); clear hb9)
          | (go_at_call 15; refine (write_any w.heap.size w.heap.size _ _ _ HQ9.out (by rw [Lib.byteCells_length]; simp [ByteArray.size]; omega) HB9.out.size).mono ?_; rintro e w10 ⟨rfl, hbd, hb10, -⟩; have HB10 := Lib.hid (HB9.out.trans hb10); have HQ10 := Lib.hid hbd; clear hb10 hbd))
        have HQN : Hid (Lib.IsBuilder 52 5 w.heap.size w.heap.size (Lib.byteCells (linesZ (l.take (k + 1)))) w10) := Lib.hid (.inr (by rw [HST.out, HLZ.out, Lib.byteCells_append]; simpa [Lib.strCells_eq, str_append] using HQ10.out))
        go_roundw
        case rel => exact ⟨k + 1, by omega, by go_num, HQN, HB10⟩
        case measure => simp [intOf]; omega
    · obtain rfl : k = m := by omega
      rw [List.take_of_length_le (by rw [HM.out]; exact Nat.le_refl _)] at HQ
      have HST := Lib.hid (Tryd.Builder_String_any w.heap.size w.heap.size (linesZ l) wr HQ.out HB.out.size)
      go_wp2_with (first | (go_at_call 17; refine HST.out.mono ?_; rintro e w4 ⟨rfl, hb4⟩))
      go_ret
      exact ⟨rfl, HB.out.trans hb4⟩
end Go.Proofs.YtfcllbhkimjhkaaDoor.Ser
