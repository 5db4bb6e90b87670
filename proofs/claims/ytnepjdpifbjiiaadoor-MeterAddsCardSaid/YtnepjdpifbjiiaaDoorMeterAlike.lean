/-
  A meter has what the document counts.
-/
import Derived.Test.YtnepjdpifbjiiaaDoorMeterOpen
namespace Go.Proofs.YtnepjdpifbjiiaaDoor
open Go.RowKit
set_option maxRecDepth 100000

theorem kindF_eq (f : Nat → Int) (l : List OutP) (h : Agree f l) (k : Int) : kindF f k = (cmdsOf l k).length := by
  unfold kindF
  by_cases hk : 1 ≤ k ∧ k ≤ 4
  · rw [if_pos hk]
    have : k = 1 ∨ k = 2 ∨ k = 3 ∨ k = 4 := by omega
    rcases this with rfl | rfl | rfl | rfl
    · exact h.k1
    · exact h.k2
    · exact h.k3
    · exact h.k4
  · rw [if_neg hk]; unfold cmdsOf; rw [if_neg hk]; rfl
theorem lateF_eq (f : Nat → Int) (l : List OutP) (h : Agree f l) (n : Int) : lateF f n = cnt (lateIs n) (cmdsOf l 1) := by
  unfold lateF
  by_cases hk : 0 ≤ n ∧ n ≤ 63
  · rw [if_pos hk]
    have := h.late n.toNat (by omega)
    rw [this]
    congr 1
    funext c
    unfold lateIs
    exact decide_eq_decide.2 (by omega)
  · rw [if_neg hk]
    unfold cnt
    rw [List.filter_eq_nil_iff.2 fun c _ => by
      have := clamp_le c.late
      simp only [lateIs, decide_eq_true_eq]; omega]
    rfl

set_option maxHeartbeats 4000000 in
theorem alike_any (g : Nat) (f : Nat → Int) (A : Option Addr) (c : Nat) (l : List OutP) (kind late p : Int) (w : World) (hf : IBlk w g 53 74 f) (ha : Agree f l) (hs : Sm f 1000000) (ht : Tab w w.heap.size) (hn : l.length ≤ 200) (hr : Rd w w.heap.size A (l.flatMap OutP.cells)) (hin : ∀ o ∈ l, o.In w w.heap.size)
    (hc : ∀ o ∈ l, o.cmds.length ≤ 60 ∧ o.sends.length ≤ 60) :
    Calls Tryd.prog 10 #[.pointer (some ⟨g, 0, none⟩), .slice A l.length c, .int .i64 kind, .int .i64 late, .int .i64 p] w fun e w' => e = .returned (.bool true) ∧ Below w.heap.size w w' := by
  have hc1 : ∀ o ∈ l, o.cmds.length ≤ 60 := fun o h => (hc o h).1
  have hc2 : ∀ o ∈ l, o.sends.length ≤ 60 := fun o h => (hc o h).2
  have F : ∀ w', Below w.heap.size w w' → IBlk w' g 53 74 f := fun w' h => hf.on h
  have R : ∀ w', Below w.heap.size w w' → Rd w' w'.heap.size A (l.flatMap OutP.cells) := fun w' h => rd_below hr h
  have I : ∀ w', Below w.heap.size w w' → ∀ o ∈ l, o.In w' w'.heap.size := fun w' h => in_below hin h
  have H1 := Lib.hid fun w' h => outs_any g f w' (F w' h)
  have H2 := Lib.hid fun w' h => sent_any g f w' (F w' h)
  have H3 := Lib.hid fun w' h => rSent_any A c l w' hn (R w' h) (I w' h) hc2
  have H4 := Lib.hid fun w' h => rMoved_any A c l w' (by omega) (R w' h)
  have H5 := Lib.hid fun w' h => cmds_any g f kind w' (F w' h)
  have H6 := Lib.hid fun w' h => rCmds_any A c l kind w' hn (R w' h) (I w' h) hc1
  have H7 := Lib.hid fun w' h => played_any g f w' (F w' h)
  have H8 := Lib.hid fun w' h => rPlayed_any A c l w' hn (R w' h) (I w' h) hc1
  have H9 := Lib.hid fun w' (h : Below w.heap.size w w') => line_any g f w' (F w' h) ha.pos ⟨(ht.below h (Nat.le_refl _)).1, Nat.lt_of_lt_of_le ht.2 h.size⟩
  have H10 := Lib.hid fun w' h => rLine_any A c l f w' hn (R w' h) (I w' h) hc1 hc2 ha
  have H11 := Lib.hid fun w' h => rCmds_any A c l 1 w' hn (R w' h) (I w' h) hc1
  have H12 := Lib.hid fun w' h => rLate_any A c l 0 w' hn (R w' h) (I w' h) hc1
  have H13 := Lib.hid fun w' h => late_any g f late w' (F w' h)
  have H14 := Lib.hid fun w' h => rLate_any A c l late w' hn (R w' h) (I w' h) hc1
  have H15 := Lib.hid fun w' h => share_any g f p w' (F w' h) hs
  have H16 := Lib.hid fun w' h => rShare_any A c l p f w' hn (R w' h) (I w' h) hc1 hs ha.k1.symm (fun j hj => (ha.late j hj).symm)
  have H17 := Lib.hid fun w' h => smooth_any g f w' (F w' h) hs
  rw [ha.outs] at H1
  rw [← ha.sent, ← ha.bytes] at H3
  rw [← ha.moved] at H4
  rw [kindF_eq f l ha] at H5
  rw [← ha.played] at H8
  have h0 : cnt (lateIs 0) (cmdsOf l 1) = f 10 := (ha.late 0 (by decide)).symm
  rw [h0] at H12
  rw [lateF_eq f l ha] at H13
  have b6 := hs 6 (by decide)
  have b10 := hs 10 (by decide)
  have e6 := ha.k1
  obtain ⟨T, hT⟩ : ∃ T, joinL (lineT f) = T := ⟨_, rfl⟩
  rw [hT] at H9 H10
  obtain ⟨K, hK⟩ : ∃ K, cmdsOf l kind = K := ⟨_, rfl⟩
  rw [hK] at H5 H6
  obtain ⟨S, hS⟩ : ∃ S, cmdsOf l 1 = S := ⟨_, rfl⟩
  rw [hS] at H11 H13 H14 e6
  obtain ⟨L, hL⟩ : ∃ L, cnt (lateIs late) S = L := ⟨_, rfl⟩
  rw [hL] at H13 H14
  obtain ⟨SH, hSH⟩ : ∃ SH, shareF f p = SH := ⟨_, rfl⟩
  rw [hSH] at H15 H16
  obtain ⟨x1, hx1⟩ : ∃ x, f 1 = x := ⟨_, rfl⟩
  obtain ⟨x2, hx2⟩ : ∃ x, f 2 = x := ⟨_, rfl⟩
  obtain ⟨x3, hx3⟩ : ∃ x, f 3 = x := ⟨_, rfl⟩
  obtain ⟨x4, hx4⟩ : ∃ x, f 4 = x := ⟨_, rfl⟩
  obtain ⟨x10, hx10⟩ : ∃ x, f 10 = x := ⟨_, rfl⟩
  rw [hx1] at H1 H4
  rw [hx2, hx3] at H2 H3
  rw [hx4] at H7 H8
  rw [hx10] at H12 b10
  by_cases h6 : f 6 = 0
  · have hsm : smoothF f = 1000 := by unfold smoothF; rw [if_pos h6]
    rw [hsm] at H17
    have hS0 : S.length = 0 := by omega
    rw [hS0] at H11
    clear hf ha hs ht hr hin hc hc1 hc2 F R I hT hK hS hL hSH hx1 hx2 hx3 hx4 hx10 hsm e6 b6 b10 h6 h0
    go_enter Tryd.func10, Tryd.ntmps10
    go_wp2_with fail
    refine (H1.out _ (Below.refl _ _)).mono ?_
    rintro e w1 ⟨rfl, hb⟩
    go_wp2_with fail
    refine (H2.out _ hb).mono ?_
    rintro e w2 ⟨rfl, hb2⟩
    have hb := bTrans hb hb2
    go_wp2_with fail
    refine (H3.out _ hb).mono ?_
    rintro e w3 ⟨rfl, rfl⟩
    go_wp2_with fail
    refine (H4.out _ hb).mono ?_
    rintro e w4 ⟨rfl, rfl⟩
    go_wp2_with fail
    refine (H5.out _ hb).mono ?_
    rintro e w5 ⟨rfl, rfl⟩
    go_wp2_with fail
    refine (H6.out _ hb).mono ?_
    rintro e w6 ⟨A6, c6, rfl, -, hb6⟩
    have hb := bTrans hb hb6
    go_wp2_with fail
    refine (H7.out _ hb).mono ?_
    rintro e w7 ⟨rfl, rfl⟩
    go_wp2_with fail
    refine (H8.out _ hb).mono ?_
    rintro e w8 ⟨rfl, hb8⟩
    have hb := bTrans hb hb8
    go_wp2_with fail
    refine (H9.out _ hb).mono ?_
    rintro e w9 ⟨rfl, hb9⟩
    have hb := bTrans hb hb9
    go_wp2_with fail
    refine (H10.out _ hb).mono ?_
    rintro e w10 ⟨rfl, hb10⟩
    have hb := bTrans hb hb10
    unfold str
    go_wp2_with fail
    refine (H11.out _ hb).mono ?_
    rintro e w11 ⟨A11, c11, rfl, -, hb11⟩
    have hb := bTrans hb hb11
    go_wp2_with fail
    refine (H13.out _ hb).mono ?_
    rintro e w13 ⟨rfl, rfl⟩
    go_wp2_with fail
    refine (H14.out _ hb).mono ?_
    rintro e w14 ⟨rfl, hb14⟩
    have hb := bTrans hb hb14
    go_wp2_with fail
    refine (H15.out _ hb).mono ?_
    rintro e w15 ⟨rfl, hb15⟩
    have hb := bTrans hb hb15
    go_wp2_with fail
    refine (H16.out _ hb).mono ?_
    rintro e w16 ⟨rfl, hb16⟩
    have hb := bTrans hb hb16
    go_wp2_with fail
    refine (H17.out _ hb).mono ?_
    rintro e w17 ⟨rfl, hb17⟩
    have hb := bTrans hb hb17
    go_wp2
    go_ret
    exact ⟨ret_bool (by simp), hb⟩
  · have hsm : smoothF f = x10 * 1000 / f 6 := by unfold smoothF; rw [if_neg h6, hx10]
    rw [hsm] at H17
    obtain ⟨s6, hs6⟩ : ∃ s6 : Nat, S.length = s6 := ⟨_, rfl⟩
    rw [hs6] at H11 e6
    rw [e6] at h6 b6 H17
    have hd : ((s6 : Int) == 0) = false := by simpa using h6
    have hpos : (0 : Int) < s6 := by omega
    have hwr : IntKind.i64.wrap (1000 * x10) = x10 * 1000 := by rw [IntKind.wrap_i64]; omega
    have hnn : 0 ≤ x10 * 1000 := by omega
    have htd : (x10 * 1000).tdiv s6 = x10 * 1000 / s6 := Int.tdiv_eq_ediv_of_nonneg hnn
    have hq : 0 ≤ x10 * 1000 / (s6 : Int) ∧ x10 * 1000 / (s6 : Int) ≤ x10 * 1000 := ⟨Int.ediv_nonneg hnn (by omega), Int.ediv_le_self _ hnn⟩
    have hwq : IntKind.i64.wrap (x10 * 1000 / (s6 : Int)) = x10 * 1000 / s6 := by rw [IntKind.wrap_i64]; omega
    clear hf ha hs ht hr hin hc hc1 hc2 F R I hT hK hS hL hSH hx1 hx2 hx3 hx4 hx10 hsm e6 h6 h0 hs6
    go_enter Tryd.func10, Tryd.ntmps10
    go_wp2_with fail
    refine (H1.out _ (Below.refl _ _)).mono ?_
    rintro e w1 ⟨rfl, hb⟩
    go_wp2_with fail
    refine (H2.out _ hb).mono ?_
    rintro e w2 ⟨rfl, hb2⟩
    have hb := bTrans hb hb2
    go_wp2_with fail
    refine (H3.out _ hb).mono ?_
    rintro e w3 ⟨rfl, rfl⟩
    go_wp2_with fail
    refine (H4.out _ hb).mono ?_
    rintro e w4 ⟨rfl, rfl⟩
    go_wp2_with fail
    refine (H5.out _ hb).mono ?_
    rintro e w5 ⟨rfl, rfl⟩
    go_wp2_with fail
    refine (H6.out _ hb).mono ?_
    rintro e w6 ⟨A6, c6, rfl, -, hb6⟩
    have hb := bTrans hb hb6
    go_wp2_with fail
    refine (H7.out _ hb).mono ?_
    rintro e w7 ⟨rfl, rfl⟩
    go_wp2_with fail
    refine (H8.out _ hb).mono ?_
    rintro e w8 ⟨rfl, hb8⟩
    have hb := bTrans hb hb8
    go_wp2_with fail
    refine (H9.out _ hb).mono ?_
    rintro e w9 ⟨rfl, hb9⟩
    have hb := bTrans hb hb9
    go_wp2_with fail
    refine (H10.out _ hb).mono ?_
    rintro e w10 ⟨rfl, hb10⟩
    have hb := bTrans hb hb10
    unfold str
    go_wp2_with fail
    refine (H11.out _ hb).mono ?_
    rintro e w11 ⟨A11, c11, rfl, -, hb11⟩
    have hb := bTrans hb hb11
    go_wp2_with fail
    refine (H12.out _ hb).mono ?_
    rintro e w12 ⟨rfl, hb12⟩
    have hb := bTrans hb hb12
    go_wp2_with fail
    refine (H13.out _ hb).mono ?_
    rintro e w13 ⟨rfl, rfl⟩
    go_wp2_with fail
    refine (H14.out _ hb).mono ?_
    rintro e w14 ⟨rfl, hb14⟩
    have hb := bTrans hb hb14
    go_wp2_with fail
    refine (H15.out _ hb).mono ?_
    rintro e w15 ⟨rfl, hb15⟩
    have hb := bTrans hb hb15
    go_wp2_with fail
    refine (H16.out _ hb).mono ?_
    rintro e w16 ⟨rfl, hb16⟩
    have hb := bTrans hb hb16
    go_wp2_with fail
    refine (H17.out _ hb).mono ?_
    rintro e w17 ⟨rfl, hb17⟩
    have hb := bTrans hb hb17
    go_wp2
    go_ret
    exact ⟨ret_bool (by simp), hb⟩
end Go.Proofs.YtnepjdpifbjiiaaDoor
