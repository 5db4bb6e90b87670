/-
  The document's Line.
-/
import Derived.Test.YtlonefjbcooaaaaDoorScHd
namespace Go.Proofs.YtlonefjbcooaaaaDoor
open Go.RowKit
set_option maxRecDepth 100000
set_option linter.unusedSimpArgs false
/-- What Line hands back. -/
def LiQ (m : Mo) (w : World) (e : Ending) (w' : World) : Prop := (∃ x : List UInt8, e = .returned (.tuple #[.string ⟨x.toArray⟩, .bool m.ok]) ∧ (m.ok = true → x = toldL m) ∧ x.length ≤ 200) ∧ Below w.heap.size w w'
theorem LiQ.bad {m : Mo} {w w' : World} {e : Ending} (h : m.ok = false) (he : e = .returned (.tuple #[.string ⟨#[]⟩, .bool false])) (hb : Below w.heap.size w w') : LiQ m w e w' := by
  refine ⟨⟨[], ?_, fun e => (by rw [h] at e; cases e), by simp⟩, hb⟩
  rw [he, h]
theorem LiQ.good {m : Mo} {w w' : World} {e : Ending} {x : ByteArray} (h : m.ok = true) (he : e = .returned (.tuple #[.string x, .bool true])) (hx : x = ⟨(toldL m).toArray⟩) (hl : (toldL m).length ≤ 200) (hb : Below w.heap.size w w') : LiQ m w e w' := by
  refine ⟨⟨toldL m, ?_, fun _ => rfl, hl⟩, hb⟩
  rw [he, h, hx]
theorem small_u8 {n : Int} (h0 : 0 ≤ n) (h1 : n < 256) : smallB n = true := by
  simp only [smallB, Bool.and_eq_true, decide_eq_true_eq]; omega
set_option maxHeartbeats 16000000 in
theorem rline_any (m : Mo) (hf : m.Fits) (w : World) : Calls Tryd.prog 12 #[.agg m.cells.toArray] w (LiQ m w) := by
  obtain ⟨k, who, i, a, b, n⟩ := m
  obtain ⟨hb0, hb1, hn0, hn1, k64, w64, i64, a64⟩ := hf
  simp only at hb0 hb1 hn0 hn1 k64 w64 i64 a64
  simp only [Mo.cells]
  obtain ⟨hkl, hku⟩ := k64
  have g4 := small_u8 hb0 hb1
  have g5 := small_u8 hn0 hn1
  go_enter Tryd.func12, Tryd.ntmps12
  go_upto_region 1 with fail
  refine named1 (F := fun W => Code.wp _ _ _ _ W) ?_
  intro w1 k1 hb1' hz1
  have c0 := k1.cell 0
  have c1 := k1.cell 1
  have c2 := k1.cell 2
  have c3 := k1.cell 3
  have c4 := k1.cell 4
  have c5 := k1.cell 5
  have kl := k1.lt
  simp only [List.getElem?_toArray, List.getElem?_cons_zero, List.getElem?_cons_succ] at c0 c1 c2 c3 c4 c5
  have HB1 := Lib.hid hb1'
  clear k1 hb1' hz1
  by_cases hk1 : k < 1
  case pos =>
    have hh : decide (1 ≤ k) = false := decide_eq_false (by omega)
    go_wp2_with (go_at_call 27; refine (small_any _ _).mono ?_; rintro e w' ⟨rfl, rfl⟩)
    all_goals
      go_ret2
      exact LiQ.bad (by dsimp only [Mo.ok]; rw [hh]; simp) rfl HB1.out
  case neg =>
  by_cases hk6 : 6 < k
  case pos =>
    have hh : decide (k ≤ 6) = false := decide_eq_false (by omega)
    go_wp2_with (go_at_call 27; refine (small_any _ _).mono ?_; rintro e w' ⟨rfl, rfl⟩)
    all_goals
      go_ret2
      exact LiQ.bad (by dsimp only [Mo.ok]; rw [hh]; simp) rfl HB1.out
  case neg =>
  by_cases hs : smallB who = true
  case neg =>
    have g : smallB who = false := by simpa using hs
    clear hs
    go_wp2_with (go_at_call 27; refine (small_any _ _).mono ?_; rintro e w' ⟨rfl, rfl⟩)
    all_goals
      go_ret2
      exact LiQ.bad (by dsimp only [Mo.ok]; simp [g]) rfl HB1.out
  case pos =>
  have g1 := hs
  clear hs
  by_cases hs : smallB i = true
  case neg =>
    have g : smallB i = false := by simpa using hs
    clear hs
    go_wp2_with (go_at_call 27; refine (small_any _ _).mono ?_; rintro e w' ⟨rfl, rfl⟩)
    all_goals
      go_ret2
      exact LiQ.bad (by dsimp only [Mo.ok]; simp [g]) rfl HB1.out
  case pos =>
  have g2 := hs
  clear hs
  by_cases hs : smallB a = true
  case neg =>
    have g : smallB a = false := by simpa using hs
    clear hs
    go_wp2_with (go_at_call 27; refine (small_any _ _).mono ?_; rintro e w' ⟨rfl, rfl⟩)
    all_goals
      go_ret2
      exact LiQ.bad (by dsimp only [Mo.ok]; simp [g]) rfl HB1.out
  case pos =>
  have g3 := hs
  clear hs
  have D1 := Lib.hid (digS who g1)
  have D2 := Lib.hid (digS i g2)
  have D3 := Lib.hid (digS a g3)
  have D4 := Lib.hid (digS b g4)
  have D5 := Lib.hid (digS n g5)
  have l1' := itoaS_len who g1
  have l2' := itoaS_len i g2
  have l3' := itoaS_len a g3
  have l4' := itoaS_len b g4
  have l5' := itoaS_len n g5
  obtain ⟨j, hj6, hkj⟩ : ∃ j : Nat, j < 6 ∧ k = ((j + 1 : Nat) : Int) := ⟨(k - 1).toNat, by omega, by omega⟩
  clear hk1 hk6 hkl hku
  rcases j with _ | _ | _ | _ | _ | _ | j
  · obtain rfl : k = 1 := by omega
    clear hkj hj6
    by_cases hz : i = 0
    case neg =>
      have gz : (i != 0) = true := by rw [bne_iff_ne]; exact hz
      go_wp2_with (go_at_call 27; refine (small_any _ _).mono ?_; rintro e w' ⟨rfl, rfl⟩)
      all_goals
        go_ret2
        exact LiQ.bad (by dsimp only [Mo.ok]; simp [hz]) rfl HB1.out
    case pos =>
    subst hz
    by_cases hz : a = 0
    case neg =>
      have gz : (a != 0) = true := by rw [bne_iff_ne]; exact hz
      go_wp2_with (go_at_call 27; refine (small_any _ _).mono ?_; rintro e w' ⟨rfl, rfl⟩)
      all_goals
        go_ret2
        exact LiQ.bad (by dsimp only [Mo.ok]; simp [hz]) rfl HB1.out
    case pos =>
    subst hz
    by_cases hz : b = 0
    case neg =>
      have gz : (b != 0) = true := by rw [bne_iff_ne]; exact hz
      go_wp2_with (go_at_call 27; refine (small_any _ _).mono ?_; rintro e w' ⟨rfl, rfl⟩)
      all_goals
        go_ret2
        exact LiQ.bad (by dsimp only [Mo.ok]; simp [hz]) rfl HB1.out
    case pos =>
    subst hz
    obtain ⟨qn, hqn⟩ : ∃ q : Bool, (n != 0) = q := ⟨_, rfl⟩
    cases qn
    all_goals
      have HE : Hid (toldL ⟨1, who, 0, 0, 0, n⟩ = [116, 105, 99, 107, 32] ++ (Lib.itoa who ++ ([32] ++ Lib.itoa n))) := Lib.hid (by simp [toldL, lineL, Mo.nums, nmR, Lib.join_cons, Lib.joinTail])
      have HOK : Hid (Mo.ok ⟨1, who, 0, 0, 0, n⟩ = true) := Lib.hid (by simp [Mo.ok, g1, g2, g3])
      have HTL := Lib.hid (Nat.le_trans (told_len ⟨1, who, 0, 0, 0, n⟩ ⟨by simp <;> omega, by simp <;> omega, by simp <;> omega, by simp <;> omega, ⟨by simp, by simp⟩, w64, i64, a64⟩) (by decide : 110 ≤ 200))
      go_upto_region 5 with (go_at_call 27; refine (small_any _ _).mono ?_; rintro e w' ⟨rfl, rfl⟩)
      refine named1 (F := fun W => Code.wp _ _ _ _ W) ?_
      intro w2 k2 hb2 hz2
      have x2 := k2.cell 0
      have l2 := k2.lt
      have f1 := (hb2.cell (p := ⟨w.heap.size, 1, none⟩) kl).trans c1
      have f2 := (hb2.cell (p := ⟨w.heap.size, 2, none⟩) kl).trans c2
      have f3 := (hb2.cell (p := ⟨w.heap.size, 3, none⟩) kl).trans c3
      have f4 := (hb2.cell (p := ⟨w.heap.size, 4, none⟩) kl).trans c4
      have f5 := (hb2.cell (p := ⟨w.heap.size, 5, none⟩) kl).trans c5
      have kl2 : w.heap.size < w2.heap.size := by omega
      have HB2 := Lib.hid (bTrans HB1.out hb2)
      simp only [List.getElem?_toArray, List.getElem?_cons_zero, List.getElem?_cons_succ] at x2
      clear k2 hb2 hz2 c0 c1 c2 c3 c4 c5
      refine wp_region_mild (by kernel_rfl) (by kernel_rfl) ?_
      repeat (go_big_quiet_step ((go_at_call 28; (with_reducible exact mild_of (D1.out _)))))
      refine wpQuiet_nil ?_
      intro w3 hw'
      obtain ⟨⟨wq, k3⟩, hw''⟩ := hw'
      subst hw''
      have HB3 := Lib.hid (bTrans HB2.out k3)
      have q2 := (k3.cell (p := ⟨w.heap.size, 2, none⟩) kl2).trans f2
      have q3 := (k3.cell (p := ⟨w.heap.size, 3, none⟩) kl2).trans f3
      have q4 := (k3.cell (p := ⟨w.heap.size, 4, none⟩) kl2).trans f4
      have q5 := (k3.cell (p := ⟨w.heap.size, 5, none⟩) kl2).trans f5
      have kl3 : w.heap.size < w3.heap.size := Nat.lt_of_lt_of_le kl2 k3.size
      clear k3 x2 l2 f1 f2 f3 f4 f5
      go_wp2_with (go_at_call 28; refine (D5.out _).mono ?_; rintro e w9 ⟨rfl, hb9⟩; have HB9 := Lib.hid hb9; clear hb9)
      go_ret2
      exact LiQ.good HOK.out rfl (by rw [HE.out]; simp only [str_append, ← List.append_assoc]) HTL.out (bTrans HB3.out HB9.out)
  · obtain rfl : k = 2 := by omega
    clear hkj hj6
    by_cases hz : n = 0
    case neg =>
      have gz : (n != 0) = true := by rw [bne_iff_ne]; exact hz
      go_wp2_with (go_at_call 27; refine (small_any _ _).mono ?_; rintro e w' ⟨rfl, rfl⟩)
      all_goals
        go_ret2
        exact LiQ.bad (by dsimp only [Mo.ok]; simp [hz]) rfl HB1.out
    case pos =>
    subst hz
    by_cases hz : a = 0
    case neg =>
      have gz : (a != 0) = true := by rw [bne_iff_ne]; exact hz
      go_wp2_with (go_at_call 27; refine (small_any _ _).mono ?_; rintro e w' ⟨rfl, rfl⟩)
      all_goals
        go_ret2
        exact LiQ.bad (by dsimp only [Mo.ok]; simp [hz]) rfl HB1.out
    case pos =>
    subst hz
    by_cases hz : b = 0
    case neg =>
      have gz : (b != 0) = true := by rw [bne_iff_ne]; exact hz
      go_wp2_with (go_at_call 27; refine (small_any _ _).mono ?_; rintro e w' ⟨rfl, rfl⟩)
      all_goals
        go_ret2
        exact LiQ.bad (by dsimp only [Mo.ok]; simp [hz]) rfl HB1.out
    case pos =>
    subst hz
    obtain ⟨qi, hqi⟩ : ∃ q : Bool, (i != 0) = q := ⟨_, rfl⟩
    cases qi
    all_goals
      have HE : Hid (toldL ⟨2, who, i, 0, 0, 0⟩ = [116, 97, 107, 101, 32] ++ (Lib.itoa who ++ ([32] ++ Lib.itoa i))) := Lib.hid (by simp [toldL, lineL, Mo.nums, nmR, Lib.join_cons, Lib.joinTail])
      have HOK : Hid (Mo.ok ⟨2, who, i, 0, 0, 0⟩ = true) := Lib.hid (by simp [Mo.ok, g1, g2, g3])
      have HTL := Lib.hid (Nat.le_trans (told_len ⟨2, who, i, 0, 0, 0⟩ ⟨by simp <;> omega, by simp <;> omega, by simp <;> omega, by simp <;> omega, ⟨by simp, by simp⟩, w64, i64, a64⟩) (by decide : 110 ≤ 200))
      go_upto_region 5 with (go_at_call 27; refine (small_any _ _).mono ?_; rintro e w' ⟨rfl, rfl⟩)
      refine named1 (F := fun W => Code.wp _ _ _ _ W) ?_
      intro w2 k2 hb2 hz2
      have x2 := k2.cell 1
      have l2 := k2.lt
      have f1 := (hb2.cell (p := ⟨w.heap.size, 1, none⟩) kl).trans c1
      have f2 := (hb2.cell (p := ⟨w.heap.size, 2, none⟩) kl).trans c2
      have f3 := (hb2.cell (p := ⟨w.heap.size, 3, none⟩) kl).trans c3
      have f4 := (hb2.cell (p := ⟨w.heap.size, 4, none⟩) kl).trans c4
      have f5 := (hb2.cell (p := ⟨w.heap.size, 5, none⟩) kl).trans c5
      have kl2 : w.heap.size < w2.heap.size := by omega
      have HB2 := Lib.hid (bTrans HB1.out hb2)
      simp only [List.getElem?_toArray, List.getElem?_cons_zero, List.getElem?_cons_succ] at x2
      clear k2 hb2 hz2 c0 c1 c2 c3 c4 c5
      refine wp_region_mild (by kernel_rfl) (by kernel_rfl) ?_
      repeat (go_big_quiet_step ((go_at_call 28; (with_reducible exact mild_of (D1.out _)))))
      refine wpQuiet_nil ?_
      intro w3 hw'
      obtain ⟨⟨wq, k3⟩, hw''⟩ := hw'
      subst hw''
      have HB3 := Lib.hid (bTrans HB2.out k3)
      have q2 := (k3.cell (p := ⟨w.heap.size, 2, none⟩) kl2).trans f2
      have q3 := (k3.cell (p := ⟨w.heap.size, 3, none⟩) kl2).trans f3
      have q4 := (k3.cell (p := ⟨w.heap.size, 4, none⟩) kl2).trans f4
      have q5 := (k3.cell (p := ⟨w.heap.size, 5, none⟩) kl2).trans f5
      have kl3 : w.heap.size < w3.heap.size := Nat.lt_of_lt_of_le kl2 k3.size
      clear k3 x2 l2 f1 f2 f3 f4 f5
      go_wp2_with (go_at_call 28; refine (D2.out _).mono ?_; rintro e w9 ⟨rfl, hb9⟩; have HB9 := Lib.hid hb9; clear hb9)
      go_ret2
      exact LiQ.good HOK.out rfl (by rw [HE.out]; simp only [str_append, ← List.append_assoc]) HTL.out (bTrans HB3.out HB9.out)
  · obtain rfl : k = 3 := by omega
    clear hkj hj6
    by_cases hz : n = 0
    case neg =>
      have gz : (n != 0) = true := by rw [bne_iff_ne]; exact hz
      go_wp2_with (go_at_call 27; refine (small_any _ _).mono ?_; rintro e w' ⟨rfl, rfl⟩)
      all_goals
        go_ret2
        exact LiQ.bad (by dsimp only [Mo.ok]; simp [hz]) rfl HB1.out
    case pos =>
    subst hz
    by_cases hz : a = 0
    case neg =>
      have gz : (a != 0) = true := by rw [bne_iff_ne]; exact hz
      go_wp2_with (go_at_call 27; refine (small_any _ _).mono ?_; rintro e w' ⟨rfl, rfl⟩)
      all_goals
        go_ret2
        exact LiQ.bad (by dsimp only [Mo.ok]; simp [hz]) rfl HB1.out
    case pos =>
    subst hz
    by_cases hz : b = 0
    case neg =>
      have gz : (b != 0) = true := by rw [bne_iff_ne]; exact hz
      go_wp2_with (go_at_call 27; refine (small_any _ _).mono ?_; rintro e w' ⟨rfl, rfl⟩)
      all_goals
        go_ret2
        exact LiQ.bad (by dsimp only [Mo.ok]; simp [hz]) rfl HB1.out
    case pos =>
    subst hz
    obtain ⟨qi, hqi⟩ : ∃ q : Bool, (i != 0) = q := ⟨_, rfl⟩
    cases qi
    all_goals
      have HE : Hid (toldL ⟨3, who, i, 0, 0, 0⟩ = [99, 111, 112, 121, 32] ++ (Lib.itoa who ++ ([32] ++ Lib.itoa i))) := Lib.hid (by simp [toldL, lineL, Mo.nums, nmR, Lib.join_cons, Lib.joinTail])
      have HOK : Hid (Mo.ok ⟨3, who, i, 0, 0, 0⟩ = true) := Lib.hid (by simp [Mo.ok, g1, g2, g3])
      have HTL := Lib.hid (Nat.le_trans (told_len ⟨3, who, i, 0, 0, 0⟩ ⟨by simp <;> omega, by simp <;> omega, by simp <;> omega, by simp <;> omega, ⟨by simp, by simp⟩, w64, i64, a64⟩) (by decide : 110 ≤ 200))
      go_upto_region 5 with (go_at_call 27; refine (small_any _ _).mono ?_; rintro e w' ⟨rfl, rfl⟩)
      refine named1 (F := fun W => Code.wp _ _ _ _ W) ?_
      intro w2 k2 hb2 hz2
      have x2 := k2.cell 2
      have l2 := k2.lt
      have f1 := (hb2.cell (p := ⟨w.heap.size, 1, none⟩) kl).trans c1
      have f2 := (hb2.cell (p := ⟨w.heap.size, 2, none⟩) kl).trans c2
      have f3 := (hb2.cell (p := ⟨w.heap.size, 3, none⟩) kl).trans c3
      have f4 := (hb2.cell (p := ⟨w.heap.size, 4, none⟩) kl).trans c4
      have f5 := (hb2.cell (p := ⟨w.heap.size, 5, none⟩) kl).trans c5
      have kl2 : w.heap.size < w2.heap.size := by omega
      have HB2 := Lib.hid (bTrans HB1.out hb2)
      simp only [List.getElem?_toArray, List.getElem?_cons_zero, List.getElem?_cons_succ] at x2
      clear k2 hb2 hz2 c0 c1 c2 c3 c4 c5
      refine wp_region_mild (by kernel_rfl) (by kernel_rfl) ?_
      repeat (go_big_quiet_step ((go_at_call 28; (with_reducible exact mild_of (D1.out _)))))
      refine wpQuiet_nil ?_
      intro w3 hw'
      obtain ⟨⟨wq, k3⟩, hw''⟩ := hw'
      subst hw''
      have HB3 := Lib.hid (bTrans HB2.out k3)
      have q2 := (k3.cell (p := ⟨w.heap.size, 2, none⟩) kl2).trans f2
      have q3 := (k3.cell (p := ⟨w.heap.size, 3, none⟩) kl2).trans f3
      have q4 := (k3.cell (p := ⟨w.heap.size, 4, none⟩) kl2).trans f4
      have q5 := (k3.cell (p := ⟨w.heap.size, 5, none⟩) kl2).trans f5
      have kl3 : w.heap.size < w3.heap.size := Nat.lt_of_lt_of_le kl2 k3.size
      clear k3 x2 l2 f1 f2 f3 f4 f5
      go_wp2_with (go_at_call 28; refine (D2.out _).mono ?_; rintro e w9 ⟨rfl, hb9⟩; have HB9 := Lib.hid hb9; clear hb9)
      go_ret2
      exact LiQ.good HOK.out rfl (by rw [HE.out]; simp only [str_append, ← List.append_assoc]) HTL.out (bTrans HB3.out HB9.out)
  · obtain rfl : k = 4 := by omega
    clear hkj hj6
    by_cases hz : n = 0
    case neg =>
      have gz : (n != 0) = true := by rw [bne_iff_ne]; exact hz
      go_wp2_with (go_at_call 27; refine (small_any _ _).mono ?_; rintro e w' ⟨rfl, rfl⟩)
      all_goals
        go_ret2
        exact LiQ.bad (by dsimp only [Mo.ok]; simp [hz]) rfl HB1.out
    case pos =>
    subst hz
    by_cases hz : a = 0
    case neg =>
      have gz : (a != 0) = true := by rw [bne_iff_ne]; exact hz
      go_wp2_with (go_at_call 27; refine (small_any _ _).mono ?_; rintro e w' ⟨rfl, rfl⟩)
      all_goals
        go_ret2
        exact LiQ.bad (by dsimp only [Mo.ok]; simp [hz]) rfl HB1.out
    case pos =>
    subst hz
    by_cases hz : b = 0
    case neg =>
      have gz : (b != 0) = true := by rw [bne_iff_ne]; exact hz
      go_wp2_with (go_at_call 27; refine (small_any _ _).mono ?_; rintro e w' ⟨rfl, rfl⟩)
      all_goals
        go_ret2
        exact LiQ.bad (by dsimp only [Mo.ok]; simp [hz]) rfl HB1.out
    case pos =>
    subst hz
    obtain ⟨qi, hqi⟩ : ∃ q : Bool, (i != 0) = q := ⟨_, rfl⟩
    cases qi
    all_goals
      have HE : Hid (toldL ⟨4, who, i, 0, 0, 0⟩ = [100, 114, 111, 112, 32] ++ (Lib.itoa who ++ ([32] ++ Lib.itoa i))) := Lib.hid (by simp [toldL, lineL, Mo.nums, nmR, Lib.join_cons, Lib.joinTail])
      have HOK : Hid (Mo.ok ⟨4, who, i, 0, 0, 0⟩ = true) := Lib.hid (by simp [Mo.ok, g1, g2, g3])
      have HTL := Lib.hid (Nat.le_trans (told_len ⟨4, who, i, 0, 0, 0⟩ ⟨by simp <;> omega, by simp <;> omega, by simp <;> omega, by simp <;> omega, ⟨by simp, by simp⟩, w64, i64, a64⟩) (by decide : 110 ≤ 200))
      go_upto_region 5 with (go_at_call 27; refine (small_any _ _).mono ?_; rintro e w' ⟨rfl, rfl⟩)
      refine named1 (F := fun W => Code.wp _ _ _ _ W) ?_
      intro w2 k2 hb2 hz2
      have x2 := k2.cell 3
      have l2 := k2.lt
      have f1 := (hb2.cell (p := ⟨w.heap.size, 1, none⟩) kl).trans c1
      have f2 := (hb2.cell (p := ⟨w.heap.size, 2, none⟩) kl).trans c2
      have f3 := (hb2.cell (p := ⟨w.heap.size, 3, none⟩) kl).trans c3
      have f4 := (hb2.cell (p := ⟨w.heap.size, 4, none⟩) kl).trans c4
      have f5 := (hb2.cell (p := ⟨w.heap.size, 5, none⟩) kl).trans c5
      have kl2 : w.heap.size < w2.heap.size := by omega
      have HB2 := Lib.hid (bTrans HB1.out hb2)
      simp only [List.getElem?_toArray, List.getElem?_cons_zero, List.getElem?_cons_succ] at x2
      clear k2 hb2 hz2 c0 c1 c2 c3 c4 c5
      refine wp_region_mild (by kernel_rfl) (by kernel_rfl) ?_
      repeat (go_big_quiet_step ((go_at_call 28; (with_reducible exact mild_of (D1.out _)))))
      refine wpQuiet_nil ?_
      intro w3 hw'
      obtain ⟨⟨wq, k3⟩, hw''⟩ := hw'
      subst hw''
      have HB3 := Lib.hid (bTrans HB2.out k3)
      have q2 := (k3.cell (p := ⟨w.heap.size, 2, none⟩) kl2).trans f2
      have q3 := (k3.cell (p := ⟨w.heap.size, 3, none⟩) kl2).trans f3
      have q4 := (k3.cell (p := ⟨w.heap.size, 4, none⟩) kl2).trans f4
      have q5 := (k3.cell (p := ⟨w.heap.size, 5, none⟩) kl2).trans f5
      have kl3 : w.heap.size < w3.heap.size := Nat.lt_of_lt_of_le kl2 k3.size
      clear k3 x2 l2 f1 f2 f3 f4 f5
      go_wp2_with (go_at_call 28; refine (D2.out _).mono ?_; rintro e w9 ⟨rfl, hb9⟩; have HB9 := Lib.hid hb9; clear hb9)
      go_ret2
      exact LiQ.good HOK.out rfl (by rw [HE.out]; simp only [str_append, ← List.append_assoc]) HTL.out (bTrans HB3.out HB9.out)
  · obtain rfl : k = 5 := by omega
    clear hkj hj6
    by_cases hz : n = 0
    case neg =>
      have gz : (n != 0) = true := by rw [bne_iff_ne]; exact hz
      go_wp2_with (go_at_call 27; refine (small_any _ _).mono ?_; rintro e w' ⟨rfl, rfl⟩)
      all_goals
        go_ret2
        exact LiQ.bad (by dsimp only [Mo.ok]; simp [hz]) rfl HB1.out
    case pos =>
    subst hz
    obtain ⟨qi, hqi⟩ : ∃ q : Bool, (i != 0) = q := ⟨_, rfl⟩
    obtain ⟨qa, hqa⟩ : ∃ q : Bool, (a != 0) = q := ⟨_, rfl⟩
    obtain ⟨qb, hqb⟩ : ∃ q : Bool, (b != 0) = q := ⟨_, rfl⟩
    cases qi <;> cases qa <;> cases qb
    all_goals
      have HE : Hid (toldL ⟨5, who, i, a, b, 0⟩ = [115, 112, 111, 105, 108, 32] ++ (Lib.itoa who ++ ([32] ++ (Lib.itoa i ++ ([32] ++ (Lib.itoa a ++ ([32] ++ Lib.itoa b))))))) := Lib.hid (by simp [toldL, lineL, Mo.nums, nmR, Lib.join_cons, Lib.joinTail])
      have HOK : Hid (Mo.ok ⟨5, who, i, a, b, 0⟩ = true) := Lib.hid (by simp [Mo.ok, g1, g2, g3])
      have HTL := Lib.hid (Nat.le_trans (told_len ⟨5, who, i, a, b, 0⟩ ⟨by simp <;> omega, by simp <;> omega, by simp <;> omega, by simp <;> omega, ⟨by simp, by simp⟩, w64, i64, a64⟩) (by decide : 110 ≤ 200))
      go_upto_region 5 with (go_at_call 27; refine (small_any _ _).mono ?_; rintro e w' ⟨rfl, rfl⟩)
      refine named1 (F := fun W => Code.wp _ _ _ _ W) ?_
      intro w2 k2 hb2 hz2
      have x2 := k2.cell 4
      have l2 := k2.lt
      have f1 := (hb2.cell (p := ⟨w.heap.size, 1, none⟩) kl).trans c1
      have f2 := (hb2.cell (p := ⟨w.heap.size, 2, none⟩) kl).trans c2
      have f3 := (hb2.cell (p := ⟨w.heap.size, 3, none⟩) kl).trans c3
      have f4 := (hb2.cell (p := ⟨w.heap.size, 4, none⟩) kl).trans c4
      have f5 := (hb2.cell (p := ⟨w.heap.size, 5, none⟩) kl).trans c5
      have kl2 : w.heap.size < w2.heap.size := by omega
      have HB2 := Lib.hid (bTrans HB1.out hb2)
      simp only [List.getElem?_toArray, List.getElem?_cons_zero, List.getElem?_cons_succ] at x2
      clear k2 hb2 hz2 c0 c1 c2 c3 c4 c5
      refine wp_region_mild (by kernel_rfl) (by kernel_rfl) ?_
      repeat (go_big_quiet_step ((go_at_call 28; (with_reducible exact mild_of (D1.out _)))))
      refine wpQuiet_nil ?_
      intro w3 hw'
      obtain ⟨⟨wq, k3⟩, hw''⟩ := hw'
      subst hw''
      have HB3 := Lib.hid (bTrans HB2.out k3)
      have q2 := (k3.cell (p := ⟨w.heap.size, 2, none⟩) kl2).trans f2
      have q3 := (k3.cell (p := ⟨w.heap.size, 3, none⟩) kl2).trans f3
      have q4 := (k3.cell (p := ⟨w.heap.size, 4, none⟩) kl2).trans f4
      have q5 := (k3.cell (p := ⟨w.heap.size, 5, none⟩) kl2).trans f5
      have kl3 : w.heap.size < w3.heap.size := Nat.lt_of_lt_of_le kl2 k3.size
      clear k3 x2 l2 f1 f2 f3 f4 f5
      go_upto_region 11 with (go_at_call 28; refine (D2.out _).mono ?_; rintro e w9 ⟨rfl, hb9⟩; have HB9 := Lib.hid (bTrans HB3.out hb9); have y3 := (hb9.cell (p := ⟨w.heap.size, 3, none⟩) kl3).trans q3; have y4 := (hb9.cell (p := ⟨w.heap.size, 4, none⟩) kl3).trans q4; have kl9 := Nat.lt_of_lt_of_le kl3 hb9.size; clear hb9)
      clear q2 q3 q4 q5
      refine wp_region_mild (by kernel_rfl) (by kernel_rfl) ?_
      repeat (go_big_quiet_step ((go_at_call 28; first | (with_reducible exact mild_of (D3.out _)) | (with_reducible exact mild_of (D4.out _)))))
      refine wpQuiet_nil ?_
      intro w10 hw'
      obtain ⟨⟨wq, k10⟩, hw''⟩ := hw'
      subst hw''
      go_wp2
      go_ret2
      exact LiQ.good HOK.out rfl (by rw [HE.out]; simp only [str_append, ← List.append_assoc]) HTL.out (bTrans HB9.out k10)
  · obtain rfl : k = 6 := by omega
    clear hkj hj6
    by_cases hz : n = 0
    case neg =>
      have gz : (n != 0) = true := by rw [bne_iff_ne]; exact hz
      go_wp2_with (go_at_call 27; refine (small_any _ _).mono ?_; rintro e w' ⟨rfl, rfl⟩)
      all_goals
        go_ret2
        exact LiQ.bad (by dsimp only [Mo.ok]; simp [hz]) rfl HB1.out
    case pos =>
    subst hz
    by_cases hz : i = 0
    case neg =>
      have gz : (i != 0) = true := by rw [bne_iff_ne]; exact hz
      go_wp2_with (go_at_call 27; refine (small_any _ _).mono ?_; rintro e w' ⟨rfl, rfl⟩)
      all_goals
        go_ret2
        exact LiQ.bad (by dsimp only [Mo.ok]; simp [hz]) rfl HB1.out
    case pos =>
    subst hz
    by_cases hz : a = 0
    case neg =>
      have gz : (a != 0) = true := by rw [bne_iff_ne]; exact hz
      go_wp2_with (go_at_call 27; refine (small_any _ _).mono ?_; rintro e w' ⟨rfl, rfl⟩)
      all_goals
        go_ret2
        exact LiQ.bad (by dsimp only [Mo.ok]; simp [hz]) rfl HB1.out
    case pos =>
    subst hz
    by_cases hz : b = 0
    case neg =>
      have gz : (b != 0) = true := by rw [bne_iff_ne]; exact hz
      go_wp2_with (go_at_call 27; refine (small_any _ _).mono ?_; rintro e w' ⟨rfl, rfl⟩)
      all_goals
        go_ret2
        exact LiQ.bad (by dsimp only [Mo.ok]; simp [hz]) rfl HB1.out
    case pos =>
    subst hz
    all_goals
      have HE : Hid (toldL ⟨6, who, 0, 0, 0, 0⟩ = [108, 101, 97, 118, 101, 32] ++ Lib.itoa who) := Lib.hid (by simp [toldL, lineL, Mo.nums, nmR, Lib.join_cons, Lib.joinTail])
      have HOK : Hid (Mo.ok ⟨6, who, 0, 0, 0, 0⟩ = true) := Lib.hid (by simp [Mo.ok, g1, g2, g3])
      have HTL := Lib.hid (Nat.le_trans (told_len ⟨6, who, 0, 0, 0, 0⟩ ⟨by simp <;> omega, by simp <;> omega, by simp <;> omega, by simp <;> omega, ⟨by simp, by simp⟩, w64, i64, a64⟩) (by decide : 110 ≤ 200))
      go_upto_region 5 with (go_at_call 27; refine (small_any _ _).mono ?_; rintro e w' ⟨rfl, rfl⟩)
      refine named1 (F := fun W => Code.wp _ _ _ _ W) ?_
      intro w2 k2 hb2 hz2
      have x2 := k2.cell 5
      have l2 := k2.lt
      have f1 := (hb2.cell (p := ⟨w.heap.size, 1, none⟩) kl).trans c1
      have f2 := (hb2.cell (p := ⟨w.heap.size, 2, none⟩) kl).trans c2
      have f3 := (hb2.cell (p := ⟨w.heap.size, 3, none⟩) kl).trans c3
      have f4 := (hb2.cell (p := ⟨w.heap.size, 4, none⟩) kl).trans c4
      have f5 := (hb2.cell (p := ⟨w.heap.size, 5, none⟩) kl).trans c5
      have kl2 : w.heap.size < w2.heap.size := by omega
      have HB2 := Lib.hid (bTrans HB1.out hb2)
      simp only [List.getElem?_toArray, List.getElem?_cons_zero, List.getElem?_cons_succ] at x2
      clear k2 hb2 hz2 c0 c1 c2 c3 c4 c5
      refine wp_region_mild (by kernel_rfl) (by kernel_rfl) ?_
      repeat (go_big_quiet_step ((go_at_call 28; (with_reducible exact mild_of (D1.out _)))))
      refine wpQuiet_nil ?_
      intro w3 hw'
      obtain ⟨⟨wq, k3⟩, hw''⟩ := hw'
      subst hw''
      have HB3 := Lib.hid (bTrans HB2.out k3)
      have q2 := (k3.cell (p := ⟨w.heap.size, 2, none⟩) kl2).trans f2
      have q3 := (k3.cell (p := ⟨w.heap.size, 3, none⟩) kl2).trans f3
      have q4 := (k3.cell (p := ⟨w.heap.size, 4, none⟩) kl2).trans f4
      have q5 := (k3.cell (p := ⟨w.heap.size, 5, none⟩) kl2).trans f5
      have kl3 : w.heap.size < w3.heap.size := Nat.lt_of_lt_of_le kl2 k3.size
      clear k3 x2 l2 f1 f2 f3 f4 f5
      go_wp2
      go_ret2
      exact LiQ.good HOK.out rfl (by rw [HE.out]; simp only [str_append, ← List.append_assoc]) HTL.out HB3.out
  · omega
end Go.Proofs.YtlonefjbcooaaaaDoor
