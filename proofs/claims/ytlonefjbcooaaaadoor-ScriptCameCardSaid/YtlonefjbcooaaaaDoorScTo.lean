/-
  script.told: a move's line.
-/
import Derived.Test.YtlonefjbcooaaaaDoorScLn
namespace Go.Proofs.YtlonefjbcooaaaaDoor
open Go.RowKit
set_option maxRecDepth 100000
set_option linter.unusedSimpArgs false
theorem name_len (j : Nat) : (nmR.getD j []).length ≤ 21 := by
  rcases j with _ | _ | _ | _ | _ | _ | _ | j <;> first | decide | (simp [nmR])
set_option maxHeartbeats 8000000 in
theorem told_any (m : Mo) (hf : m.Fits) (w : World) (h : ScW w w.heap.size) :
    Calls Tryd.prog 24 #[.agg m.cells.toArray] w fun e w' => e = .returned (.string ⟨(toldL m).toArray⟩) ∧ Below w.heap.size w w' := by
  have HT : Hid (toldL m = if 1 ≤ m.kind ∧ m.kind ≤ 6 then lineL (nmR.getD m.kind.toNat []) m.nums else []) := Lib.hid rfl
  obtain ⟨tl, htl⟩ : ∃ tl, toldL m = tl := ⟨_, rfl⟩
  rw [htl] at HT ⊢
  clear htl
  have HN : Hid (m.nums = m.who :: (if m.kind = 1 then [m.in_] else if m.kind = 5 then [m.i, m.at_, m.by_] else if m.kind = 6 then [] else [m.i])) := Lib.hid rfl
  obtain ⟨k, who, i, a, b, n⟩ := m
  obtain ⟨hb0, hb1, hn0, hn1, hk64, hw64, hi64, ha64⟩ := hf
  simp only at hb0 hb1 hn0 hn1 hk64 hw64 hi64 ha64
  simp only [Mo.cells]
  have HW := Lib.hid h
  obtain ⟨hkl, hku⟩ := hk64
  have hB64 : IL64 b := ⟨by omega, by omega⟩
  have hN64 : IL64 n := ⟨by omega, by omega⟩
  clear h
  go_enter Tryd.func24, Tryd.ntmps24
  go_upto_region 1 with fail
  refine named1 (F := fun W => Code.wp _ _ _ _ W) ?_
  intro w1 k1 hb1' hz1
  have c0 := k1.cell 0
  have c1 := k1.cell 1
  have c2 := k1.cell 2
  have c3 := k1.cell 3
  have c4 := k1.cell 4
  have c5 := k1.cell 5
  have kl := k1.lt
  simp only [List.getElem?_toArray, List.getElem?_cons_zero, List.getElem?_cons_succ] at c0 c1 c2 c3 c4 c5
  have K1 := Lib.hid k1
  have HB1 := Lib.hid hb1'
  have HW1 := Lib.hid (HW.out.on hb1')
  clear k1 hb1' hz1
  by_cases hk : 1 ≤ k ∧ k ≤ 6
  case neg =>
    have HX : Hid (tl = []) := Lib.hid (by rw [HT.out]; exact if_neg hk)
    by_cases hk1 : k < 1
    · go_wp2
      go_ret
      exact ⟨by rw [HX.out]; rfl, HB1.out⟩
    · have hk7 : 7 ≤ k := by omega
      go_wp2
      go_ret
      exact ⟨by rw [HX.out]; rfl, HB1.out⟩
  case pos =>
  obtain ⟨j, hj6, rfl⟩ : ∃ j : Nat, j < 6 ∧ k = ((j + 1 : Nat) : Int) := ⟨(k - 1).toNat, by omega, by omega⟩
  obtain ⟨nm, hnm⟩ : ∃ nm, nmR.getD (j + 1) [] = nm := ⟨_, rfl⟩
  have HTL : Hid (tl = lineL nm (Mo.nums ⟨((j + 1 : Nat) : Int), who, i, a, b, n⟩)) := Lib.hid (by rw [HT.out, if_pos hk, ← hnm]; rfl)
  have HNL : Hid (nm.length ≤ 21) := Lib.hid (by rw [← hnm]; exact name_len _)
  have HNM := Lib.hid hnm
  have hlow := HW1.out.low
  clear hnm HT hk hkl hku
  go_upto_region 4 with fail
  have hO2 : OwnL (w1.alloc (.cells #[.int .i64 who] 3)) w.heap.size 3 1 (.slice (some ⟨w1.heap.size, 0, none⟩) 1 1) zF [who] := OwnL.lit [who] _ (by omega) (by simp [maxLen]) zF_length rfl rfl rfl
  have hK2 := K1.out.alloc (.cells #[.int .i64 who] 3)
  have hB2 := bAlloc HB1.out (.cells #[.int .i64 who] 3)
  obtain ⟨w2, hw2⟩ : ∃ w2, w1.alloc (.cells #[.int .i64 who] 3) = w2 := ⟨_, rfl⟩
  rw [hw2] at hO2 hK2 hB2 ⊢
  have hz12 : w1.heap.size < w2.heap.size := by rw [← hw2]; simp
  have HO2 := Lib.hid hO2
  have K2 := Lib.hid hK2
  have HB2 := Lib.hid hB2
  clear hw2 hO2 hB2 K1 HB1 HW1 c0 c1 c2 c3 c4 c5
  have c0 := hK2.cell 0
  have c1 := hK2.cell 1
  have c2 := hK2.cell 2
  have c3 := hK2.cell 3
  have c4 := hK2.cell 4
  have c5 := hK2.cell 5
  simp only [List.getElem?_toArray, List.getElem?_cons_zero, List.getElem?_cons_succ] at c0 c1 c2 c3 c4 c5
  have hwl : w.heap.size < w2.heap.size := by omega
  clear hK2
  clear HN
  obtain ⟨kk, hkk⟩ : ∃ kk : Int, ((j + 1 : Nat) : Int) = kk := ⟨_, rfl⟩
  rw [hkk] at K2 c0
  rcases j with _ | _ | _ | _ | _ | _ | j
  · obtain rfl : kk = 1 := by omega
    have HX : Hid (tl = lineL nm [who, n]) := Lib.hid HTL.out
    clear HTL hkk
    go_wp2_with (first
      | (at_builtin; refine wpList_app appZ rfl (.tmp 19) (.tmp 23) rfl w.heap.size _ [who] [n] (HO2.out.alloc _) rfl _ _ 1 1 rfl rfl (rd_new w2 _ 3 _ rfl (w2.heap.size + 1) (Nat.lt_succ_self _)) (by simp) (by simp; omega) ?_
         intro A8 c8 n8 w8 hn8 ho8 hg8
         obtain rfl : n8 = 2 := hn8.out
         have HO8 := Lib.hid ho8
         have hk8 : Blk w8 w.heap.size 40 _ := (K2.out.alloc _).keptApart (HO2.out.alloc _) (by decide) hg8
         have hb8 : Below w.heap.size w w8 := (bAlloc HB2.out _).grown hg8 (by simp; omega) (fun q e => HO2.out.base_le q e)
         have d0 := hk8.cell 0
         simp only [List.getElem?_toArray, List.getElem?_cons_zero] at d0
         have HB8 := Lib.hid hb8
         have hl8 := hk8.lt
         have hnm8 := (HW.out.on hb8).nm 1 (by decide)
         have hlo8 := (HW.out.on hb8).low
         rw [HNM.out] at hnm8
         unfold str at hnm8
         clear ho8 hg8 hk8 hb8 c0 c1 c2 c3 c4 c5)
      | (go_at_call 21; refine (line_any nm _ _ [who, n] _ (by simp) HNL.out (by intro q hq; simp at hq; rcases hq with rfl | rfl <;> assumption) HO8.out.rd (HW.out.on HB8.out)).mono ?_; rintro e w9 ⟨rfl, hb9⟩; have HB9 := Lib.hid (bTrans HB8.out hb9); clear hb9))
    go_ret
    exact ⟨by rw [HX.out]; rfl, HB9.out⟩
  · obtain rfl : kk = 2 := by omega
    have HX : Hid (tl = lineL nm [who, i]) := Lib.hid HTL.out
    clear HTL hkk
    go_wp2_with (first
      | (at_builtin; refine wpList_app appZ rfl (.tmp 41) (.tmp 44) rfl w.heap.size _ [who] [i] (HO2.out.alloc _) rfl _ _ 1 1 rfl rfl (rd_new w2 _ 3 _ rfl (w2.heap.size + 1) (Nat.lt_succ_self _)) (by simp) (by simp; omega) ?_
         intro A8 c8 n8 w8 hn8 ho8 hg8
         obtain rfl : n8 = 2 := hn8.out
         have HO8 := Lib.hid ho8
         have hk8 : Blk w8 w.heap.size 40 _ := (K2.out.alloc _).keptApart (HO2.out.alloc _) (by decide) hg8
         have hb8 : Below w.heap.size w w8 := (bAlloc HB2.out _).grown hg8 (by simp; omega) (fun q e => HO2.out.base_le q e)
         have d0 := hk8.cell 0
         simp only [List.getElem?_toArray, List.getElem?_cons_zero] at d0
         have HB8 := Lib.hid hb8
         have hl8 := hk8.lt
         have hnm8 := (HW.out.on hb8).nm 2 (by decide)
         have hlo8 := (HW.out.on hb8).low
         rw [HNM.out] at hnm8
         unfold str at hnm8
         clear ho8 hg8 hk8 hb8 c0 c1 c2 c3 c4 c5)
      | (go_at_call 21; refine (line_any nm _ _ [who, i] _ (by simp) HNL.out (by intro q hq; simp at hq; rcases hq with rfl | rfl <;> assumption) HO8.out.rd (HW.out.on HB8.out)).mono ?_; rintro e w9 ⟨rfl, hb9⟩; have HB9 := Lib.hid (bTrans HB8.out hb9); clear hb9))
    go_ret
    exact ⟨by rw [HX.out]; rfl, HB9.out⟩
  · obtain rfl : kk = 3 := by omega
    have HX : Hid (tl = lineL nm [who, i]) := Lib.hid HTL.out
    clear HTL hkk
    go_wp2_with (first
      | (at_builtin; refine wpList_app appZ rfl (.tmp 41) (.tmp 44) rfl w.heap.size _ [who] [i] (HO2.out.alloc _) rfl _ _ 1 1 rfl rfl (rd_new w2 _ 3 _ rfl (w2.heap.size + 1) (Nat.lt_succ_self _)) (by simp) (by simp; omega) ?_
         intro A8 c8 n8 w8 hn8 ho8 hg8
         obtain rfl : n8 = 2 := hn8.out
         have HO8 := Lib.hid ho8
         have hk8 : Blk w8 w.heap.size 40 _ := (K2.out.alloc _).keptApart (HO2.out.alloc _) (by decide) hg8
         have hb8 : Below w.heap.size w w8 := (bAlloc HB2.out _).grown hg8 (by simp; omega) (fun q e => HO2.out.base_le q e)
         have d0 := hk8.cell 0
         simp only [List.getElem?_toArray, List.getElem?_cons_zero] at d0
         have HB8 := Lib.hid hb8
         have hl8 := hk8.lt
         have hnm8 := (HW.out.on hb8).nm 3 (by decide)
         have hlo8 := (HW.out.on hb8).low
         rw [HNM.out] at hnm8
         unfold str at hnm8
         clear ho8 hg8 hk8 hb8 c0 c1 c2 c3 c4 c5)
      | (go_at_call 21; refine (line_any nm _ _ [who, i] _ (by simp) HNL.out (by intro q hq; simp at hq; rcases hq with rfl | rfl <;> assumption) HO8.out.rd (HW.out.on HB8.out)).mono ?_; rintro e w9 ⟨rfl, hb9⟩; have HB9 := Lib.hid (bTrans HB8.out hb9); clear hb9))
    go_ret
    exact ⟨by rw [HX.out]; rfl, HB9.out⟩
  · obtain rfl : kk = 4 := by omega
    have HX : Hid (tl = lineL nm [who, i]) := Lib.hid HTL.out
    clear HTL hkk
    go_wp2_with (first
      | (at_builtin; refine wpList_app appZ rfl (.tmp 41) (.tmp 44) rfl w.heap.size _ [who] [i] (HO2.out.alloc _) rfl _ _ 1 1 rfl rfl (rd_new w2 _ 3 _ rfl (w2.heap.size + 1) (Nat.lt_succ_self _)) (by simp) (by simp; omega) ?_
         intro A8 c8 n8 w8 hn8 ho8 hg8
         obtain rfl : n8 = 2 := hn8.out
         have HO8 := Lib.hid ho8
         have hk8 : Blk w8 w.heap.size 40 _ := (K2.out.alloc _).keptApart (HO2.out.alloc _) (by decide) hg8
         have hb8 : Below w.heap.size w w8 := (bAlloc HB2.out _).grown hg8 (by simp; omega) (fun q e => HO2.out.base_le q e)
         have d0 := hk8.cell 0
         simp only [List.getElem?_toArray, List.getElem?_cons_zero] at d0
         have HB8 := Lib.hid hb8
         have hl8 := hk8.lt
         have hnm8 := (HW.out.on hb8).nm 4 (by decide)
         have hlo8 := (HW.out.on hb8).low
         rw [HNM.out] at hnm8
         unfold str at hnm8
         clear ho8 hg8 hk8 hb8 c0 c1 c2 c3 c4 c5)
      | (go_at_call 21; refine (line_any nm _ _ [who, i] _ (by simp) HNL.out (by intro q hq; simp at hq; rcases hq with rfl | rfl <;> assumption) HO8.out.rd (HW.out.on HB8.out)).mono ?_; rintro e w9 ⟨rfl, hb9⟩; have HB9 := Lib.hid (bTrans HB8.out hb9); clear hb9))
    go_ret
    exact ⟨by rw [HX.out]; rfl, HB9.out⟩
  · obtain rfl : kk = 5 := by omega
    have HX : Hid (tl = lineL nm [who, i, a, b]) := Lib.hid HTL.out
    clear HTL hkk
    go_wp2_with (first
      | (at_builtin; refine wpList_app appZ rfl (.tmp 27) (.tmp 35) rfl w.heap.size _ [who] [i, a, b] (HO2.out.alloc _) rfl _ _ 3 3 rfl rfl (rd_new w2 _ 3 _ rfl (w2.heap.size + 1) (Nat.lt_succ_self _)) (by simp) (by simp; omega) ?_
         intro A8 c8 n8 w8 hn8 ho8 hg8
         obtain rfl : n8 = 4 := hn8.out
         have HO8 := Lib.hid ho8
         have hk8 : Blk w8 w.heap.size 40 _ := (K2.out.alloc _).keptApart (HO2.out.alloc _) (by decide) hg8
         have hb8 : Below w.heap.size w w8 := (bAlloc HB2.out _).grown hg8 (by simp; omega) (fun q e => HO2.out.base_le q e)
         have d0 := hk8.cell 0
         simp only [List.getElem?_toArray, List.getElem?_cons_zero] at d0
         have HB8 := Lib.hid hb8
         have hl8 := hk8.lt
         have hnm8 := (HW.out.on hb8).nm 5 (by decide)
         have hlo8 := (HW.out.on hb8).low
         rw [HNM.out] at hnm8
         unfold str at hnm8
         clear ho8 hg8 hk8 hb8 c0 c1 c2 c3 c4 c5)
      | (go_at_call 21; refine (line_any nm _ _ [who, i, a, b] _ (by simp) HNL.out (by intro q hq; simp at hq; rcases hq with rfl | rfl | rfl | rfl <;> assumption) HO8.out.rd (HW.out.on HB8.out)).mono ?_; rintro e w9 ⟨rfl, hb9⟩; have HB9 := Lib.hid (bTrans HB8.out hb9); clear hb9))
    go_ret
    exact ⟨by rw [HX.out]; rfl, HB9.out⟩
  · obtain rfl : kk = 6 := by omega
    have HX : Hid (tl = lineL nm [who]) := Lib.hid HTL.out
    have hnm8 := (HW.out.on HB2.out).nm 6 (by decide)
    have hlo8 := (HW.out.on HB2.out).low
    rw [HNM.out] at hnm8
    unfold str at hnm8
    clear HTL hkk
    go_wp2_with (go_at_call 21; refine (line_any nm _ _ [who] _ (by simp) HNL.out (by intro q hq; simp at hq; subst hq; assumption) HO2.out.rd (HW.out.on HB2.out)).mono ?_; rintro e w9 ⟨rfl, hb9⟩; have HB9 := Lib.hid (bTrans HB2.out hb9); clear hb9)
    go_ret
    exact ⟨by rw [HX.out]; rfl, HB9.out⟩
  · omega
end Go.Proofs.YtlonefjbcooaaaaDoor
