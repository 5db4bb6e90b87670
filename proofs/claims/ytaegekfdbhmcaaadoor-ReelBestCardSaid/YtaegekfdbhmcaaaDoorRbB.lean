/-
  The best cuts: the program's.
-/
import Derived.Test.YtaegekfdbhmcaaaDoorRbH
import Derived.Test.YtaegekfdbhmcaaaDoorRbR
import Derived.Test.YtaegekfdbhmcaaaDoorMix
import Derived.Deep.Cut
namespace Go.Proofs.YtaegekfdbhmcaaaDoor
open Go.RowKit
set_option maxRecDepth 100000
set_option linter.unusedSimpArgs false
theorem wpList_app_cut {w : World} {ops : Array Oper} {rest : List Oper} {o : Oper} {a : Act} {Q : Exit → Act → World → Prop} (hgd : o.guard = none) (s x : Operand)
    (ho : o.op = .call { callee := .builtin .append, args := #[s, x], argTypes := #[22, 22] })
    (base : Nat) (u : Value) (L M : List Cut) (hown : OwnL w base 48 3 u Cut.cells L) (hs : a.eval s = u)
    (B : Nat) (A : Option Addr) (m c : Nat) (hm : m = M.length) (hx : a.eval x = .slice A m c) (hr : Rd w B A (M.flatMap Cut.cells)) (hn : L.length + M.length ≤ 1000000000) (hbase : base ≤ w.heap.size)
    (h : ∀ A' c' n' w', Hid (n' = L.length + M.length) → OwnL w' base 48 3 (.slice A' n' c') Cut.cells (L ++ M) → w.grownBy w' u.ownBlock → wpList Tryd.prog ops Q rest (a.put o.dst (.slice A' n' c')) w') : wpList Tryd.prog ops Q (o :: rest) a w := by
  subst hm
  obtain ⟨i0, hi0, hz0, hz1, hz2⟩ := info_parts lgInfoCut
  refine wpList_append_rd hgd s x 22 ho base 48 i0 _ 3 24 Tryd.underlying22 hi0 hz0 hz1 hz2 rfl (by decide) u L.length (L.flatMap Cut.cells) hs hown B A M.length c (M.flatMap Cut.cells) hx (length_flatMap_const _ _ Cut.cells_length _) hr (rd_none Cut.cells_length (by decide) hr) (lg_oneCellC M) (by unfold maxLen; omega) (by omega) hbase ?_
  intro v' w' hw hg _
  have ho' : OwnL w' base 48 3 v' Cut.cells (L ++ M) := OwnL.app (n := L.length + M.length) rfl hw
  obtain ⟨A', c', rfl⟩ := ho'.shape
  refine h A' c' _ w' (Lib.hid (by rw [List.length_append])) ?_ hg
  exact ho'
theorem gz_le {f : Int} {M : List Cut} (h : ∀ c ∈ M, c.frm ≤ c.to_) (hf : 0 ≤ f) (k : Nat) : 0 ≤ (greedy f (M.take k)).2 ∧ (greedy f (M.take k)).2 ≤ f :=
  let q := greedy_bd f hf (M.take k) (fun c hc => h c (List.mem_of_mem_take hc)); ⟨q.1, q.2.1⟩
set_option maxHeartbeats 1000000 in
theorem best_no (A : Option Addr) (c : Nat) (L : List Cut) (f : Int) (w : World) (hn : L.length ≤ 1000) (hr : Rd w w.heap.size A (L.flatMap Cut.cells)) (hno : rightB (-1) L = false ∨ f < 0) :
    Calls Tryd.prog 6 #[.slice A L.length c, .int .i64 f] w fun e w' => e = .returned (.tuple #[.slice none 0 0, .int .i64 1]) ∧ Below w.heap.size w w' := by
  have HRI := Lib.hid (right_all A c L w hn hr)
  clear hr
  cases hq : rightB (-1) L with
  | false =>
    rw [hq] at HRI
    clear hq hno
    go_enter Tryd.func6, Tryd.ntmps6
    go_wp2_with (first | (go_at_call 7; refine HRI.out.mono ?_; rintro e w1 ⟨rfl, hb1⟩))
    go_ret2
    exact ⟨rfl, hb1⟩
  | true =>
    rw [hq] at HRI hno
    have hf : f < 0 := by
      rcases hno with h | h
      · cases h
      · exact h
    clear hq hno
    go_enter Tryd.func6, Tryd.ntmps6
    go_wp2_with (first | (go_at_call 7; refine HRI.out.mono ?_; rintro e w1 ⟨rfl, hb1⟩))
    go_ret2
    exact ⟨rfl, hb1⟩
theorem size_g (c : Cut) (w : World) (h0 : 0 ≤ c.frm) (h1 : c.frm ≤ c.to_) (h2 : c.to_ ≤ 1073741824) :
    Calls Tryd.prog 19 #[.agg #[.int .i64 c.frm, .int .i64 c.to_, .int .i64 c.weight]] w fun e w' => e = .returned (.int .i64 (c.to_ - c.frm)) ∧ Below w.heap.size w w' := size_any c w h0 h1 h2
set_option maxHeartbeats 8000000 in
theorem best_any (A : Option Addr) (c : Nat) (L : List Cut) (f : Int) (w : World) (hn : L.length ≤ 1000) (hr : Rd w w.heap.size A (L.flatMap Cut.cells)) (hR : RightL (-1) L) (hf : 0 ≤ f) (hf2 : f ≤ 9223372036854775807) :
    Calls Tryd.prog 6 #[.slice A L.length c, .int .i64 f] w fun e w' => ∃ A' c', e = .returned (.tuple #[.slice A' (bestL L f).length c', .int .i64 0]) ∧ OwnL w' w.heap.size 48 3 (.slice A' (bestL L f).length c') Cut.cells (bestL L f) ∧ Below w.heap.size w w' := by
  have HRI := Lib.hid (right_all A c L w hn hr)
  rw [(rightB_iff L (-1)).2 hR] at HRI
  obtain ⟨hbd, hpw⟩ := rightL_pair L _ hR
  have HPW := Lib.hid hpw
  have HBD := Lib.hid hbd
  have HR := Lib.hid hr
  have HF := Lib.hid hf
  have hf' : decide (f < 0) = false := by simpa using hf
  clear hr hR hpw hbd hf
  go_enter Tryd.func6, Tryd.ntmps6
  go_wp2_with (first
    | (go_at_call 7; refine HRI.out.mono ?_; rintro e w1 ⟨rfl, hb1⟩; have HB1 := Lib.hid hb1; clear hb1)
    | (go_at_call 17; refine (valsCut_any _ _ _ _).mono ?_; rintro e w2 ⟨rfl, hw2⟩
       have hb2 : Below w.heap.size w w2 := by rw [hw2]; exact bAlloc HB1.out _
       have hm2 : w2.cell? ⟨w1.heap.size, 0, none⟩ = some (.slice A L.length c) := by rw [hw2]; simp [go_sem]
       have HS := Lib.hid (sortedC_any heav swoH heav_swap 18 (enters_of Tryd.func18 (by kernel_rfl) rfl) heavier_any w1.heap.size A c L w2 (by omega) hm2 ((HR.out.below hb2 (Nat.le_refl _)).more hb2.size))
       have HB2 := Lib.hid hb2
       clear hw2 hb2 hm2)
    | (go_at_call 16; refine HS.out.mono ?_; rintro e w3 ⟨A3, c3, M, rfl, p1, p2, p3, p4⟩
       have HM := Lib.hid (heav_one HPW.out p1 (heavL_perm L) p2 (heavL_sorted L))
       have HP := Lib.hid p1
       have HO3 := Lib.hid p3
       have HB3 := Lib.hid (bTrans HB2.out p4)
       have HZ3 := Lib.hid (Nat.le_trans HB2.out.size (Nat.le_refl _))
       clear p1 p2 p3 p4))
  obtain ⟨m, hm⟩ : ∃ m, M.length = m := ⟨_, rfl⟩
  rw [hm] at HO3 ⊢
  have hml : m = L.length := by rw [← hm]; exact HP.out.length_eq
  have HMM := Lib.hid hm
  have hm1 : m ≤ 1000 := by omega
  clear hml
  have HBM := Lib.hid (fun x (hx : x ∈ M) => HBD.out x (HP.out.mem_iff.1 hx))
  have HGZ := Lib.hid (fun k => gz_le (M := M) (fun x hx => by have := HBM.out x hx; omega) HF.out k)
  have HGT := Lib.hid (fun k (hk : k < M.length) => greedy_take f M k hk)
  clear hm
  go_loopw [1, 6, 20] (fun fr out i wr => ∃ k : Nat, k ≤ m ∧ i = .int .i64 k ∧ fr = .int .i64 (greedy f (M.take k)).2 ∧ ∃ A' n' c', out = .slice A' n' c' ∧ Hid (OwnL wr w3.heap.size 48 3 (.slice A' n' c') Cut.cells (greedy f (M.take k)).1) ∧ Hid (Below w3.heap.size w3 wr)) (fun _ _ i _ => m - (intOf i).toNat)
  case atStart => exact ⟨0, Nat.zero_le _, rfl, rfl, none, 0, 0, rfl, Lib.hid OwnL.nil, Lib.hid (Below.refl _ _)⟩
  case round =>
    obtain ⟨k, hk, rfl, rfl, A4, n4, c4, rfl, HO, HB⟩ := hrel
    by_cases hlt : k < m
    · have hkM : k < M.length := by rw [HMM.out]; exact hlt
      obtain ⟨b, off, hA, hB, hc⟩ := (HO3.out.rd.below HB.out (Nat.le_refl _)).at_ Cut.cells_length (by omega) hkM
      subst hA
      have c0 := hc 0 _ rfl
      have c1 := hc 1 _ rfl
      have c2 := hc 2 _ rfl
      rw [Nat.add_zero] at c0
      have hblw := Nat.lt_of_lt_of_le hB HB.out.size
      have hgz := HGZ.out k
      have hgt := HGT.out k hkM
      obtain ⟨-, r2, r3, -, -⟩ := HBM.out M[k] (List.getElem_mem hkM)
      have r1 : 0 ≤ M[k].frm := by have := (HBM.out M[k] (List.getElem_mem hkM)).1; omega
      obtain ⟨x, hx⟩ : ∃ x, M[k] = x := ⟨_, rfl⟩
      rw [hx] at c0 c1 c2 hgt r1 r2 r3
      obtain ⟨G, z, hG⟩ : ∃ G z, greedy f (M.take k) = (G, z) := ⟨_, _, rfl⟩
      have hgl : G.length ≤ m := by
        have := (greedy_sub f (M.take k)).length_le
        rw [hG, List.length_take] at this
        simp only at this
        omega
      rw [hG] at HO hgz hgt ⊢
      dsimp only at HO hgz ⊢
      obtain ⟨z0, z1⟩ := hgz
      have HSZ := Lib.hid (fun V => size_g x V r1 (by omega) r3)
      have HGT2 := Lib.hid hgt
      have hx0 : 0 < x.to_ - x.frm := by omega
      have hx1 : x.to_ - x.frm ≤ 1073741824 := by omega
      have HNL : Hid (n4 = G.length) := Lib.hid HO.out.len
      have hn4 : n4 ≤ 1000 := by have := HNL.out; omega
      clear hc hx hG hgt
      by_cases hle : x.to_ - x.frm ≤ z
      · have HGS : Hid (greedy f (M.take (k + 1)) = (G ++ [x], z - (x.to_ - x.frm))) := Lib.hid (by rw [HGT2.out]; unfold gStep; rw [if_pos hle])
        go_upto_region 7 with fail
        obtain ⟨w5, hw5⟩ : ∃ w5, w5 = wr.alloc (.cells #[.int .i64 x.frm, .int .i64 x.to_, .int .i64 x.weight] 48) := ⟨_, rfl⟩
        have k5 : Blk w5 wr.heap.size 48 #[.int .i64 x.frm, .int .i64 x.to_, .int .i64 x.weight] := by rw [hw5]; exact Blk.new _ _ _
        have hg5 : Below wr.heap.size wr w5 := by rw [hw5]; exact bAlloc (Below.refl _ _) _
        rw [← hw5]
        clear hw5 c0 c1 c2 hblw
        have K5 := Lib.hid k5
        have HG5 := Lib.hid hg5
        have d0 := k5.cell 0
        have d1 := k5.cell 1
        have d2 := k5.cell 2
        simp only [List.getElem?_toArray, List.getElem?_cons_zero, List.getElem?_cons_succ] at d0 d1 d2
        have dl := k5.lt
        clear k5 hg5
        go_upto_region 8 with (first | (go_at_call 19; refine (HSZ.out _).mono ?_; rintro e w6 ⟨rfl, hb6⟩; have K6 := Lib.hid (K5.out.on hb6); have HG6 := Lib.hid (bTrans HG5.out hb6); clear hb6))
        clear d0 d1 d2 dl K5 HG5
        have d0 := K6.out.cell 0
        have d1 := K6.out.cell 1
        have d2 := K6.out.cell 2
        simp only [List.getElem?_toArray, List.getElem?_cons_zero, List.getElem?_cons_succ] at d0 d1 d2
        have dl := K6.out.lt
        go_upto_region 9 with (first | (go_at_call 19; refine (HSZ.out _).mono ?_; rintro e w7 ⟨rfl, hb7⟩; have K7 := Lib.hid (K6.out.on hb7); have HG7 := Lib.hid (bTrans HG6.out hb7); clear hb7))
        clear d0 d1 d2 dl K6 HG6
        have d0 := K7.out.cell 0
        have d1 := K7.out.cell 1
        have d2 := K7.out.cell 2
        simp only [List.getElem?_toArray, List.getElem?_cons_zero, List.getElem?_cons_succ] at d0 d1 d2
        have dl := K7.out.lt
        have HO7 := Lib.hid (HO.out.below HG7.out)
        have HZ7 := Lib.hid (Nat.le_trans HB.out.size HG7.out.size)
        go_wp2_with (first
          | (refine wpList_app_cut rfl (.tmp 32) (.tmp 34) rfl w3.heap.size (.slice A4 n4 c4) G [x] (HO7.out.alloc _) rfl (w7.heap.size + 1) (some ⟨w7.heap.size, 0, none⟩) 1 1 rfl rfl (lg_rd1 w7 x) (by have := HNL.out; simp; omega) (by have := HZ7.out; simp; omega) ?_
             intro A8 c8 n8 w8 hn8 ho8 hg8
             have HO8 := Lib.hid ho8
             have HG8 := Lib.hid hg8
             clear ho8 hg8))
        go_roundw
        case rel =>
          refine ⟨k + 1, by omega, by go_num, by rw [HGS.out], A8, n8, c8, rfl, by rw [HGS.out]; exact HO8, Lib.hid ?_⟩
          exact (bAlloc (bTrans HB.out HG7.out) _).grown HG8.out (by have := HZ7.out; simp; omega) (fun q e => HO7.out.base_le q e)
        case measure => simp [intOf]; omega
      · have HGS : Hid (greedy f (M.take (k + 1)) = (G, z)) := Lib.hid (by rw [HGT2.out]; unfold gStep; rw [if_neg hle])
        go_upto_region 7 with fail
        obtain ⟨w5, hw5⟩ : ∃ w5, w5 = wr.alloc (.cells #[.int .i64 x.frm, .int .i64 x.to_, .int .i64 x.weight] 48) := ⟨_, rfl⟩
        have k5 : Blk w5 wr.heap.size 48 #[.int .i64 x.frm, .int .i64 x.to_, .int .i64 x.weight] := by rw [hw5]; exact Blk.new _ _ _
        have hg5 : Below wr.heap.size wr w5 := by rw [hw5]; exact bAlloc (Below.refl _ _) _
        rw [← hw5]
        clear hw5 c0 c1 c2 hblw
        have d0 := k5.cell 0
        have d1 := k5.cell 1
        have d2 := k5.cell 2
        simp only [List.getElem?_toArray, List.getElem?_cons_zero, List.getElem?_cons_succ] at d0 d1 d2
        have dl := k5.lt
        have HG5 := Lib.hid hg5
        clear k5 hg5
        go_wp2_with (first | (go_at_call 19; refine (HSZ.out _).mono ?_; rintro e w6 ⟨rfl, hb6⟩; have HG6 := Lib.hid (bTrans HG5.out hb6); clear hb6))
        go_roundw
        case rel => exact ⟨k + 1, by omega, by go_num, by rw [HGS.out], A4, n4, c4, rfl, by rw [HGS.out]; exact Lib.hid (HO.out.below HG6.out), Lib.hid (bTrans HB.out HG6.out)⟩
        case measure => simp [intOf]; omega
    · obtain rfl : k = m := by omega
      have hall : M.take k = M := List.take_of_length_le (by rw [HMM.out]; exact Nat.le_refl _)
      rw [hall] at HO
      have HSO := Lib.hid (fun V => sortC_gen frmC swoF frmC_swap 21 (enters_of Tryd.func21 (by kernel_rfl) rfl) begins_any w3.heap.size A4 n4 c4 (greedy f M).1 V (by have := (greedy_sub f M).length_le; have := HMM.out; omega))
      clear hall
      go_wp2_with (first
        | (go_at_call 20; refine (HSO.out _ HO.out).mono ?_; rintro e w9 ⟨rfl, G', q1, q2, q3, q4⟩; have Q1 := Lib.hid q1; have Q2 := Lib.hid q2; have Q3 := Lib.hid q3; have Q4 := Lib.hid q4; clear q1 q2 q3 q4))
      go_ret2
      have hG : G' = bestL L f := best_sorted f HPW.out (by rw [← HM.out]; exact Q1.out) (Q2.out.imp fun {a b} h => (frmC_le a b).1 h)
      have q3 := Q3.out
      have hn := q3.len
      rw [hG] at q3 hn
      rw [hn] at q3 ⊢
      exact ⟨A4, c4, rfl, q3.more HB3.out.size, HB3.out.trans ((HB.out.trans Q4.out).mono HB3.out.size)⟩
end Go.Proofs.YtaegekfdbhmcaaaDoor
