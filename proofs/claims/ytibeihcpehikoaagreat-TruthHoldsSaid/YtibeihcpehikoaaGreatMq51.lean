/-
  The walks beneath: TCnt, THoW, CmO.
-/
import Derived.Deep.CutBlock
import Derived.Deep.DeepCutAuto
import Derived.Test.YtibeihcpehikoaaGreatMq1
import Derived.Test.YtibeihcpehikoaaGreatMq31
import Derived.Test.YtibeihcpehikoaaGreatMq32
import Derived.Test.YtibeihcpehikoaaGreatMq42
import Derived.Test.YtibeihcpehikoaaGreatMq48
import Derived.Test.YtibeihcpehikoaaGreatMq50
import Derived.Test.YtibeihcpehikoaaGreatMq47
namespace Go.Proofs.YtibeihcpehikoaaGreat
open Go.RowKit
set_option maxRecDepth 100000
set_option linter.unusedSimpArgs false
def cntV (em kd : Int) (L : List Ev) : Nat := (L.filter fun e => decide (e.emitter = em) && decide (e.kind = kd)).length
def rndV (L : List Ev) : Nat := (L.filter fun e => decide (e.kind = 7)).length
theorem cntV_snoc (em kd : Int) (L : List Ev) (k : Nat) (h : k < L.length) : cntV em kd (L.take (k + 1)) = cntV em kd (L.take k) + (if L[k].emitter = em ∧ L[k].kind = kd then 1 else 0) := by
  unfold cntV
  rw [List.take_succ_eq_append_getElem h, List.filter_append, List.length_append]
  congr 1
  by_cases h1 : L[k].emitter = em <;> by_cases h2 : L[k].kind = kd <;> simp [h1, h2]
theorem rndV_snoc (L : List Ev) (k : Nat) (h : k < L.length) : rndV (L.take (k + 1)) = rndV (L.take k) + (if L[k].kind = 7 then 1 else 0) := by
  unfold rndV
  rw [List.take_succ_eq_append_getElem h, List.filter_append, List.length_append]
  congr 1
  by_cases h2 : L[k].kind = 7 <;> simp [h2]
theorem cntV_le (em kd : Int) (L : List Ev) (k : Nat) : cntV em kd (L.take k) ≤ k := Nat.le_trans (List.length_filter_le _ _) (by rw [List.length_take]; omega)
theorem rndV_le (L : List Ev) (k : Nat) : rndV (L.take k) ≤ k := Nat.le_trans (List.length_filter_le _ _) (by rw [List.length_take]; omega)
set_option maxHeartbeats 4000000 in
theorem l26count_any (A : Option Addr) (c : Nat) (L : List Ev) (em kd : Int) (w : World) (hL : L.length ≤ 100000) (hr : Rd w w.heap.size A (L.flatMap Ev.cells)) :
    Calls Tryz.prog 28 #[.slice A L.length c, .int .i64 em, .int .i64 kd] w fun e w' => e = .returned (.int .i64 (cntV em kd L : Nat)) ∧ w = w' := by
  have HR := Lib.hid hr
  obtain ⟨m, hm⟩ : ∃ m, L.length = m := ⟨_, rfl⟩
  have HM := Lib.hid hm
  obtain ⟨N, hN⟩ : ∃ N, cntV em kd L = N := ⟨_, rfl⟩
  have HN := Lib.hid hN
  rw [hm] at hL ⊢
  rw [hN]
  clear hr hm hN
  go_enter Tryz.func28, Tryz.ntmps28
  go_wp2_with fail
  go_loopw [7, 8] (fun u v wr => ∃ k : Nat, k ≤ m ∧ v = .int .i64 k ∧ u = .int .i64 (cntV em kd (L.take k) : Nat) ∧ wr = w) (fun _ v _ => m - (intOf v).toNat)
  case atStart => exact ⟨0, Nat.zero_le _, rfl, rfl, rfl⟩
  case round =>
    obtain ⟨k, hk, rfl, rfl, rfl⟩ := hrel
    by_cases hlt : k < m
    · have hks : k < L.length := by rw [HM.out]; exact hlt
      obtain ⟨b, off, rfl, hbl, y0, y1, y2, -⟩ := HR.out.ev hks
      have HC := Lib.hid (cntV_snoc em kd L k hks)
      have hple := cntV_le em kd L k
      obtain ⟨x, hx⟩ : ∃ x, L[k] = x := ⟨_, rfl⟩
      obtain ⟨p, hp⟩ : ∃ p, cntV em kd (L.take k) = p := ⟨_, rfl⟩
      rw [hx] at y0 y1 y2 HC
      rw [hp] at HC hple ⊢
      clear hx hp hks
      by_cases he : x.emitter = em
      · have qe : (x.emitter == em) = true := by simp [he]
        by_cases hk2 : x.kind = kd
        · have qk : (x.kind == kd) = true := by simp [hk2]
          have HH := Lib.hid (show (if x.emitter = em ∧ x.kind = kd then 1 else 0) = 1 from if_pos ⟨he, hk2⟩)
          clear he hk2
          go_wp2
          go_roundw
          case rel => exact ⟨k + 1, by omega, by go_num, by rw [HC.out, HH.out]; rfl, trivial⟩
          case measure => simp [intOf]; omega
        · have qk : (x.kind == kd) = false := by simp [hk2]
          have HH := Lib.hid (show (if x.emitter = em ∧ x.kind = kd then 1 else 0) = 0 from if_neg (fun h => hk2 h.2))
          clear he hk2
          go_wp2
          go_roundw
          case rel => exact ⟨k + 1, by omega, by go_num, by rw [HC.out, HH.out]; rfl, trivial⟩
          case measure => simp [intOf]; omega
      · have qe : (x.emitter == em) = false := by simp [he]
        have HH := Lib.hid (show (if x.emitter = em ∧ x.kind = kd then 1 else 0) = 0 from if_neg (fun h => he h.1))
        clear he
        go_wp2
        go_roundw
        case rel => exact ⟨k + 1, by omega, by go_num, by rw [HC.out, HH.out]; rfl, trivial⟩
        case measure => simp [intOf]; omega
    · obtain rfl : k = m := by omega
      rw [List.take_of_length_le (by rw [HM.out]; exact Nat.le_refl _), HN.out]
      go_wp2
      go_ret
      exact ⟨rfl, rfl⟩
def cntVC (L : List Ev) : Array Value := #[.int .i64 (cntV 1 1 L : Nat), .int .i64 (cntV 2 1 L : Nat), .int .i64 (cntV 1 2 L : Nat), .int .i64 (cntV 2 2 L : Nat), .int .i64 (cntV 1 5 L : Nat), .int .i64 (cntV 2 5 L : Nat), .int .i64 (rndV L : Nat)]
set_option maxHeartbeats 8000000 in
theorem tcount_any (A : Option Addr) (c : Nat) (L : List Ev) (w : World) (hL : L.length ≤ 100000) (hr : Rd w w.heap.size A (L.flatMap Ev.cells)) :
    Calls Tryz.prog 27 #[.slice A L.length c] w fun e w' => e = .returned (.agg (cntVC L)) ∧ Below w.heap.size w w' := by
  have HR := Lib.hid hr
  obtain ⟨m, hm⟩ : ∃ m, L.length = m := ⟨_, rfl⟩
  have HM := Lib.hid hm
  rw [hm] at hL ⊢
  obtain ⟨w1, hw1⟩ : ∃ w1, w1 = (w.alloc (.cells #[.int .i64 0, .int .i64 0, .int .i64 0, .int .i64 0, .int .i64 0, .int .i64 0, .int .i64 0] 71)).alloc (.cells #[.int .i64 0, .int .i64 0, .int .i64 0, .int .i64 0, .int .i64 0, .int .i64 0, .int .i64 0] 71) := ⟨_, rfl⟩
  have HK1 : Hid (Blk w1 (w.heap.size + 1) 71 (cntVC (L.take 0))) := Lib.hid (by
    rw [hw1]
    have := Blk.new (w.alloc (.cells #[.int .i64 0, .int .i64 0, .int .i64 0, .int .i64 0, .int .i64 0, .int .i64 0, .int .i64 0] 71)) 71 #[.int .i64 0, .int .i64 0, .int .i64 0, .int .i64 0, .int .i64 0, .int .i64 0, .int .i64 0]
    rw [World.size_alloc] at this
    exact this)
  have HZ1 : Hid (Blk w1 w.heap.size 71 #[.int .i64 0, .int .i64 0, .int .i64 0, .int .i64 0, .int .i64 0, .int .i64 0, .int .i64 0]) := Lib.hid (by rw [hw1]; exact (Blk.new _ _ _).alloc _)
  have HB1 : Hid (Below w.heap.size w w1) := Lib.hid (by rw [hw1]; exact bAlloc (bAlloc (Below.refl _ _) _) _)
  clear hr hm
  go_enter Tryz.func27, Tryz.ntmps27
  go_upto_region 2 with fail
  rw [← hw1]
  clear hw1
  go_wp2_with fail
  go_loopw [9] (fun v wr => ∃ k : Nat, k ≤ m ∧ v = .int .i64 k ∧ Hid (Blk wr (w.heap.size + 1) 71 (cntVC (L.take k))) ∧ Hid (Blk wr w.heap.size 71 #[.int .i64 0, .int .i64 0, .int .i64 0, .int .i64 0, .int .i64 0, .int .i64 0, .int .i64 0]) ∧ Hid (Below w.heap.size w wr)) (fun v _ => m - (intOf v).toNat)
  case atStart => exact ⟨0, Nat.zero_le _, rfl, HK1, HZ1, HB1⟩
  case round =>
    obtain ⟨k, hk, rfl, HK, HZ, HB⟩ := hrel
    clear HK1 HZ1 HB1
    by_cases hlt : k < m
    · have hks : k < L.length := by rw [HM.out]; exact hlt
      obtain ⟨b, off, rfl, hbl, z0, z1, z2, z3, z4, z5, z6, z7, z8⟩ := (HR.out.below HB.out (Nat.le_refl _)).ev hks
      have hbw : b < wr.heap.size := Nat.lt_of_lt_of_le hbl HB.out.size
      have HE1 := Lib.hid (cntV_snoc 1 1 L k hks)
      have HE2 := Lib.hid (cntV_snoc 2 1 L k hks)
      have HE3 := Lib.hid (cntV_snoc 1 2 L k hks)
      have HE4 := Lib.hid (cntV_snoc 2 2 L k hks)
      have HE5 := Lib.hid (cntV_snoc 1 5 L k hks)
      have HE6 := Lib.hid (cntV_snoc 2 5 L k hks)
      have HE7 := Lib.hid (rndV_snoc L k hks)
      have l1 := cntV_le 1 1 L k
      have l2 := cntV_le 2 1 L k
      have l3 := cntV_le 1 2 L k
      have l4 := cntV_le 2 2 L k
      have l5 := cntV_le 1 5 L k
      have l6 := cntV_le 2 5 L k
      have l7 := rndV_le L k
      unfold cntVC at HK
      obtain ⟨x, hx⟩ : ∃ x, L[k] = x := ⟨_, rfl⟩
      rw [hx] at z0 z1 z2 z3 z4 z5 z6 z7 z8 HE1 HE2 HE3 HE4 HE5 HE6 HE7
      obtain ⟨p1, hp1⟩ : ∃ p, cntV 1 1 (L.take k) = p := ⟨_, rfl⟩
      rw [hp1] at HK HE1 l1
      obtain ⟨p2, hp2⟩ : ∃ p, cntV 2 1 (L.take k) = p := ⟨_, rfl⟩
      rw [hp2] at HK HE2 l2
      obtain ⟨p3, hp3⟩ : ∃ p, cntV 1 2 (L.take k) = p := ⟨_, rfl⟩
      rw [hp3] at HK HE3 l3
      obtain ⟨p4, hp4⟩ : ∃ p, cntV 2 2 (L.take k) = p := ⟨_, rfl⟩
      rw [hp4] at HK HE4 l4
      obtain ⟨p5, hp5⟩ : ∃ p, cntV 1 5 (L.take k) = p := ⟨_, rfl⟩
      rw [hp5] at HK HE5 l5
      obtain ⟨p6, hp6⟩ : ∃ p, cntV 2 5 (L.take k) = p := ⟨_, rfl⟩
      rw [hp6] at HK HE6 l6
      obtain ⟨p7, hp7⟩ : ∃ p, rndV (L.take k) = p := ⟨_, rfl⟩
      rw [hp7] at HK HE7 l7
      clear hx hp1 hp2 hp3 hp4 hp5 hp6 hp7 hks hbl
      go_upto_region 5 with fail
      obtain ⟨w2, hw2⟩ : ∃ w2, w2 = wr.alloc (.cells #[.int .i64 x.frame, .int .i64 x.emitter, .int .i64 x.kind, .int .i64 x.ord, .int .i64 x.asset, .int .i64 x.gain, .int .i64 x.pan, .int .i64 x.prio, .int .i64 x.len] 62) := ⟨_, rfl⟩
      have HX2 : Hid (Blk w2 wr.heap.size 62 #[.int .i64 x.frame, .int .i64 x.emitter, .int .i64 x.kind, .int .i64 x.ord, .int .i64 x.asset, .int .i64 x.gain, .int .i64 x.pan, .int .i64 x.prio, .int .i64 x.len]) := Lib.hid (by rw [hw2]; exact Blk.new _ _ _)
      have HK2 : Hid (Blk w2 (w.heap.size + 1) 71 #[.int .i64 (p1 : Nat), .int .i64 (p2 : Nat), .int .i64 (p3 : Nat), .int .i64 (p4 : Nat), .int .i64 (p5 : Nat), .int .i64 (p6 : Nat), .int .i64 (p7 : Nat)]) := Lib.hid (by rw [hw2]; exact HK.out.alloc _)
      have HZ2 : Hid (Blk w2 w.heap.size 71 #[.int .i64 0, .int .i64 0, .int .i64 0, .int .i64 0, .int .i64 0, .int .i64 0, .int .i64 0]) := Lib.hid (by rw [hw2]; exact HZ.out.alloc _)
      have HB2 : Hid (Below w.heap.size w w2) := Lib.hid (by rw [hw2]; exact bAlloc HB.out _)
      have hgx : w.heap.size + 1 < wr.heap.size := HK.out.lt
      rw [← hw2]
      obtain ⟨gx, hgx2⟩ : ∃ gx, wr.heap.size = gx := ⟨_, rfl⟩
      rw [hgx2] at HX2 hgx ⊢
      clear hw2 hgx2 HK HZ HB z0 z1 z2 z3 z4 z5 z6 z7 z8 hbw
      have x1 := HX2.out.cell 1
      have x2 := HX2.out.cell 2
      have lx := HX2.out.lt
      have k0 := HK2.out.cell 0; have k1 := HK2.out.cell 1; have k2 := HK2.out.cell 2; have k3 := HK2.out.cell 3; have k4 := HK2.out.cell 4; have k5 := HK2.out.cell 5; have k6 := HK2.out.cell 6
      have e0 := HK2.out.frozen 0; have e1 := HK2.out.frozen 1; have e2 := HK2.out.frozen 2; have e3 := HK2.out.frozen 3; have e4 := HK2.out.frozen 4; have e5 := HK2.out.frozen 5; have e6 := HK2.out.frozen 6
      have lk := HK2.out.lt
      simp only [List.getElem?_toArray, List.getElem?_cons_zero, List.getElem?_cons_succ] at x1 x2 k0 k1 k2 k3 k4 k5 k6
      by_cases he1 : x.emitter = 1
      · skip
        by_cases hk1 : x.kind = 1
        · skip
          have HF1 := Lib.hid (HE1.out.trans (congrArg (p1 + ·) (show (if x.emitter = 1 ∧ x.kind = 1 then 1 else 0) = 1 from if_pos (by omega))))
          have HF2 := Lib.hid (HE2.out.trans (congrArg (p2 + ·) (show (if x.emitter = 2 ∧ x.kind = 1 then 1 else 0) = 0 from if_neg (by omega))))
          have HF3 := Lib.hid (HE3.out.trans (congrArg (p3 + ·) (show (if x.emitter = 1 ∧ x.kind = 2 then 1 else 0) = 0 from if_neg (by omega))))
          have HF4 := Lib.hid (HE4.out.trans (congrArg (p4 + ·) (show (if x.emitter = 2 ∧ x.kind = 2 then 1 else 0) = 0 from if_neg (by omega))))
          have HF5 := Lib.hid (HE5.out.trans (congrArg (p5 + ·) (show (if x.emitter = 1 ∧ x.kind = 5 then 1 else 0) = 0 from if_neg (by omega))))
          have HF6 := Lib.hid (HE6.out.trans (congrArg (p6 + ·) (show (if x.emitter = 2 ∧ x.kind = 5 then 1 else 0) = 0 from if_neg (by omega))))
          have HF7 := Lib.hid (HE7.out.trans (congrArg (p7 + ·) (show (if x.kind = 7 then 1 else 0) = 0 from if_neg (by omega))))
          rw [he1] at x1
          rw [hk1] at x2
          clear HE1 HE2 HE3 HE4 HE5 HE6 HE7 he1 hk1
          go_wp2
          go_roundw
          case rel => exact ⟨k + 1, by omega, by go_num, Lib.hid (by unfold cntVC; rw [HF1.out, HF2.out, HF3.out, HF4.out, HF5.out, HF6.out, HF7.out]; exact (HK2.out.set 0 (.int .i64 ((p1 : Int) + 1)))), Lib.hid (HZ2.out.farG (by omega) 0 (.int .i64 ((p1 : Int) + 1))), Lib.hid (HB2.out.setCell (p := ⟨w.heap.size + 1, 0, none⟩) (Nat.le_succ _) (.int .i64 ((p1 : Int) + 1)))⟩
          case measure => simp [intOf]; omega
        · skip
          by_cases hk2 : x.kind = 2
          · skip
            have HF1 := Lib.hid (HE1.out.trans (congrArg (p1 + ·) (show (if x.emitter = 1 ∧ x.kind = 1 then 1 else 0) = 0 from if_neg (by omega))))
            have HF2 := Lib.hid (HE2.out.trans (congrArg (p2 + ·) (show (if x.emitter = 2 ∧ x.kind = 1 then 1 else 0) = 0 from if_neg (by omega))))
            have HF3 := Lib.hid (HE3.out.trans (congrArg (p3 + ·) (show (if x.emitter = 1 ∧ x.kind = 2 then 1 else 0) = 1 from if_pos (by omega))))
            have HF4 := Lib.hid (HE4.out.trans (congrArg (p4 + ·) (show (if x.emitter = 2 ∧ x.kind = 2 then 1 else 0) = 0 from if_neg (by omega))))
            have HF5 := Lib.hid (HE5.out.trans (congrArg (p5 + ·) (show (if x.emitter = 1 ∧ x.kind = 5 then 1 else 0) = 0 from if_neg (by omega))))
            have HF6 := Lib.hid (HE6.out.trans (congrArg (p6 + ·) (show (if x.emitter = 2 ∧ x.kind = 5 then 1 else 0) = 0 from if_neg (by omega))))
            have HF7 := Lib.hid (HE7.out.trans (congrArg (p7 + ·) (show (if x.kind = 7 then 1 else 0) = 0 from if_neg (by omega))))
            rw [he1] at x1
            rw [hk2] at x2
            clear HE1 HE2 HE3 HE4 HE5 HE6 HE7 he1 hk1 hk2
            go_wp2
            go_roundw
            case rel => exact ⟨k + 1, by omega, by go_num, Lib.hid (by unfold cntVC; rw [HF1.out, HF2.out, HF3.out, HF4.out, HF5.out, HF6.out, HF7.out]; exact (HK2.out.set 2 (.int .i64 ((p3 : Int) + 1)))), Lib.hid (HZ2.out.farG (by omega) 2 (.int .i64 ((p3 : Int) + 1))), Lib.hid (HB2.out.setCell (p := ⟨w.heap.size + 1, 2, none⟩) (Nat.le_succ _) (.int .i64 ((p3 : Int) + 1)))⟩
            case measure => simp [intOf]; omega
          · skip
            by_cases hk5 : x.kind = 5
            · skip
              have HF1 := Lib.hid (HE1.out.trans (congrArg (p1 + ·) (show (if x.emitter = 1 ∧ x.kind = 1 then 1 else 0) = 0 from if_neg (by omega))))
              have HF2 := Lib.hid (HE2.out.trans (congrArg (p2 + ·) (show (if x.emitter = 2 ∧ x.kind = 1 then 1 else 0) = 0 from if_neg (by omega))))
              have HF3 := Lib.hid (HE3.out.trans (congrArg (p3 + ·) (show (if x.emitter = 1 ∧ x.kind = 2 then 1 else 0) = 0 from if_neg (by omega))))
              have HF4 := Lib.hid (HE4.out.trans (congrArg (p4 + ·) (show (if x.emitter = 2 ∧ x.kind = 2 then 1 else 0) = 0 from if_neg (by omega))))
              have HF5 := Lib.hid (HE5.out.trans (congrArg (p5 + ·) (show (if x.emitter = 1 ∧ x.kind = 5 then 1 else 0) = 1 from if_pos (by omega))))
              have HF6 := Lib.hid (HE6.out.trans (congrArg (p6 + ·) (show (if x.emitter = 2 ∧ x.kind = 5 then 1 else 0) = 0 from if_neg (by omega))))
              have HF7 := Lib.hid (HE7.out.trans (congrArg (p7 + ·) (show (if x.kind = 7 then 1 else 0) = 0 from if_neg (by omega))))
              rw [he1] at x1
              rw [hk5] at x2
              clear HE1 HE2 HE3 HE4 HE5 HE6 HE7 he1 hk1 hk2 hk5
              go_wp2
              go_roundw
              case rel => exact ⟨k + 1, by omega, by go_num, Lib.hid (by unfold cntVC; rw [HF1.out, HF2.out, HF3.out, HF4.out, HF5.out, HF6.out, HF7.out]; exact (HK2.out.set 4 (.int .i64 ((p5 : Int) + 1)))), Lib.hid (HZ2.out.farG (by omega) 4 (.int .i64 ((p5 : Int) + 1))), Lib.hid (HB2.out.setCell (p := ⟨w.heap.size + 1, 4, none⟩) (Nat.le_succ _) (.int .i64 ((p5 : Int) + 1)))⟩
              case measure => simp [intOf]; omega
            · skip
              by_cases hk7 : x.kind = 7
              · skip
                have HF1 := Lib.hid (HE1.out.trans (congrArg (p1 + ·) (show (if x.emitter = 1 ∧ x.kind = 1 then 1 else 0) = 0 from if_neg (by omega))))
                have HF2 := Lib.hid (HE2.out.trans (congrArg (p2 + ·) (show (if x.emitter = 2 ∧ x.kind = 1 then 1 else 0) = 0 from if_neg (by omega))))
                have HF3 := Lib.hid (HE3.out.trans (congrArg (p3 + ·) (show (if x.emitter = 1 ∧ x.kind = 2 then 1 else 0) = 0 from if_neg (by omega))))
                have HF4 := Lib.hid (HE4.out.trans (congrArg (p4 + ·) (show (if x.emitter = 2 ∧ x.kind = 2 then 1 else 0) = 0 from if_neg (by omega))))
                have HF5 := Lib.hid (HE5.out.trans (congrArg (p5 + ·) (show (if x.emitter = 1 ∧ x.kind = 5 then 1 else 0) = 0 from if_neg (by omega))))
                have HF6 := Lib.hid (HE6.out.trans (congrArg (p6 + ·) (show (if x.emitter = 2 ∧ x.kind = 5 then 1 else 0) = 0 from if_neg (by omega))))
                have HF7 := Lib.hid (HE7.out.trans (congrArg (p7 + ·) (show (if x.kind = 7 then 1 else 0) = 1 from if_pos (by omega))))
                rw [he1] at x1
                rw [hk7] at x2
                clear HE1 HE2 HE3 HE4 HE5 HE6 HE7 he1 hk1 hk2 hk5 hk7
                go_wp2
                go_roundw
                case rel => exact ⟨k + 1, by omega, by go_num, Lib.hid (by unfold cntVC; rw [HF1.out, HF2.out, HF3.out, HF4.out, HF5.out, HF6.out, HF7.out]; exact (HK2.out.set 6 (.int .i64 ((p7 : Int) + 1)))), Lib.hid (HZ2.out.farG (by omega) 6 (.int .i64 ((p7 : Int) + 1))), Lib.hid (HB2.out.setCell (p := ⟨w.heap.size + 1, 6, none⟩) (Nat.le_succ _) (.int .i64 ((p7 : Int) + 1)))⟩
                case measure => simp [intOf]; omega
              · skip
                have HF1 := Lib.hid (HE1.out.trans (congrArg (p1 + ·) (show (if x.emitter = 1 ∧ x.kind = 1 then 1 else 0) = 0 from if_neg (by omega))))
                have HF2 := Lib.hid (HE2.out.trans (congrArg (p2 + ·) (show (if x.emitter = 2 ∧ x.kind = 1 then 1 else 0) = 0 from if_neg (by omega))))
                have HF3 := Lib.hid (HE3.out.trans (congrArg (p3 + ·) (show (if x.emitter = 1 ∧ x.kind = 2 then 1 else 0) = 0 from if_neg (by omega))))
                have HF4 := Lib.hid (HE4.out.trans (congrArg (p4 + ·) (show (if x.emitter = 2 ∧ x.kind = 2 then 1 else 0) = 0 from if_neg (by omega))))
                have HF5 := Lib.hid (HE5.out.trans (congrArg (p5 + ·) (show (if x.emitter = 1 ∧ x.kind = 5 then 1 else 0) = 0 from if_neg (by omega))))
                have HF6 := Lib.hid (HE6.out.trans (congrArg (p6 + ·) (show (if x.emitter = 2 ∧ x.kind = 5 then 1 else 0) = 0 from if_neg (by omega))))
                have HF7 := Lib.hid (HE7.out.trans (congrArg (p7 + ·) (show (if x.kind = 7 then 1 else 0) = 0 from if_neg (by omega))))
                rw [he1] at x1
                have q1 : (x.kind == 1) = false := by simp [hk1]
                have q2 : (x.kind == 2) = false := by simp [hk2]
                have q5 : (x.kind == 5) = false := by simp [hk5]
                have q7 : (x.kind == 7) = false := by simp [hk7]
                clear HE1 HE2 HE3 HE4 HE5 HE6 HE7 he1 hk1 hk2 hk5 hk7
                go_wp2
                go_roundw
                case rel => exact ⟨k + 1, by omega, by go_num, Lib.hid (by unfold cntVC; rw [HF1.out, HF2.out, HF3.out, HF4.out, HF5.out, HF6.out, HF7.out]; exact HK2.out), Lib.hid HZ2.out, Lib.hid HB2.out⟩
                case measure => simp [intOf]; omega
      · by_cases he2 : x.emitter = 2
        · skip
          by_cases hk1 : x.kind = 1
          · skip
            have HF1 := Lib.hid (HE1.out.trans (congrArg (p1 + ·) (show (if x.emitter = 1 ∧ x.kind = 1 then 1 else 0) = 0 from if_neg (by omega))))
            have HF2 := Lib.hid (HE2.out.trans (congrArg (p2 + ·) (show (if x.emitter = 2 ∧ x.kind = 1 then 1 else 0) = 1 from if_pos (by omega))))
            have HF3 := Lib.hid (HE3.out.trans (congrArg (p3 + ·) (show (if x.emitter = 1 ∧ x.kind = 2 then 1 else 0) = 0 from if_neg (by omega))))
            have HF4 := Lib.hid (HE4.out.trans (congrArg (p4 + ·) (show (if x.emitter = 2 ∧ x.kind = 2 then 1 else 0) = 0 from if_neg (by omega))))
            have HF5 := Lib.hid (HE5.out.trans (congrArg (p5 + ·) (show (if x.emitter = 1 ∧ x.kind = 5 then 1 else 0) = 0 from if_neg (by omega))))
            have HF6 := Lib.hid (HE6.out.trans (congrArg (p6 + ·) (show (if x.emitter = 2 ∧ x.kind = 5 then 1 else 0) = 0 from if_neg (by omega))))
            have HF7 := Lib.hid (HE7.out.trans (congrArg (p7 + ·) (show (if x.kind = 7 then 1 else 0) = 0 from if_neg (by omega))))
            rw [he2] at x1
            rw [hk1] at x2
            clear HE1 HE2 HE3 HE4 HE5 HE6 HE7 he1 he2 hk1
            go_wp2
            go_roundw
            case rel => exact ⟨k + 1, by omega, by go_num, Lib.hid (by unfold cntVC; rw [HF1.out, HF2.out, HF3.out, HF4.out, HF5.out, HF6.out, HF7.out]; exact (HK2.out.set 1 (.int .i64 ((p2 : Int) + 1)))), Lib.hid (HZ2.out.farG (by omega) 1 (.int .i64 ((p2 : Int) + 1))), Lib.hid (HB2.out.setCell (p := ⟨w.heap.size + 1, 1, none⟩) (Nat.le_succ _) (.int .i64 ((p2 : Int) + 1)))⟩
            case measure => simp [intOf]; omega
          · skip
            by_cases hk2 : x.kind = 2
            · skip
              have HF1 := Lib.hid (HE1.out.trans (congrArg (p1 + ·) (show (if x.emitter = 1 ∧ x.kind = 1 then 1 else 0) = 0 from if_neg (by omega))))
              have HF2 := Lib.hid (HE2.out.trans (congrArg (p2 + ·) (show (if x.emitter = 2 ∧ x.kind = 1 then 1 else 0) = 0 from if_neg (by omega))))
              have HF3 := Lib.hid (HE3.out.trans (congrArg (p3 + ·) (show (if x.emitter = 1 ∧ x.kind = 2 then 1 else 0) = 0 from if_neg (by omega))))
              have HF4 := Lib.hid (HE4.out.trans (congrArg (p4 + ·) (show (if x.emitter = 2 ∧ x.kind = 2 then 1 else 0) = 1 from if_pos (by omega))))
              have HF5 := Lib.hid (HE5.out.trans (congrArg (p5 + ·) (show (if x.emitter = 1 ∧ x.kind = 5 then 1 else 0) = 0 from if_neg (by omega))))
              have HF6 := Lib.hid (HE6.out.trans (congrArg (p6 + ·) (show (if x.emitter = 2 ∧ x.kind = 5 then 1 else 0) = 0 from if_neg (by omega))))
              have HF7 := Lib.hid (HE7.out.trans (congrArg (p7 + ·) (show (if x.kind = 7 then 1 else 0) = 0 from if_neg (by omega))))
              rw [he2] at x1
              rw [hk2] at x2
              clear HE1 HE2 HE3 HE4 HE5 HE6 HE7 he1 he2 hk1 hk2
              go_wp2
              go_roundw
              case rel => exact ⟨k + 1, by omega, by go_num, Lib.hid (by unfold cntVC; rw [HF1.out, HF2.out, HF3.out, HF4.out, HF5.out, HF6.out, HF7.out]; exact (HK2.out.set 3 (.int .i64 ((p4 : Int) + 1)))), Lib.hid (HZ2.out.farG (by omega) 3 (.int .i64 ((p4 : Int) + 1))), Lib.hid (HB2.out.setCell (p := ⟨w.heap.size + 1, 3, none⟩) (Nat.le_succ _) (.int .i64 ((p4 : Int) + 1)))⟩
              case measure => simp [intOf]; omega
            · skip
              by_cases hk5 : x.kind = 5
              · skip
                have HF1 := Lib.hid (HE1.out.trans (congrArg (p1 + ·) (show (if x.emitter = 1 ∧ x.kind = 1 then 1 else 0) = 0 from if_neg (by omega))))
                have HF2 := Lib.hid (HE2.out.trans (congrArg (p2 + ·) (show (if x.emitter = 2 ∧ x.kind = 1 then 1 else 0) = 0 from if_neg (by omega))))
                have HF3 := Lib.hid (HE3.out.trans (congrArg (p3 + ·) (show (if x.emitter = 1 ∧ x.kind = 2 then 1 else 0) = 0 from if_neg (by omega))))
                have HF4 := Lib.hid (HE4.out.trans (congrArg (p4 + ·) (show (if x.emitter = 2 ∧ x.kind = 2 then 1 else 0) = 0 from if_neg (by omega))))
                have HF5 := Lib.hid (HE5.out.trans (congrArg (p5 + ·) (show (if x.emitter = 1 ∧ x.kind = 5 then 1 else 0) = 0 from if_neg (by omega))))
                have HF6 := Lib.hid (HE6.out.trans (congrArg (p6 + ·) (show (if x.emitter = 2 ∧ x.kind = 5 then 1 else 0) = 1 from if_pos (by omega))))
                have HF7 := Lib.hid (HE7.out.trans (congrArg (p7 + ·) (show (if x.kind = 7 then 1 else 0) = 0 from if_neg (by omega))))
                rw [he2] at x1
                rw [hk5] at x2
                clear HE1 HE2 HE3 HE4 HE5 HE6 HE7 he1 he2 hk1 hk2 hk5
                go_wp2
                go_roundw
                case rel => exact ⟨k + 1, by omega, by go_num, Lib.hid (by unfold cntVC; rw [HF1.out, HF2.out, HF3.out, HF4.out, HF5.out, HF6.out, HF7.out]; exact (HK2.out.set 5 (.int .i64 ((p6 : Int) + 1)))), Lib.hid (HZ2.out.farG (by omega) 5 (.int .i64 ((p6 : Int) + 1))), Lib.hid (HB2.out.setCell (p := ⟨w.heap.size + 1, 5, none⟩) (Nat.le_succ _) (.int .i64 ((p6 : Int) + 1)))⟩
                case measure => simp [intOf]; omega
              · skip
                by_cases hk7 : x.kind = 7
                · skip
                  have HF1 := Lib.hid (HE1.out.trans (congrArg (p1 + ·) (show (if x.emitter = 1 ∧ x.kind = 1 then 1 else 0) = 0 from if_neg (by omega))))
                  have HF2 := Lib.hid (HE2.out.trans (congrArg (p2 + ·) (show (if x.emitter = 2 ∧ x.kind = 1 then 1 else 0) = 0 from if_neg (by omega))))
                  have HF3 := Lib.hid (HE3.out.trans (congrArg (p3 + ·) (show (if x.emitter = 1 ∧ x.kind = 2 then 1 else 0) = 0 from if_neg (by omega))))
                  have HF4 := Lib.hid (HE4.out.trans (congrArg (p4 + ·) (show (if x.emitter = 2 ∧ x.kind = 2 then 1 else 0) = 0 from if_neg (by omega))))
                  have HF5 := Lib.hid (HE5.out.trans (congrArg (p5 + ·) (show (if x.emitter = 1 ∧ x.kind = 5 then 1 else 0) = 0 from if_neg (by omega))))
                  have HF6 := Lib.hid (HE6.out.trans (congrArg (p6 + ·) (show (if x.emitter = 2 ∧ x.kind = 5 then 1 else 0) = 0 from if_neg (by omega))))
                  have HF7 := Lib.hid (HE7.out.trans (congrArg (p7 + ·) (show (if x.kind = 7 then 1 else 0) = 1 from if_pos (by omega))))
                  rw [he2] at x1
                  rw [hk7] at x2
                  clear HE1 HE2 HE3 HE4 HE5 HE6 HE7 he1 he2 hk1 hk2 hk5 hk7
                  go_wp2
                  go_roundw
                  case rel => exact ⟨k + 1, by omega, by go_num, Lib.hid (by unfold cntVC; rw [HF1.out, HF2.out, HF3.out, HF4.out, HF5.out, HF6.out, HF7.out]; exact (HK2.out.set 6 (.int .i64 ((p7 : Int) + 1)))), Lib.hid (HZ2.out.farG (by omega) 6 (.int .i64 ((p7 : Int) + 1))), Lib.hid (HB2.out.setCell (p := ⟨w.heap.size + 1, 6, none⟩) (Nat.le_succ _) (.int .i64 ((p7 : Int) + 1)))⟩
                  case measure => simp [intOf]; omega
                · skip
                  have HF1 := Lib.hid (HE1.out.trans (congrArg (p1 + ·) (show (if x.emitter = 1 ∧ x.kind = 1 then 1 else 0) = 0 from if_neg (by omega))))
                  have HF2 := Lib.hid (HE2.out.trans (congrArg (p2 + ·) (show (if x.emitter = 2 ∧ x.kind = 1 then 1 else 0) = 0 from if_neg (by omega))))
                  have HF3 := Lib.hid (HE3.out.trans (congrArg (p3 + ·) (show (if x.emitter = 1 ∧ x.kind = 2 then 1 else 0) = 0 from if_neg (by omega))))
                  have HF4 := Lib.hid (HE4.out.trans (congrArg (p4 + ·) (show (if x.emitter = 2 ∧ x.kind = 2 then 1 else 0) = 0 from if_neg (by omega))))
                  have HF5 := Lib.hid (HE5.out.trans (congrArg (p5 + ·) (show (if x.emitter = 1 ∧ x.kind = 5 then 1 else 0) = 0 from if_neg (by omega))))
                  have HF6 := Lib.hid (HE6.out.trans (congrArg (p6 + ·) (show (if x.emitter = 2 ∧ x.kind = 5 then 1 else 0) = 0 from if_neg (by omega))))
                  have HF7 := Lib.hid (HE7.out.trans (congrArg (p7 + ·) (show (if x.kind = 7 then 1 else 0) = 0 from if_neg (by omega))))
                  rw [he2] at x1
                  have q1 : (x.kind == 1) = false := by simp [hk1]
                  have q2 : (x.kind == 2) = false := by simp [hk2]
                  have q5 : (x.kind == 5) = false := by simp [hk5]
                  have q7 : (x.kind == 7) = false := by simp [hk7]
                  clear HE1 HE2 HE3 HE4 HE5 HE6 HE7 he1 he2 hk1 hk2 hk5 hk7
                  go_wp2
                  go_roundw
                  case rel => exact ⟨k + 1, by omega, by go_num, Lib.hid (by unfold cntVC; rw [HF1.out, HF2.out, HF3.out, HF4.out, HF5.out, HF6.out, HF7.out]; exact HK2.out), Lib.hid HZ2.out, Lib.hid HB2.out⟩
                  case measure => simp [intOf]; omega
        · skip
          by_cases hk1 : x.kind = 1
          · skip
            have HF1 := Lib.hid (HE1.out.trans (congrArg (p1 + ·) (show (if x.emitter = 1 ∧ x.kind = 1 then 1 else 0) = 0 from if_neg (by omega))))
            have HF2 := Lib.hid (HE2.out.trans (congrArg (p2 + ·) (show (if x.emitter = 2 ∧ x.kind = 1 then 1 else 0) = 0 from if_neg (by omega))))
            have HF3 := Lib.hid (HE3.out.trans (congrArg (p3 + ·) (show (if x.emitter = 1 ∧ x.kind = 2 then 1 else 0) = 0 from if_neg (by omega))))
            have HF4 := Lib.hid (HE4.out.trans (congrArg (p4 + ·) (show (if x.emitter = 2 ∧ x.kind = 2 then 1 else 0) = 0 from if_neg (by omega))))
            have HF5 := Lib.hid (HE5.out.trans (congrArg (p5 + ·) (show (if x.emitter = 1 ∧ x.kind = 5 then 1 else 0) = 0 from if_neg (by omega))))
            have HF6 := Lib.hid (HE6.out.trans (congrArg (p6 + ·) (show (if x.emitter = 2 ∧ x.kind = 5 then 1 else 0) = 0 from if_neg (by omega))))
            have HF7 := Lib.hid (HE7.out.trans (congrArg (p7 + ·) (show (if x.kind = 7 then 1 else 0) = 0 from if_neg (by omega))))
            rw [hk1] at x2
            have r1 : (x.emitter != 1) = true := by simp [he1]
            have r2 : (x.emitter != 2) = true := by simp [he2]
            clear HE1 HE2 HE3 HE4 HE5 HE6 HE7 he1 he2 hk1
            go_wp2
            go_roundw
            case rel => exact ⟨k + 1, by omega, by go_num, Lib.hid (by unfold cntVC; rw [HF1.out, HF2.out, HF3.out, HF4.out, HF5.out, HF6.out, HF7.out]; exact HK2.out), Lib.hid HZ2.out, Lib.hid HB2.out⟩
            case measure => simp [intOf]; omega
          · skip
            by_cases hk2 : x.kind = 2
            · skip
              have HF1 := Lib.hid (HE1.out.trans (congrArg (p1 + ·) (show (if x.emitter = 1 ∧ x.kind = 1 then 1 else 0) = 0 from if_neg (by omega))))
              have HF2 := Lib.hid (HE2.out.trans (congrArg (p2 + ·) (show (if x.emitter = 2 ∧ x.kind = 1 then 1 else 0) = 0 from if_neg (by omega))))
              have HF3 := Lib.hid (HE3.out.trans (congrArg (p3 + ·) (show (if x.emitter = 1 ∧ x.kind = 2 then 1 else 0) = 0 from if_neg (by omega))))
              have HF4 := Lib.hid (HE4.out.trans (congrArg (p4 + ·) (show (if x.emitter = 2 ∧ x.kind = 2 then 1 else 0) = 0 from if_neg (by omega))))
              have HF5 := Lib.hid (HE5.out.trans (congrArg (p5 + ·) (show (if x.emitter = 1 ∧ x.kind = 5 then 1 else 0) = 0 from if_neg (by omega))))
              have HF6 := Lib.hid (HE6.out.trans (congrArg (p6 + ·) (show (if x.emitter = 2 ∧ x.kind = 5 then 1 else 0) = 0 from if_neg (by omega))))
              have HF7 := Lib.hid (HE7.out.trans (congrArg (p7 + ·) (show (if x.kind = 7 then 1 else 0) = 0 from if_neg (by omega))))
              rw [hk2] at x2
              have r1 : (x.emitter != 1) = true := by simp [he1]
              have r2 : (x.emitter != 2) = true := by simp [he2]
              clear HE1 HE2 HE3 HE4 HE5 HE6 HE7 he1 he2 hk1 hk2
              go_wp2
              go_roundw
              case rel => exact ⟨k + 1, by omega, by go_num, Lib.hid (by unfold cntVC; rw [HF1.out, HF2.out, HF3.out, HF4.out, HF5.out, HF6.out, HF7.out]; exact HK2.out), Lib.hid HZ2.out, Lib.hid HB2.out⟩
              case measure => simp [intOf]; omega
            · skip
              by_cases hk5 : x.kind = 5
              · skip
                have HF1 := Lib.hid (HE1.out.trans (congrArg (p1 + ·) (show (if x.emitter = 1 ∧ x.kind = 1 then 1 else 0) = 0 from if_neg (by omega))))
                have HF2 := Lib.hid (HE2.out.trans (congrArg (p2 + ·) (show (if x.emitter = 2 ∧ x.kind = 1 then 1 else 0) = 0 from if_neg (by omega))))
                have HF3 := Lib.hid (HE3.out.trans (congrArg (p3 + ·) (show (if x.emitter = 1 ∧ x.kind = 2 then 1 else 0) = 0 from if_neg (by omega))))
                have HF4 := Lib.hid (HE4.out.trans (congrArg (p4 + ·) (show (if x.emitter = 2 ∧ x.kind = 2 then 1 else 0) = 0 from if_neg (by omega))))
                have HF5 := Lib.hid (HE5.out.trans (congrArg (p5 + ·) (show (if x.emitter = 1 ∧ x.kind = 5 then 1 else 0) = 0 from if_neg (by omega))))
                have HF6 := Lib.hid (HE6.out.trans (congrArg (p6 + ·) (show (if x.emitter = 2 ∧ x.kind = 5 then 1 else 0) = 0 from if_neg (by omega))))
                have HF7 := Lib.hid (HE7.out.trans (congrArg (p7 + ·) (show (if x.kind = 7 then 1 else 0) = 0 from if_neg (by omega))))
                rw [hk5] at x2
                have r1 : (x.emitter != 1) = true := by simp [he1]
                have r2 : (x.emitter != 2) = true := by simp [he2]
                clear HE1 HE2 HE3 HE4 HE5 HE6 HE7 he1 he2 hk1 hk2 hk5
                go_wp2
                go_roundw
                case rel => exact ⟨k + 1, by omega, by go_num, Lib.hid (by unfold cntVC; rw [HF1.out, HF2.out, HF3.out, HF4.out, HF5.out, HF6.out, HF7.out]; exact HK2.out), Lib.hid HZ2.out, Lib.hid HB2.out⟩
                case measure => simp [intOf]; omega
              · skip
                by_cases hk7 : x.kind = 7
                · skip
                  have HF1 := Lib.hid (HE1.out.trans (congrArg (p1 + ·) (show (if x.emitter = 1 ∧ x.kind = 1 then 1 else 0) = 0 from if_neg (by omega))))
                  have HF2 := Lib.hid (HE2.out.trans (congrArg (p2 + ·) (show (if x.emitter = 2 ∧ x.kind = 1 then 1 else 0) = 0 from if_neg (by omega))))
                  have HF3 := Lib.hid (HE3.out.trans (congrArg (p3 + ·) (show (if x.emitter = 1 ∧ x.kind = 2 then 1 else 0) = 0 from if_neg (by omega))))
                  have HF4 := Lib.hid (HE4.out.trans (congrArg (p4 + ·) (show (if x.emitter = 2 ∧ x.kind = 2 then 1 else 0) = 0 from if_neg (by omega))))
                  have HF5 := Lib.hid (HE5.out.trans (congrArg (p5 + ·) (show (if x.emitter = 1 ∧ x.kind = 5 then 1 else 0) = 0 from if_neg (by omega))))
                  have HF6 := Lib.hid (HE6.out.trans (congrArg (p6 + ·) (show (if x.emitter = 2 ∧ x.kind = 5 then 1 else 0) = 0 from if_neg (by omega))))
                  have HF7 := Lib.hid (HE7.out.trans (congrArg (p7 + ·) (show (if x.kind = 7 then 1 else 0) = 1 from if_pos (by omega))))
                  rw [hk7] at x2
                  have r1 : (x.emitter != 1) = true := by simp [he1]
                  have r2 : (x.emitter != 2) = true := by simp [he2]
                  clear HE1 HE2 HE3 HE4 HE5 HE6 HE7 he1 he2 hk1 hk2 hk5 hk7
                  go_wp2
                  go_roundw
                  case rel => exact ⟨k + 1, by omega, by go_num, Lib.hid (by unfold cntVC; rw [HF1.out, HF2.out, HF3.out, HF4.out, HF5.out, HF6.out, HF7.out]; exact (HK2.out.set 6 (.int .i64 ((p7 : Int) + 1)))), Lib.hid (HZ2.out.farG (by omega) 6 (.int .i64 ((p7 : Int) + 1))), Lib.hid (HB2.out.setCell (p := ⟨w.heap.size + 1, 6, none⟩) (Nat.le_succ _) (.int .i64 ((p7 : Int) + 1)))⟩
                  case measure => simp [intOf]; omega
                · skip
                  have HF1 := Lib.hid (HE1.out.trans (congrArg (p1 + ·) (show (if x.emitter = 1 ∧ x.kind = 1 then 1 else 0) = 0 from if_neg (by omega))))
                  have HF2 := Lib.hid (HE2.out.trans (congrArg (p2 + ·) (show (if x.emitter = 2 ∧ x.kind = 1 then 1 else 0) = 0 from if_neg (by omega))))
                  have HF3 := Lib.hid (HE3.out.trans (congrArg (p3 + ·) (show (if x.emitter = 1 ∧ x.kind = 2 then 1 else 0) = 0 from if_neg (by omega))))
                  have HF4 := Lib.hid (HE4.out.trans (congrArg (p4 + ·) (show (if x.emitter = 2 ∧ x.kind = 2 then 1 else 0) = 0 from if_neg (by omega))))
                  have HF5 := Lib.hid (HE5.out.trans (congrArg (p5 + ·) (show (if x.emitter = 1 ∧ x.kind = 5 then 1 else 0) = 0 from if_neg (by omega))))
                  have HF6 := Lib.hid (HE6.out.trans (congrArg (p6 + ·) (show (if x.emitter = 2 ∧ x.kind = 5 then 1 else 0) = 0 from if_neg (by omega))))
                  have HF7 := Lib.hid (HE7.out.trans (congrArg (p7 + ·) (show (if x.kind = 7 then 1 else 0) = 0 from if_neg (by omega))))
                  have q1 : (x.kind == 1) = false := by simp [hk1]
                  have q2 : (x.kind == 2) = false := by simp [hk2]
                  have q5 : (x.kind == 5) = false := by simp [hk5]
                  have q7 : (x.kind == 7) = false := by simp [hk7]
                  have r1 : (x.emitter != 1) = true := by simp [he1]
                  have r2 : (x.emitter != 2) = true := by simp [he2]
                  clear HE1 HE2 HE3 HE4 HE5 HE6 HE7 he1 he2 hk1 hk2 hk5 hk7
                  go_wp2
                  go_roundw
                  case rel => exact ⟨k + 1, by omega, by go_num, Lib.hid (by unfold cntVC; rw [HF1.out, HF2.out, HF3.out, HF4.out, HF5.out, HF6.out, HF7.out]; exact HK2.out), Lib.hid HZ2.out, Lib.hid HB2.out⟩
                  case measure => simp [intOf]; omega
    · obtain rfl : k = m := by omega
      rw [List.take_of_length_le (by rw [HM.out]; exact Nat.le_refl _)] at HK
      unfold cntVC at HK
      have k0 := HK.out.cell 0; have k1 := HK.out.cell 1; have k2 := HK.out.cell 2; have k3 := HK.out.cell 3; have k4 := HK.out.cell 4; have k5 := HK.out.cell 5; have k6 := HK.out.cell 6
      have e0 := HZ.out.frozen 0; have e1 := HZ.out.frozen 1; have e2 := HZ.out.frozen 2; have e3 := HZ.out.frozen 3; have e4 := HZ.out.frozen 4; have e5 := HZ.out.frozen 5; have e6 := HZ.out.frozen 6
      have z0 := HZ.out.cell 0; have z1 := HZ.out.cell 1; have z2 := HZ.out.cell 2; have z3 := HZ.out.cell 3; have z4 := HZ.out.cell 4; have z5 := HZ.out.cell 5; have z6 := HZ.out.cell 6
      have lk := HK.out.lt
      have lz := HZ.out.lt
      simp only [List.getElem?_toArray, List.getElem?_cons_zero, List.getElem?_cons_succ] at k0 k1 k2 k3 k4 k5 k6 z0 z1 z2 z3 z4 z5 z6
      go_wp2
      have HF := ((((((HZ.out.set 0 (.int .i64 (cntV 1 1 L : Nat))).set 1 (.int .i64 (cntV 2 1 L : Nat))).set 2 (.int .i64 (cntV 1 2 L : Nat))).set 3 (.int .i64 (cntV 2 2 L : Nat))).set 4 (.int .i64 (cntV 1 5 L : Nat))).set 5 (.int .i64 (cntV 2 5 L : Nat))).set 6 (.int .i64 (rndV L : Nat))
      refine bodyPost_ret (results_c0 rfl rfl (run_loadVar_mid _ w.heap.size 0 71 (cntVC L).toList _ (fun j v hv => by rw [Nat.zero_add, HF.cell]; rw [Array.getElem?_toList] at hv; exact hv) Tryz.underlying71 rfl (by kernel_rfl))) rfl ?_
      exact ⟨by simp, (((((((HB.out.setCell (p := ⟨w.heap.size, 0, none⟩) (Nat.le_refl _) _).setCell (p := ⟨w.heap.size, 1, none⟩) (Nat.le_refl _) _).setCell (p := ⟨w.heap.size, 2, none⟩) (Nat.le_refl _) _).setCell (p := ⟨w.heap.size, 3, none⟩) (Nat.le_refl _) _).setCell (p := ⟨w.heap.size, 4, none⟩) (Nat.le_refl _) _).setCell (p := ⟨w.heap.size, 5, none⟩) (Nat.le_refl _) _).setCell (p := ⟨w.heap.size, 6, none⟩) (Nat.le_refl _) _)⟩
end Go.Proofs.YtibeihcpehikoaaGreat

namespace Go.Proofs.YtibeihcpehikoaaGreat
open Go.RowKit
attribute [local irreducible] wpMixU
set_option maxRecDepth 100000
set_option linter.unusedSimpArgs false
theorem allE_le : ∀ (l : List PgP), (∀ p ∈ l, p.evs.length ≤ 40) → (allE l).length ≤ 40 * l.length
  | [], _ => Nat.le_refl _
  | p :: l, h => by
    have h1 := allE_le l (fun q hq => h q (by simp [hq]))
    have h2 := h p (by simp)
    have e : allE (p :: l) = p.evs ++ allE l := by unfold allE; rw [List.flatMap_cons]
    rw [e, List.length_append, List.length_cons]
    omega
theorem wf_ofH {n : Int} (h1 : -9223372036854775808 ≤ n) (h2 : n ≤ 9223372036854775807) : (Lit.int .i64 n).wf = true := by
  have e1 : IntKind.i64.min = -9223372036854775808 := by decide
  have e2 : IntKind.i64.max = 9223372036854775807 := by decide
  show (decide (IntKind.i64.min ≤ n) && decide (n ≤ IntKind.i64.max)) = true
  rw [e1, e2, decide_eq_true h1, decide_eq_true h2]
  rfl
theorem fit_wfH {e : Ev} (h : e.Fit) : e.key.Wf := fun x hx => by
  simp only [Ev.key, List.mem_cons, List.not_mem_nil, or_false] at hx
  rcases hx with rfl | rfl | rfl | rfl
  · exact wf_ofH h.frame.1 h.frame.2
  · exact wf_ofH h.emitter.1 h.emitter.2
  · exact wf_ofH h.kind.1 h.kind.2
  · exact wf_ofH h.ord.1 h.ord.2
theorem same_evT {w : World} {b b' : Nat} (A B : Option Addr) (n m c d : Nat) (L : List Ev) (h1 : OwnL w b 62 9 (.slice A n c) Ev.cells L) (h2 : OwnL w b' 62 9 (.slice B m d) Ev.cells L) (hL : L.length ≤ 1000000000) :
    Calls Tryz.prog 21 #[.slice A n c, .slice B m d] w fun e w' => e = .returned (.bool true) ∧ Below w.heap.size w w' := by
  have e1 := h1.len
  have e2 := h2.len
  have r1 := h1.rd
  have r2 := h2.rd
  rw [e1, e2]
  refine (same_any A B c d L L w hL r1 r2).mono ?_
  rintro e w' ⟨rfl, hb⟩
  exact ⟨by rw [decide_eq_true (rfl : L = L)], hb⟩
def isVT (x v : Value) : Prop := v = x
def noRT (_ : Value) (_ : World) : Prop := True
set_option maxHeartbeats 16000000 in
theorem tholds_any (A As : Option Addr) (c cs : Nat) (L : List PgP) (st : List Cm) (w : World) (hr : Rd w w.heap.size A (L.flatMap PgP.cells)) (hin : ∀ p ∈ L, p.In w) (hs : Rd w w.heap.size As (st.flatMap Cm.cells)) (hcs : ∀ x ∈ st, x.e.Fit) (hcap : L.length ≤ 9223372036854775807) (hcap2 : st.length ≤ 9223372036854775807) :
    Calls Tryz.prog 4 #[.slice A L.length c, .slice As st.length cs] w fun e w' => e = .returned (.bool true) ∧ Below w.heap.size w w' := by
  have HR := Lib.hid hr
  have HIN := Lib.hid hin
  have HS := Lib.hid hs
  have HCS := Lib.hid hcs
  obtain ⟨m, hm⟩ : ∃ m, st.length = m := ⟨_, rfl⟩
  have HM := Lib.hid hm
  obtain ⟨nL, hnL⟩ : ∃ nL, L.length = nL := ⟨_, rfl⟩
  have HNL := Lib.hid hnL
  rw [hm] at hcap2 ⊢
  rw [hnL] at hcap ⊢
  clear hr hin hs hcs hm hnL
  go_enter Tryz.func4, Tryz.ntmps4
  by_cases h40 : 40 < nL
  · go_wp2_with (first | (go_at_call 15; refine (awake26_any _).mono ?_; rintro e w1 ⟨rfl, hb1⟩; have HB1 := Lib.hid hb1; clear hb1))
    go_ret
    exact ⟨rfl, HB1.out⟩
  · by_cases h100 : 100 < m
    · go_wp2_with (first | (go_at_call 15; refine (awake26_any _).mono ?_; rintro e w1 ⟨rfl, hb1⟩; have HB1 := Lib.hid hb1; clear hb1))
      go_ret
      exact ⟨rfl, HB1.out⟩
    · go_upto_region 6 with (first | (go_at_call 15; refine (awake26_any _).mono ?_; rintro e w1 ⟨rfl, hb1⟩; have HB1 := Lib.hid hb1; clear hb1))
      obtain ⟨w2, hw2⟩ : ∃ w2, w2 = w1.alloc (.cells #[] 62) := ⟨_, rfl⟩
      have HO2 : Hid (OwnL w2 w.heap.size 62 9 (.slice (some ⟨w1.heap.size, 0, none⟩) 0 0) Ev.cells (allE (L.take 0))) := Lib.hid (by
        rw [hw2]
        exact OwnL.lit (f := Ev.cells) (m := 9) (n := 0) (c := 0) [] #[] HB1.out.size (by simp [maxLen]) Ev.cells_length rfl rfl rfl)
      have HB2 : Hid (Below w.heap.size w w2) := Lib.hid (by rw [hw2]; exact bAlloc HB1.out _)
      rw [← hw2]
      obtain ⟨g1, hg1⟩ : ∃ g1, w1.heap.size = g1 := ⟨_, rfl⟩
      rw [hg1] at HO2 ⊢
      clear hw2 hg1 HB1
      go_wp2_with fail
      go_loopw [5, 6] (fun u v wr => ∃ k : Nat, k ≤ nL ∧ v = .int .i64 k ∧ ∃ A' n' c', u = .slice A' n' c' ∧ Hid (OwnL wr w.heap.size 62 9 (.slice A' n' c') Ev.cells (allE (L.take k))) ∧ Hid (∀ p ∈ L.take k, p.evs.length ≤ 40) ∧ Hid (Below w.heap.size w wr)) (fun _ v _ => nL - (intOf v).toNat)
      case atStart => exact ⟨0, Nat.zero_le _, rfl, _, _, _, rfl, HO2, Lib.hid (by simp), HB2⟩
      case round =>
        obtain ⟨k, hk, rfl, A', n', c', rfl, HO, HP, HB⟩ := hrel
        clear HO2 HB2
        by_cases hlt : k < nL
        · have hks : k < L.length := by rw [HNL.out]; exact hlt
          obtain ⟨b, off, rfl, hbl, y0, y1⟩ := (HR.out.below HB.out (Nat.le_refl _)).pg hks
          have hbw : b < wr.heap.size := Nat.lt_of_lt_of_le hbl HB.out.size
          have HSN := Lib.hid (allE_snoc L k hks)
          have HPN : Hid (L[k].evs.length ≤ 40 → ∀ p ∈ L.take (k + 1), p.evs.length ≤ 40) := Lib.hid (fun h p hp => by
            rw [List.take_succ_eq_append_getElem hks] at hp
            rcases List.mem_append.1 hp with hp | hp
            · exact HP.out p hp
            · rw [List.mem_singleton.1 hp]; exact h)
          have hal := allE_le _ HP.out
          rw [List.length_take] at hal
          have hpi := HIN.out L[k] (List.getElem_mem hks)
          obtain ⟨p, hp⟩ : ∃ p, L[k] = p := ⟨_, rfl⟩
          rw [hp] at y0 y1 HSN HPN hpi
          have HRP : Hid (Rd wr wr.heap.size p.A (p.evs.flatMap Ev.cells)) := Lib.hid ((hpi.rows.below HB.out (Nat.le_refl _)).more HB.out.size)
          obtain ⟨ne, hne⟩ : ∃ ne, p.evs.length = ne := ⟨_, rfl⟩
          have HNE := Lib.hid hne
          rw [hne] at y1 HPN
          clear hp hne hpi hks hbl
          by_cases hne40 : 40 < ne
          · go_wp2
            go_ret
            exact ⟨rfl, HB.out⟩
          · go_wp2_with (first | (at_builtin; refine wpList_app_ev rfl (.tmp 38) (.tmp 43) rfl w.heap.size _ (allE (L.take k)) p.evs HO.out rfl _ _ ne _ HNE.out.symm rfl HRP.out (by have := HNE.out; omega) HB.out.size ?_; intro A8 c8 n8 w8 hn8 ho8 hg8; have HO8 := Lib.hid ho8; have HB8 := Lib.hid (HB.out.grown hg8 HB.out.size (fun k e => HO.out.base_le k e)); clear ho8 hg8))
            go_roundw
            case rel => exact ⟨k + 1, by omega, by go_num, A8, n8, c8, rfl, Lib.hid (by rw [HSN.out]; exact HO8.out), Lib.hid (HPN.out (by omega)), HB8⟩
            case measure => simp [intOf]; omega
        · obtain rfl : nL = k := by omega
          rw [List.take_of_length_le (by rw [HNL.out]; exact Nat.le_refl _)] at HO HP
          have hE40 := allE_le L HP.out
          obtain ⟨N, hN⟩ : ∃ N, holdsF (allE L) st = N := ⟨_, rfl⟩
          have HHO : Hid (∀ W, Below w.heap.size w W → Calls Tryz.prog 23 #[.slice A nL c, .slice As m cs] W fun e w' => e = .returned (.tuple #[.int .i64 N, .bool ((N : Int) == (m : Int))]) ∧ Below W.heap.size W w') := Lib.hid (fun W hW => by
            have h1 := callsIn_wide.1 (holds_any A As c cs L st W (by have := HNL.out; omega) (fun p hp => by have := HP.out p hp; omega) (by have := HM.out; omega) ((HR.out.below hW (Nat.le_refl _)).more hW.size) (fun p hp => ((HIN.out p hp).rows.below hW (Nat.le_refl _)).more hW.size) ((HS.out.below hW (Nat.le_refl _)).more hW.size))
            rw [hN, HM.out, HNL.out, ← beq_nat] at h1
            exact h1)
          have HSR : Hid (∀ W, Below w.heap.size w W → Calls Tryz.prog 24 #[.slice A nL c] W fun e w' => ∃ (A' : Option Addr) (n' c' : Nat), e = .returned (.slice A' n' c') ∧ OwnL w' W.heap.size 62 9 (.slice A' n' c') Ev.cells (allE L) ∧ Below W.heap.size W w') := Lib.hid (fun W hW => by
            have h1 := stream_any A c L W (by have := HNL.out; omega) (fun p hp => by have := HP.out p hp; omega) (by have := HNL.out; omega) ((HR.out.below hW (Nat.le_refl _)).more hW.size) (fun p hp => ((HIN.out p hp).rows.below hW (Nat.le_refl _)).more hW.size)
            rw [HNL.out] at h1
            exact h1.mono (fun e w' ⟨A', c', h1, h2, h3⟩ => ⟨A', _, c', h1, h2, h3⟩))
          have HHE : Hid (∀ W, Below w.heap.size w W → Calls Tryz.prog 25 #[.slice As m cs] W fun e w' => ∃ (A' : Option Addr) (n' c' : Nat), e = .returned (.slice A' n' c') ∧ OwnL w' W.heap.size 62 9 (.slice A' n' c') Ev.cells (heardL st) ∧ Below W.heap.size W w') := Lib.hid (fun W hW => by
            have h1 := theard_any As cs st W (by have := HM.out; omega) (fun x hx => fit_wfH (HCS.out x hx)) ((HS.out.below hW (Nat.le_refl _)).more hW.size)
            rw [HM.out] at h1
            exact h1.mono (fun e w' ⟨A', c', h1, h2, h3⟩ => ⟨A', _, c', h1, h2, h3⟩))
          have HRH : Hid (∀ W, Below w.heap.size w W → Calls Tryz.prog 26 #[.slice As m cs] W fun e w' => ∃ (A' : Option Addr) (n' c' : Nat), e = .returned (.slice A' n' c') ∧ OwnL w' W.heap.size 62 9 (.slice A' n' c') Ev.cells (heardL st) ∧ Below W.heap.size W w') := Lib.hid (fun W hW => by
            have h1 := r26heard_any As cs st W (by have := HM.out; omega) ((HS.out.below hW (Nat.le_refl _)).more hW.size)
            rw [HM.out] at h1
            exact h1)
          have hhl := (heardL_ok st [] List.Pairwise.nil).2
          have HHL : Hid ((heardL st).length ≤ 1000000000) := Lib.hid (by unfold heardL; have := HM.out; simp at hhl; omega)
          have HEL : Hid ((allE L).length ≤ 2000) := Lib.hid (by have := HNL.out; omega)
          obtain ⟨E, hE⟩ : ∃ E, allE L = E := ⟨_, rfl⟩
          rw [hE] at HO hN HSR HEL
          have HN := Lib.hid hN
          have hnE := HO.out.len
          have HNE2 := Lib.hid hnE
          have hn2 : n' ≤ 2000 := by have := HEL.out; omega
          clear hE40 hN hE hhl hnE HP HR HIN HCS HNL
          go_upto_block 2 with fail
          go_cut [5, 7] (fun u v wx => u = .slice A' n' c' ∧ v = .int .i64 N ∧ Hid (OwnL wx w.heap.size 62 9 (.slice A' n' c') Ev.cells E) ∧ Hid (Below w.heap.size w wx))
          case first =>
            go_wp2_with fail
            go_loopw [7] (fun v wr => ∃ k : Nat, k ≤ m ∧ v = .int .i64 k ∧ Hid (∀ i, i < k → ∃ c, st[i]? = some c ∧ E[i]? = some c.e ∧ c.kind = 4) ∧ Hid (OwnL wr w.heap.size 62 9 (.slice A' n' c') Ev.cells E) ∧ Hid (Below w.heap.size w wr)) (fun v _ => m - (intOf v).toNat)
            case atStart => exact ⟨0, Nat.zero_le _, rfl, Lib.hid (fun i h => absurd h (Nat.not_lt_zero _)), HO, HB⟩
            case round =>
              clear HO HB
              obtain ⟨k, hk, rfl, HMT, HO, HB⟩ := hrel
              by_cases hkn : k < n'
              · by_cases hkm : k < m
                · have hks : k < st.length := by rw [HM.out]; exact hkm
                  have hkE : k < E.length := by rw [← HNE2.out]; exact hkn
                  obtain ⟨gA, rfl, -, -, hgA⟩ := HO.out.formA (by omega)
                  have hrx : wr.rangeAt gA (k * 9) E[k].cells := fun j v hv => HO.out.cell Ev.cells_length (k := k) (j := j) (u := v) hkE hv
                  obtain ⟨b, off, rfl, hbl, z0, -⟩ := (HS.out.below HB.out (Nat.le_refl _)).cm hks
                  have hry := (HS.out.below HB.out (Nat.le_refl _)).cmE hks rfl
                  have hgs : st[k]? = some st[k] := List.getElem?_eq_getElem hks
                  have hge : E[k]? = some E[k] := List.getElem?_eq_getElem hkE
                  have hbw : b < wr.heap.size := Nat.lt_of_lt_of_le hbl HB.out.size
                  obtain ⟨x, hx⟩ : ∃ x, st[k] = x := ⟨_, rfl⟩
                  obtain ⟨y, hy⟩ : ∃ y, E[k] = y := ⟨_, rfl⟩
                  rw [hx] at z0 hry hgs
                  rw [hy] at hrx hge
                  have HRY := Lib.hid hry
                  have HRX := Lib.hid hrx
                  have HGS := Lib.hid hgs
                  have HGE := Lib.hid hge
                  clear hx hy hry hrx hgs hge hbl hks hkE
                  by_cases hk4 : x.kind = 4
                  · have q4 : (x.kind == 4) = true := by simp [hk4]
                    by_cases hxy : x.e = y
                    · have HNE : Hid (∀ W, (binOp .eql 62 (.agg x.e.cells.toArray) (.agg y.cells.toArray)).run Tryz.prog W = .ok (.bool true) W) := Lib.hid (fun W => by have h1 := ev_eql x.e y W; rw [decide_eq_true hxy] at h1; exact h1)
                      have HMN : Hid (∀ i, i < k + 1 → ∃ c, st[i]? = some c ∧ E[i]? = some c.e ∧ c.kind = 4) := Lib.hid (fun i hi => by
                        by_cases hik : i < k
                        · exact HMT.out i hik
                        · obtain rfl : i = k := by omega
                          exact ⟨x, HGS.out, by rw [HGE.out, hxy], hk4⟩)
                      clear hk4 hxy
                      go_upto_region 13 with fail
                      refine wp_region_mixedU [.pure, .pure, .pure, .pure, .pure, .pure, .pure, .pure, .pure, .pure, .pure, .pure, .pure, .pure, .pure, .held, .pure, .pure, .pure, .pure, .pure, .pure, .pure, .held, .pure, .pure, .pure, .held, .pure, .pure] (by kernel_rfl) (by kernel_rfl) ?_
                      (refine mixU_pure rfl rfl rfl (fun K hK => ?_); go_big_quiet_op; refine hK _ ?_; clear hK K)
                      (refine mixU_pure rfl rfl rfl (fun K hK => ?_); go_big_quiet_op; refine hK _ ?_; clear hK K)
                      refine mixU_run (.int .i64 n') rfl rfl (fun W => runs_lenS (.tmp 46) 52 62 rfl Tryz.underlying52 (some ⟨gA, 0, none⟩) n' c' rfl W) ?_
                      simp only [Act.put, List.setIfInBounds_toArray, List.set_cons_zero, List.set_cons_succ]
                      (refine mixU_pure rfl rfl rfl (fun K hK => ?_); go_big_quiet_op; refine hK _ ?_; clear hK K)
                      (refine mixU_pure rfl rfl rfl (fun K hK => ?_); go_big_quiet_op; refine hK _ ?_; clear hK K)
                      (refine mixU_pure rfl rfl rfl (fun K hK => ?_); go_big_quiet_op; refine hK _ ?_; clear hK K)
                      (refine mixU_pure rfl rfl rfl (fun K hK => ?_); go_big_quiet_op; refine hK _ ?_; clear hK K)
                      refine mixU_run (.int .i64 m) rfl rfl (fun W => runs_lenS (.tmp 51) 58 64 rfl Tryz.underlying58 (some ⟨b, off, none⟩) m cs rfl W) ?_
                      simp only [Act.put, List.setIfInBounds_toArray, List.set_cons_zero, List.set_cons_succ]
                      (refine mixU_pure rfl rfl rfl (fun K hK => ?_); go_big_quiet_op; refine hK _ ?_; clear hK K)
                      (refine mixU_pure rfl rfl rfl (fun K hK => ?_); go_big_quiet_op; refine hK _ ?_; clear hK K)
                      (refine mixU_pure rfl rfl rfl (fun K hK => ?_); go_big_quiet_op; refine hK _ ?_; clear hK K)
                      (refine mixU_pure rfl rfl rfl (fun K hK => ?_); go_big_quiet_op; refine hK _ ?_; clear hK K)
                      (refine mixU_pure rfl rfl rfl (fun K hK => ?_); go_big_quiet_op; refine hK _ ?_; clear hK K)
                      (refine mixU_pure rfl rfl rfl (fun K hK => ?_); go_big_quiet_op; refine hK _ ?_; clear hK K)
                      (refine mixU_pure rfl rfl rfl (fun K hK => ?_); go_big_quiet_op; refine hK _ ?_; clear hK K)
                      (refine mixU_held rfl rfl rfl (by first | exact fun _ h => h | exact fun _ h => h.2) (fun K hK => ?_); go_big_quiet_op; refine hK _ ?_; clear hK K)
                      (refine mixU_pure rfl rfl rfl (fun K hK => ?_); go_big_quiet_op; refine hK _ ?_; clear hK K)
                      (refine mixU_pure rfl rfl rfl (fun K hK => ?_); go_big_quiet_op; refine hK _ ?_; clear hK K)
                      (refine mixU_pure rfl rfl rfl (fun K hK => ?_); go_big_quiet_op; refine hK _ ?_; clear hK K)
                      (refine mixU_pure rfl rfl rfl (fun K hK => ?_); go_big_quiet_op; refine hK _ ?_; clear hK K)
                      (refine mixU_pure rfl rfl rfl (fun K hK => ?_); go_big_quiet_op; refine hK _ ?_; clear hK K)
                      (refine mixU_pure rfl rfl rfl (fun K hK => ?_); go_big_quiet_op; refine hK _ ?_; clear hK K)
                      (refine mixU_pure rfl rfl rfl (fun K hK => ?_); go_big_quiet_op; refine hK _ ?_; clear hK K)
                      refine mixU_load rfl rfl (fun _ h => h) 62 (.tmp 67) rfl b (off + k * 12 + 1) rfl x.e.cells _ hbw HRY.out Tryz.underlying62 rfl (by kernel_rfl) ?_
                      simp only [Act.put, List.setIfInBounds_toArray, List.set_cons_zero, List.set_cons_succ]
                      (refine mixU_pure rfl rfl rfl (fun K hK => ?_); go_big_quiet_op; refine hK _ ?_; clear hK K)
                      (refine mixU_pure rfl rfl rfl (fun K hK => ?_); go_big_quiet_op; refine hK _ ?_; clear hK K)
                      (refine mixU_pure rfl rfl rfl (fun K hK => ?_); go_big_quiet_op; refine hK _ ?_; clear hK K)
                      refine mixU_load rfl rfl (fun _ h => h) 62 (.tmp 71) rfl gA (k * 9) rfl y.cells _ hgA HRX.out Tryz.underlying62 rfl (by kernel_rfl) ?_
                      simp only [Act.put, List.setIfInBounds_toArray, List.set_cons_zero, List.set_cons_succ]
                      refine mixU_run (.bool true) rfl rfl (runs_eql rfl rfl rfl (by kernel_rfl) HNE.out) ?_
                      simp only [Act.put, List.setIfInBounds_toArray, List.set_cons_zero, List.set_cons_succ]
                      (refine mixU_pure rfl rfl rfl (fun K hK => ?_); go_big_quiet_op; refine hK _ ?_; clear hK K)
                      refine mixU_nil ?_
                      rintro W4 hg4
                      go_wp2
                      go_roundw
                      case rel => exact ⟨k + 1, by omega, by go_num, HMN, Lib.hid (HO.out.below hg4), Lib.hid (HB.out.trans (Below.mono hg4 HB.out.size))⟩
                      case measure => simp [intOf]; omega
                    · have HNE : Hid (∀ W, (binOp .eql 62 (.agg x.e.cells.toArray) (.agg y.cells.toArray)).run Tryz.prog W = .ok (.bool false) W) := Lib.hid (fun W => by have h1 := ev_eql x.e y W; rw [decide_eq_false hxy] at h1; exact h1)
                      have HKN : Hid (N = k) := Lib.hid (by rw [← HN.out]; exact holdsF_at E st k HMT.out (fun c hc he => by rw [HGS.out] at hc; cases hc; rw [HGE.out] at he; cases he; exact absurd rfl hxy))
                      clear hk4 hxy
                      go_upto_region 13 with fail
                      refine wp_region_mixedU [.pure, .pure, .pure, .pure, .pure, .pure, .pure, .pure, .pure, .pure, .pure, .pure, .pure, .pure, .pure, .held, .pure, .pure, .pure, .pure, .pure, .pure, .pure, .held, .pure, .pure, .pure, .held, .pure, .pure] (by kernel_rfl) (by kernel_rfl) ?_
                      (refine mixU_pure rfl rfl rfl (fun K hK => ?_); go_big_quiet_op; refine hK _ ?_; clear hK K)
                      (refine mixU_pure rfl rfl rfl (fun K hK => ?_); go_big_quiet_op; refine hK _ ?_; clear hK K)
                      refine mixU_run (.int .i64 n') rfl rfl (fun W => runs_lenS (.tmp 46) 52 62 rfl Tryz.underlying52 (some ⟨gA, 0, none⟩) n' c' rfl W) ?_
                      simp only [Act.put, List.setIfInBounds_toArray, List.set_cons_zero, List.set_cons_succ]
                      (refine mixU_pure rfl rfl rfl (fun K hK => ?_); go_big_quiet_op; refine hK _ ?_; clear hK K)
                      (refine mixU_pure rfl rfl rfl (fun K hK => ?_); go_big_quiet_op; refine hK _ ?_; clear hK K)
                      (refine mixU_pure rfl rfl rfl (fun K hK => ?_); go_big_quiet_op; refine hK _ ?_; clear hK K)
                      (refine mixU_pure rfl rfl rfl (fun K hK => ?_); go_big_quiet_op; refine hK _ ?_; clear hK K)
                      refine mixU_run (.int .i64 m) rfl rfl (fun W => runs_lenS (.tmp 51) 58 64 rfl Tryz.underlying58 (some ⟨b, off, none⟩) m cs rfl W) ?_
                      simp only [Act.put, List.setIfInBounds_toArray, List.set_cons_zero, List.set_cons_succ]
                      (refine mixU_pure rfl rfl rfl (fun K hK => ?_); go_big_quiet_op; refine hK _ ?_; clear hK K)
                      (refine mixU_pure rfl rfl rfl (fun K hK => ?_); go_big_quiet_op; refine hK _ ?_; clear hK K)
                      (refine mixU_pure rfl rfl rfl (fun K hK => ?_); go_big_quiet_op; refine hK _ ?_; clear hK K)
                      (refine mixU_pure rfl rfl rfl (fun K hK => ?_); go_big_quiet_op; refine hK _ ?_; clear hK K)
                      (refine mixU_pure rfl rfl rfl (fun K hK => ?_); go_big_quiet_op; refine hK _ ?_; clear hK K)
                      (refine mixU_pure rfl rfl rfl (fun K hK => ?_); go_big_quiet_op; refine hK _ ?_; clear hK K)
                      (refine mixU_pure rfl rfl rfl (fun K hK => ?_); go_big_quiet_op; refine hK _ ?_; clear hK K)
                      (refine mixU_held rfl rfl rfl (by first | exact fun _ h => h | exact fun _ h => h.2) (fun K hK => ?_); go_big_quiet_op; refine hK _ ?_; clear hK K)
                      (refine mixU_pure rfl rfl rfl (fun K hK => ?_); go_big_quiet_op; refine hK _ ?_; clear hK K)
                      (refine mixU_pure rfl rfl rfl (fun K hK => ?_); go_big_quiet_op; refine hK _ ?_; clear hK K)
                      (refine mixU_pure rfl rfl rfl (fun K hK => ?_); go_big_quiet_op; refine hK _ ?_; clear hK K)
                      (refine mixU_pure rfl rfl rfl (fun K hK => ?_); go_big_quiet_op; refine hK _ ?_; clear hK K)
                      (refine mixU_pure rfl rfl rfl (fun K hK => ?_); go_big_quiet_op; refine hK _ ?_; clear hK K)
                      (refine mixU_pure rfl rfl rfl (fun K hK => ?_); go_big_quiet_op; refine hK _ ?_; clear hK K)
                      (refine mixU_pure rfl rfl rfl (fun K hK => ?_); go_big_quiet_op; refine hK _ ?_; clear hK K)
                      refine mixU_load rfl rfl (fun _ h => h) 62 (.tmp 67) rfl b (off + k * 12 + 1) rfl x.e.cells _ hbw HRY.out Tryz.underlying62 rfl (by kernel_rfl) ?_
                      simp only [Act.put, List.setIfInBounds_toArray, List.set_cons_zero, List.set_cons_succ]
                      (refine mixU_pure rfl rfl rfl (fun K hK => ?_); go_big_quiet_op; refine hK _ ?_; clear hK K)
                      (refine mixU_pure rfl rfl rfl (fun K hK => ?_); go_big_quiet_op; refine hK _ ?_; clear hK K)
                      (refine mixU_pure rfl rfl rfl (fun K hK => ?_); go_big_quiet_op; refine hK _ ?_; clear hK K)
                      refine mixU_load rfl rfl (fun _ h => h) 62 (.tmp 71) rfl gA (k * 9) rfl y.cells _ hgA HRX.out Tryz.underlying62 rfl (by kernel_rfl) ?_
                      simp only [Act.put, List.setIfInBounds_toArray, List.set_cons_zero, List.set_cons_succ]
                      refine mixU_run (.bool false) rfl rfl (runs_eql rfl rfl rfl (by kernel_rfl) HNE.out) ?_
                      simp only [Act.put, List.setIfInBounds_toArray, List.set_cons_zero, List.set_cons_succ]
                      (refine mixU_pure rfl rfl rfl (fun K hK => ?_); go_big_quiet_op; refine hK _ ?_; clear hK K)
                      refine mixU_nil ?_
                      rintro W4 hg4
                      go_wp2_with fail
                      go_meet
                      exact ⟨rfl, by rw [HKN.out], Lib.hid (HO.out.below hg4), Lib.hid (HB.out.trans (Below.mono hg4 HB.out.size))⟩
                  · have q4 : (x.kind == 4) = false := by simp [hk4]
                    have HKN : Hid (N = k) := Lib.hid (by rw [← HN.out]; exact holdsF_at E st k HMT.out (fun c hc he => by rw [HGS.out] at hc; cases hc; exact hk4))
                    clear hk4
                    go_upto_region 13 with fail
                    refine wp_region_mixedU [.pure, .pure, .pure, .pure, .pure, .pure, .pure, .pure, .pure, .pure, .pure, .pure, .pure, .pure, .pure, .held, .pure, .pure, .pure, .pure, .pure, .pure, .pure, .held, .pure, .pure, .pure, .held, .pure, .pure] (by kernel_rfl) (by kernel_rfl) ?_
                    (refine mixU_pure rfl rfl rfl (fun K hK => ?_); go_big_quiet_op; refine hK _ ?_; clear hK K)
                    (refine mixU_pure rfl rfl rfl (fun K hK => ?_); go_big_quiet_op; refine hK _ ?_; clear hK K)
                    refine mixU_run (.int .i64 n') rfl rfl (fun W => runs_lenS (.tmp 46) 52 62 rfl Tryz.underlying52 (some ⟨gA, 0, none⟩) n' c' rfl W) ?_
                    simp only [Act.put, List.setIfInBounds_toArray, List.set_cons_zero, List.set_cons_succ]
                    (refine mixU_pure rfl rfl rfl (fun K hK => ?_); go_big_quiet_op; refine hK _ ?_; clear hK K)
                    (refine mixU_pure rfl rfl rfl (fun K hK => ?_); go_big_quiet_op; refine hK _ ?_; clear hK K)
                    (refine mixU_pure rfl rfl rfl (fun K hK => ?_); go_big_quiet_op; refine hK _ ?_; clear hK K)
                    (refine mixU_pure rfl rfl rfl (fun K hK => ?_); go_big_quiet_op; refine hK _ ?_; clear hK K)
                    refine mixU_run (.int .i64 m) rfl rfl (fun W => runs_lenS (.tmp 51) 58 64 rfl Tryz.underlying58 (some ⟨b, off, none⟩) m cs rfl W) ?_
                    simp only [Act.put, List.setIfInBounds_toArray, List.set_cons_zero, List.set_cons_succ]
                    (refine mixU_pure rfl rfl rfl (fun K hK => ?_); go_big_quiet_op; refine hK _ ?_; clear hK K)
                    (refine mixU_pure rfl rfl rfl (fun K hK => ?_); go_big_quiet_op; refine hK _ ?_; clear hK K)
                    (refine mixU_pure rfl rfl rfl (fun K hK => ?_); go_big_quiet_op; refine hK _ ?_; clear hK K)
                    (refine mixU_pure rfl rfl rfl (fun K hK => ?_); go_big_quiet_op; refine hK _ ?_; clear hK K)
                    (refine mixU_pure rfl rfl rfl (fun K hK => ?_); go_big_quiet_op; refine hK _ ?_; clear hK K)
                    (refine mixU_pure rfl rfl rfl (fun K hK => ?_); go_big_quiet_op; refine hK _ ?_; clear hK K)
                    (refine mixU_pure rfl rfl rfl (fun K hK => ?_); go_big_quiet_op; refine hK _ ?_; clear hK K)
                    (refine mixU_held rfl rfl rfl (by first | exact fun _ h => h | exact fun _ h => h.2) (fun K hK => ?_); go_big_quiet_op; refine hK _ ?_; clear hK K)
                    (refine mixU_pure rfl rfl rfl (fun K hK => ?_); go_big_quiet_op; refine hK _ ?_; clear hK K)
                    (refine mixU_pure rfl rfl rfl (fun K hK => ?_); go_big_quiet_op; refine hK _ ?_; clear hK K)
                    (refine mixU_pure rfl rfl rfl (fun K hK => ?_); go_big_quiet_op; refine hK _ ?_; clear hK K)
                    iterate 10 (refine mixU_skip rfl ?_; simp only [Act.put, List.setIfInBounds_toArray, List.set_cons_zero, List.set_cons_succ])
                    (refine mixU_pure rfl rfl rfl (fun K hK => ?_); go_big_quiet_op; refine hK _ ?_; clear hK K)
                    refine mixU_nil ?_
                    rintro W4 hg4
                    go_wp2_with fail
                    go_meet
                    exact ⟨rfl, by rw [HKN.out], Lib.hid (HO.out.below hg4), Lib.hid (HB.out.trans (Below.mono hg4 HB.out.size))⟩
                · have HKN : Hid (N = k) := Lib.hid (by rw [← HN.out]; exact holdsF_at E st k HMT.out (fun c hc he => by rw [List.getElem?_eq_none (by rw [HM.out]; omega)] at hc; cases hc))
                  go_upto_region 13 with fail
                  refine wp_region_mixedU [.pure, .pure, .pure, .pure, .pure, .pure, .pure, .pure, .pure, .pure, .pure, .pure, .pure, .pure, .pure, .held, .pure, .pure, .pure, .pure, .pure, .pure, .pure, .held, .pure, .pure, .pure, .held, .pure, .pure] (by kernel_rfl) (by kernel_rfl) ?_
                  (refine mixU_pure rfl rfl rfl (fun K hK => ?_); go_big_quiet_op; refine hK _ ?_; clear hK K)
                  (refine mixU_pure rfl rfl rfl (fun K hK => ?_); go_big_quiet_op; refine hK _ ?_; clear hK K)
                  refine mixU_run (.int .i64 n') rfl rfl (fun W => runs_lenS (.tmp 46) 52 62 rfl Tryz.underlying52 A' n' c' rfl W) ?_
                  simp only [Act.put, List.setIfInBounds_toArray, List.set_cons_zero, List.set_cons_succ]
                  (refine mixU_pure rfl rfl rfl (fun K hK => ?_); go_big_quiet_op; refine hK _ ?_; clear hK K)
                  (refine mixU_pure rfl rfl rfl (fun K hK => ?_); go_big_quiet_op; refine hK _ ?_; clear hK K)
                  (refine mixU_pure rfl rfl rfl (fun K hK => ?_); go_big_quiet_op; refine hK _ ?_; clear hK K)
                  (refine mixU_pure rfl rfl rfl (fun K hK => ?_); go_big_quiet_op; refine hK _ ?_; clear hK K)
                  refine mixU_run (.int .i64 m) rfl rfl (fun W => runs_lenS (.tmp 51) 58 64 rfl Tryz.underlying58 As m cs rfl W) ?_
                  simp only [Act.put, List.setIfInBounds_toArray, List.set_cons_zero, List.set_cons_succ]
                  (refine mixU_pure rfl rfl rfl (fun K hK => ?_); go_big_quiet_op; refine hK _ ?_; clear hK K)
                  (refine mixU_pure rfl rfl rfl (fun K hK => ?_); go_big_quiet_op; refine hK _ ?_; clear hK K)
                  (refine mixU_pure rfl rfl rfl (fun K hK => ?_); go_big_quiet_op; refine hK _ ?_; clear hK K)
                  iterate 6 (refine mixU_skip rfl ?_; simp only [Act.put, List.setIfInBounds_toArray, List.set_cons_zero, List.set_cons_succ])
                  (refine mixU_pure rfl rfl rfl (fun K hK => ?_); go_big_quiet_op; refine hK _ ?_; clear hK K)
                  (refine mixU_pure rfl rfl rfl (fun K hK => ?_); go_big_quiet_op; refine hK _ ?_; clear hK K)
                  iterate 10 (refine mixU_skip rfl ?_; simp only [Act.put, List.setIfInBounds_toArray, List.set_cons_zero, List.set_cons_succ])
                  (refine mixU_pure rfl rfl rfl (fun K hK => ?_); go_big_quiet_op; refine hK _ ?_; clear hK K)
                  refine mixU_nil ?_
                  rintro W4 hg4
                  go_wp2_with fail
                  go_meet
                  exact ⟨rfl, by rw [HKN.out], Lib.hid (HO.out.below hg4), Lib.hid (HB.out.trans (Below.mono hg4 HB.out.size))⟩
              · have HKN : Hid (N = k) := Lib.hid (by rw [← HN.out]; exact holdsF_at E st k HMT.out (fun c hc he => by rw [List.getElem?_eq_none (by rw [← HNE2.out]; omega)] at he; cases he))
                go_upto_region 13 with fail
                refine wp_region_mixedU [.pure, .pure, .pure, .pure, .pure, .pure, .pure, .pure, .pure, .pure, .pure, .pure, .pure, .pure, .pure, .held, .pure, .pure, .pure, .pure, .pure, .pure, .pure, .held, .pure, .pure, .pure, .held, .pure, .pure] (by kernel_rfl) (by kernel_rfl) ?_
                (refine mixU_pure rfl rfl rfl (fun K hK => ?_); go_big_quiet_op; refine hK _ ?_; clear hK K)
                (refine mixU_pure rfl rfl rfl (fun K hK => ?_); go_big_quiet_op; refine hK _ ?_; clear hK K)
                refine mixU_run (.int .i64 n') rfl rfl (fun W => runs_lenS (.tmp 46) 52 62 rfl Tryz.underlying52 A' n' c' rfl W) ?_
                simp only [Act.put, List.setIfInBounds_toArray, List.set_cons_zero, List.set_cons_succ]
                (refine mixU_pure rfl rfl rfl (fun K hK => ?_); go_big_quiet_op; refine hK _ ?_; clear hK K)
                (refine mixU_pure rfl rfl rfl (fun K hK => ?_); go_big_quiet_op; refine hK _ ?_; clear hK K)
                iterate 4 (refine mixU_skip rfl ?_; simp only [Act.put, List.setIfInBounds_toArray, List.set_cons_zero, List.set_cons_succ])
                (refine mixU_pure rfl rfl rfl (fun K hK => ?_); go_big_quiet_op; refine hK _ ?_; clear hK K)
                (refine mixU_pure rfl rfl rfl (fun K hK => ?_); go_big_quiet_op; refine hK _ ?_; clear hK K)
                iterate 6 (refine mixU_skip rfl ?_; simp only [Act.put, List.setIfInBounds_toArray, List.set_cons_zero, List.set_cons_succ])
                (refine mixU_pure rfl rfl rfl (fun K hK => ?_); go_big_quiet_op; refine hK _ ?_; clear hK K)
                (refine mixU_pure rfl rfl rfl (fun K hK => ?_); go_big_quiet_op; refine hK _ ?_; clear hK K)
                iterate 10 (refine mixU_skip rfl ?_; simp only [Act.put, List.setIfInBounds_toArray, List.set_cons_zero, List.set_cons_succ])
                (refine mixU_pure rfl rfl rfl (fun K hK => ?_); go_big_quiet_op; refine hK _ ?_; clear hK K)
                refine mixU_nil ?_
                rintro W4 hg4
                go_wp2_with fail
                go_meet
                exact ⟨rfl, by rw [HKN.out], Lib.hid (HO.out.below hg4), Lib.hid (HB.out.trans (Below.mono hg4 HB.out.size))⟩
          case rest =>
            obtain ⟨rfl, rfl, HO9, HB9⟩ := hcut
            clear HO HB
            go_upto_region 16 with (first | (go_at_call 23; refine (HHO.out _ HB9.out).mono ?_; rintro e w10 ⟨rfl, hb10⟩; have HB10 := Lib.hid (HB9.out.trans (hb10.mono HB9.out.size)); have HO10 := Lib.hid (HO9.out.below hb10); clear hb10))
            clear HO9 HB9 HHO
            go_upto_region 18 with (first
              | (go_at_call 24; refine (HSR.out _ HB10.out).mono ?_; rintro e w11 ⟨A1, n1, c1, rfl, ho11, hb11⟩; have HB11 := Lib.hid (HB10.out.trans (hb11.mono HB10.out.size)); have HO11 := Lib.hid (HO10.out.below hb11); have HS1 := Lib.hid (same_evT A1 A' n1 n' c1 c' E ho11 HO11.out (by have := HEL.out; omega)); clear ho11 hb11)
              | (go_at_call 21; refine HS2.out.mono ?_; rintro e w15 ⟨rfl, hb15⟩; have HB15 := Lib.hid (HB14.out.trans (hb15.mono HB14.out.size)); have HO15 := Lib.hid (HO14.out.below hb15); clear hb15)
              | (go_at_call 21; refine HS1.out.mono ?_; rintro e w12 ⟨rfl, hb12⟩; have HB12 := Lib.hid (HB11.out.trans (hb12.mono HB11.out.size)); have HO12 := Lib.hid (HO11.out.below hb12); clear hb12)
              | (go_at_call 25; refine (HHE.out _ HB12.out).mono ?_; rintro e w13 ⟨A3, n3, c3, rfl, ho13, hb13⟩; have HB13 := Lib.hid (HB12.out.trans (hb13.mono HB12.out.size)); have HO13 := Lib.hid (HO12.out.below hb13); have HH13 := Lib.hid ho13; clear ho13 hb13)
              | (go_at_call 26; refine (HRH.out _ HB13.out).mono ?_; rintro e w14 ⟨A4, n4, c4, rfl, ho14, hb14⟩; have HB14 := Lib.hid (HB13.out.trans (hb14.mono HB13.out.size)); have HO14 := Lib.hid (HO13.out.below hb14); have HS2 := Lib.hid (same_evT A3 A4 n3 n4 c3 c4 (heardL st) (HH13.out.below hb14) ho14 HHL.out); clear ho14 hb14)
              | fail)
            clear HSR HHE HRH HB10 HO10 HB11 HO11 HS1 HB12 HO12 HB13 HO13 HH13 HB14 HO14 HS2
            obtain ⟨p1, hp1⟩ : ∃ p, cntV 1 1 E = p := ⟨_, rfl⟩
            obtain ⟨p2, hp2⟩ : ∃ p, cntV 2 1 E = p := ⟨_, rfl⟩
            obtain ⟨p3, hp3⟩ : ∃ p, cntV 1 2 E = p := ⟨_, rfl⟩
            obtain ⟨p4, hp4⟩ : ∃ p, cntV 2 2 E = p := ⟨_, rfl⟩
            obtain ⟨p5, hp5⟩ : ∃ p, cntV 1 5 E = p := ⟨_, rfl⟩
            obtain ⟨p6, hp6⟩ : ∃ p, cntV 2 5 E = p := ⟨_, rfl⟩
            obtain ⟨p7, hp7⟩ : ∃ p, rndV E = p := ⟨_, rfl⟩
            have HCT : Hid (Calls Tryz.prog 27 #[.slice A' n' c'] w15 fun e w' => e = .returned (.agg #[.int .i64 (p1 : Nat), .int .i64 (p2 : Nat), .int .i64 (p3 : Nat), .int .i64 (p4 : Nat), .int .i64 (p5 : Nat), .int .i64 (p6 : Nat), .int .i64 (p7 : Nat)]) ∧ Below w15.heap.size w15 w') := Lib.hid (by
              have h1 := HO15.out.rd
              have h2 := tcount_any A' c' E w15 (by have := HEL.out; omega) h1
              unfold cntVC at h2
              rw [hp1, hp2, hp3, hp4, hp5, hp6, hp7, ← HNE2.out] at h2
              exact h2)
            have HCC : ∀ (em kd : Int) (p : Nat), cntV em kd E = p → Hid (∀ W, OwnL W w.heap.size 62 9 (.slice A' n' c') Ev.cells E → Calls Tryz.prog 28 #[.slice A' n' c', .int .i64 em, .int .i64 kd] W fun e w' => ∃ v, e = .returned v ∧ (isVT (.int .i64 (p : Nat)) v ∧ noRT v w') ∧ Grown W w') := fun em kd p hp => Lib.hid (fun W hW => by
              have h1 := hW.rd
              have h2 := l26count_any A' c' E em kd W (by have := HEL.out; omega) h1
              rw [hp, ← HNE2.out] at h2
              exact h2.mono (fun e w' ⟨h3, h4⟩ => ⟨_, h3, ⟨rfl, trivial⟩, h4 ▸ Grown.refl _⟩))
            have HD1 := HCC 1 1 p1 hp1
            have HD2 := HCC 1 2 p3 hp3
            have HD3 := HCC 1 5 p5 hp5
            have HD4 := HCC 2 1 p2 hp2
            have HD5 := HCC 2 2 p4 hp4
            have HD6 := HCC 2 5 p6 hp6
            have HP7 := Lib.hid hp7
            clear HCC hp1 hp2 hp3 hp4 hp5 hp6 hp7
            go_upto_region 19 with (first | (go_at_call 27; refine HCT.out.mono ?_; rintro e w16 ⟨rfl, hb16⟩; have HB16 := Lib.hid (HB15.out.trans (hb16.mono HB15.out.size)); have HO16 := Lib.hid (HO15.out.below hb16); clear hb16))
            obtain ⟨w17, hw17⟩ : ∃ w17, w17 = w16.alloc (.cells #[.int .i64 (p1 : Nat), .int .i64 (p2 : Nat), .int .i64 (p3 : Nat), .int .i64 (p4 : Nat), .int .i64 (p5 : Nat), .int .i64 (p6 : Nat), .int .i64 (p7 : Nat)] 71) := ⟨_, rfl⟩
            have HK17 : Hid (Blk w17 w16.heap.size 71 #[.int .i64 (p1 : Nat), .int .i64 (p2 : Nat), .int .i64 (p3 : Nat), .int .i64 (p4 : Nat), .int .i64 (p5 : Nat), .int .i64 (p6 : Nat), .int .i64 (p7 : Nat)]) := Lib.hid (by rw [hw17]; exact Blk.new _ _ _)
            have HO17 : Hid (OwnL w17 w.heap.size 62 9 (.slice A' n' c') Ev.cells E) := Lib.hid (by rw [hw17]; exact HO16.out.alloc _)
            have HB17 : Hid (Below w.heap.size w w17) := Lib.hid (by rw [hw17]; exact bAlloc HB16.out _)
            rw [← hw17]
            obtain ⟨gC, hgC⟩ : ∃ gC, w16.heap.size = gC := ⟨_, rfl⟩
            rw [hgC] at HK17 ⊢
            clear hw17 hgC HCT HB15 HO15 HB16 HO16
            go_wp2_with fail
            go_loopw [11] (fun v wr => ∃ q : Nat, q ≤ 2 ∧ v = .int .i64 q ∧ Hid (Blk wr gC 71 #[.int .i64 (p1 : Nat), .int .i64 (p2 : Nat), .int .i64 (p3 : Nat), .int .i64 (p4 : Nat), .int .i64 (p5 : Nat), .int .i64 (p6 : Nat), .int .i64 (p7 : Nat)]) ∧ Hid (OwnL wr w.heap.size 62 9 (.slice A' n' c') Ev.cells E) ∧ Hid (Below w.heap.size w wr)) (fun v _ => 2 - (intOf v).toNat)
            case atStart => exact ⟨0, by omega, rfl, HK17, HO17, HB17⟩
            case round =>
              clear HK17 HO17 HB17
              obtain ⟨q, hq, rfl, HK, HO, HB⟩ := hrel
              have k0 := HK.out.cell 0; have k1 := HK.out.cell 1; have k2 := HK.out.cell 2; have k3 := HK.out.cell 3; have k4 := HK.out.cell 4; have k5 := HK.out.cell 5; have k6 := HK.out.cell 6
              have lk := HK.out.lt
              simp only [List.getElem?_toArray, List.getElem?_cons_zero, List.getElem?_cons_succ] at k0 k1 k2 k3 k4 k5 k6
              have HC1 := Lib.hid (fun W (hW : Grown wr W) => HD1.out W (HO.out.below hW))
              have HC2 := Lib.hid (fun W (hW : Grown wr W) => HD2.out W (HO.out.below hW))
              have HC3 := Lib.hid (fun W (hW : Grown wr W) => HD3.out W (HO.out.below hW))
              have HC4 := Lib.hid (fun W (hW : Grown wr W) => HD4.out W (HO.out.below hW))
              have HC5 := Lib.hid (fun W (hW : Grown wr W) => HD5.out W (HO.out.below hW))
              have HC6 := Lib.hid (fun W (hW : Grown wr W) => HD6.out W (HO.out.below hW))
              by_cases hq0 : q = 0
              · subst hq0
                go_upto_region 22 with fail
                refine wp_region_mixedU [.pure, .pure, .pure, .held, .pure, .pure, .pure, .make, .pure, .pure, .pure, .pure, .pure, .held, .pure, .pure, .pure, .make, .pure, .pure, .pure, .pure, .pure, .pure, .held, .pure, .pure, .pure, .make, .pure, .pure] (by kernel_rfl) (by kernel_rfl) ?_
                repeat (first | (refine mixU_pure rfl rfl rfl (fun K hK => ?_); go_big_quiet_op; refine hK _ ?_; clear hK K) | (refine mixU_held rfl rfl rfl (by first | exact fun _ h => h | exact fun _ h => h.2) (fun K hK => ?_); go_big_quiet_op; refine hK _ ?_; clear hK K))
                refine mixU_act rfl rfl (fun _ h => h) (isVT (.int .i64 (p1 : Nat))) noRT (fun W hW => by
                  have HS9 := Lib.hid (HC1.out W (hW))
                  go_simp
                  exact HS9.out) ?_
                rintro v hv
                obtain rfl : v = .int .i64 (p1 : Nat) := hv
                simp only [Act.put, List.setIfInBounds_toArray, List.set_cons_zero, List.set_cons_succ]
                repeat (first | (refine mixU_pure rfl rfl rfl (fun K hK => ?_); go_big_quiet_op; refine hK _ ?_; clear hK K) | (refine mixU_held rfl rfl rfl (by first | exact fun _ h => h | exact fun _ h => h.2) (fun K hK => ?_); go_big_quiet_op; refine hK _ ?_; clear hK K))
                refine mixU_act rfl rfl (fun _ h => h.2) (isVT (.int .i64 (p3 : Nat))) noRT (fun W hW => by
                  have HS9 := Lib.hid (HC2.out W (hW.2))
                  go_simp
                  exact HS9.out) ?_
                rintro v hv
                obtain rfl : v = .int .i64 (p3 : Nat) := hv
                simp only [Act.put, List.setIfInBounds_toArray, List.set_cons_zero, List.set_cons_succ]
                repeat (first | (refine mixU_pure rfl rfl rfl (fun K hK => ?_); go_big_quiet_op; refine hK _ ?_; clear hK K) | (refine mixU_held rfl rfl rfl (by first | exact fun _ h => h | exact fun _ h => h.2) (fun K hK => ?_); go_big_quiet_op; refine hK _ ?_; clear hK K))
                refine mixU_act rfl rfl (fun _ h => h.2) (isVT (.int .i64 (p5 : Nat))) noRT (fun W hW => by
                  have HS9 := Lib.hid (HC3.out W (hW.2))
                  go_simp
                  exact HS9.out) ?_
                rintro v hv
                obtain rfl : v = .int .i64 (p5 : Nat) := hv
                simp only [Act.put, List.setIfInBounds_toArray, List.set_cons_zero, List.set_cons_succ]
                repeat (first | (refine mixU_pure rfl rfl rfl (fun K hK => ?_); go_big_quiet_op; refine hK _ ?_; clear hK K) | (refine mixU_held rfl rfl rfl (by first | exact fun _ h => h | exact fun _ h => h.2) (fun K hK => ?_); go_big_quiet_op; refine hK _ ?_; clear hK K))
                refine mixU_nil ?_
                rintro W4 ⟨-, hg4⟩
                go_wp2
                go_roundw
                case rel => exact ⟨1, by omega, by go_num, Lib.hid (HK.out.on hg4), Lib.hid (HO.out.below hg4), Lib.hid (HB.out.trans (Below.mono hg4 HB.out.size))⟩
                case measure => simp [intOf]
              · by_cases hq1 : q = 1
                · subst hq1
                  go_upto_region 22 with fail
                  refine wp_region_mixedU [.pure, .pure, .pure, .held, .pure, .pure, .pure, .make, .pure, .pure, .pure, .pure, .pure, .held, .pure, .pure, .pure, .make, .pure, .pure, .pure, .pure, .pure, .pure, .held, .pure, .pure, .pure, .make, .pure, .pure] (by kernel_rfl) (by kernel_rfl) ?_
                  repeat (first | (refine mixU_pure rfl rfl rfl (fun K hK => ?_); go_big_quiet_op; refine hK _ ?_; clear hK K) | (refine mixU_held rfl rfl rfl (by first | exact fun _ h => h | exact fun _ h => h.2) (fun K hK => ?_); go_big_quiet_op; refine hK _ ?_; clear hK K))
                  refine mixU_act rfl rfl (fun _ h => h) (isVT (.int .i64 (p2 : Nat))) noRT (fun W hW => by
                    have HS9 := Lib.hid (HC4.out W (hW))
                    go_simp
                    exact HS9.out) ?_
                  rintro v hv
                  obtain rfl : v = .int .i64 (p2 : Nat) := hv
                  simp only [Act.put, List.setIfInBounds_toArray, List.set_cons_zero, List.set_cons_succ]
                  repeat (first | (refine mixU_pure rfl rfl rfl (fun K hK => ?_); go_big_quiet_op; refine hK _ ?_; clear hK K) | (refine mixU_held rfl rfl rfl (by first | exact fun _ h => h | exact fun _ h => h.2) (fun K hK => ?_); go_big_quiet_op; refine hK _ ?_; clear hK K))
                  refine mixU_act rfl rfl (fun _ h => h.2) (isVT (.int .i64 (p4 : Nat))) noRT (fun W hW => by
                    have HS9 := Lib.hid (HC5.out W (hW.2))
                    go_simp
                    exact HS9.out) ?_
                  rintro v hv
                  obtain rfl : v = .int .i64 (p4 : Nat) := hv
                  simp only [Act.put, List.setIfInBounds_toArray, List.set_cons_zero, List.set_cons_succ]
                  repeat (first | (refine mixU_pure rfl rfl rfl (fun K hK => ?_); go_big_quiet_op; refine hK _ ?_; clear hK K) | (refine mixU_held rfl rfl rfl (by first | exact fun _ h => h | exact fun _ h => h.2) (fun K hK => ?_); go_big_quiet_op; refine hK _ ?_; clear hK K))
                  refine mixU_act rfl rfl (fun _ h => h.2) (isVT (.int .i64 (p6 : Nat))) noRT (fun W hW => by
                    have HS9 := Lib.hid (HC6.out W (hW.2))
                    go_simp
                    exact HS9.out) ?_
                  rintro v hv
                  obtain rfl : v = .int .i64 (p6 : Nat) := hv
                  simp only [Act.put, List.setIfInBounds_toArray, List.set_cons_zero, List.set_cons_succ]
                  repeat (first | (refine mixU_pure rfl rfl rfl (fun K hK => ?_); go_big_quiet_op; refine hK _ ?_; clear hK K) | (refine mixU_held rfl rfl rfl (by first | exact fun _ h => h | exact fun _ h => h.2) (fun K hK => ?_); go_big_quiet_op; refine hK _ ?_; clear hK K))
                  refine mixU_nil ?_
                  rintro W4 ⟨-, hg4⟩
                  go_wp2
                  go_roundw
                  case rel => exact ⟨2, by omega, by go_num, Lib.hid (HK.out.on hg4), Lib.hid (HO.out.below hg4), Lib.hid (HB.out.trans (Below.mono hg4 HB.out.size))⟩
                  case measure => simp [intOf]
                · obtain rfl : q = 2 := by omega
                  clear HC1 HC2 HC3 HC4 HC5 HC6 HD1 HD2 HD3 HD4 HD5 HD6
                  have HOO := HO
                  have HBB := HB
                  go_wp2_with fail
                  go_loopw [12, 13] (fun u v wr2 => ∃ k : Nat, k ≤ n' ∧ v = .int .i64 k ∧ u = .int .i64 (rndV (E.take k) : Nat) ∧ wr2 = wr) (fun _ v _ => n' - (intOf v).toNat)
                  case atStart => exact ⟨0, Nat.zero_le _, rfl, rfl, rfl⟩
                  case round =>
                    obtain ⟨k, hk, rfl, rfl, rfl⟩ := hrel
                    by_cases hkn : k < n'
                    · have hkE : k < E.length := by rw [← HNE2.out]; exact hkn
                      obtain ⟨gA, rfl, -, -, hgA⟩ := HOO.out.formA (by omega)
                      have y2 := HOO.out.cell Ev.cells_length (k := k) (j := 2) hkE rfl
                      have HRS := Lib.hid (rndV_snoc E k hkE)
                      have hrle := rndV_le E k
                      obtain ⟨y, hy⟩ : ∃ y, E[k] = y := ⟨_, rfl⟩
                      obtain ⟨z, hz⟩ : ∃ z, rndV (E.take k) = z := ⟨_, rfl⟩
                      rw [hy] at y2 HRS
                      rw [hz] at HRS hrle ⊢
                      clear hy hz hkE
                      by_cases h7 : y.kind = 7
                      · have q7 : (y.kind == 7) = true := by simp [h7]
                        have HH := Lib.hid (show (if y.kind = 7 then 1 else 0) = 1 from if_pos h7)
                        clear h7
                        go_wp2
                        go_roundw
                        case rel => exact ⟨k + 1, by omega, by go_num, by rw [HRS.out, HH.out]; rfl, trivial⟩
                        case measure => simp [intOf]; omega
                      · have q7 : (y.kind == 7) = false := by simp [h7]
                        have HH := Lib.hid (show (if y.kind = 7 then 1 else 0) = 0 from if_neg h7)
                        clear h7
                        go_wp2
                        go_roundw
                        case rel => exact ⟨k + 1, by omega, by go_num, by rw [HRS.out, HH.out]; rfl, trivial⟩
                        case measure => simp [intOf]; omega
                    · obtain rfl : k = n' := by omega
                      rw [List.take_of_length_le (by rw [← HNE2.out]; exact Nat.le_refl _), HP7.out]
                      go_wp2
                      go_ret
                      exact ⟨by simp, HBB.out⟩
end Go.Proofs.YtibeihcpehikoaaGreat

namespace Go.Proofs.YtibeihcpehikoaaGreat
open Go.RowKit Go.WideShapes Go.ChangeShapes
set_option maxRecDepth 100000
section
variable {H : Type} {enc : TypeId × Value → H} {w : World} {held : Bool}
theorem Tryz.cellsCmd : Tryz.prog.cellsOf 64 = 12 := by kernel_rfl
theorem Tryz.cellsBool : Tryz.prog.cellsOf 4 = 1 := by kernel_rfl
theorem cm_of_trod {fuel : Nat} {cs : List Value} {y : DataW H × List MemPlace} (h : DataW.trod enc Tryz.prog w 0 (fun _ => true) held fuel 64 cs = some y) : ∃ c : Cm, cs = c.cells ∧ I64 c.late ∧ I64 c.kind ∧ c.e.Fit := by
  obtain ⟨xs, n, -, -, hlen, hxl, hg⟩ := DataW.trod_struct Tryz.underlying64 h
  rw [Tryz.cellsCmd] at hlen
  match cs, hlen with
  | [c0, c1, c2, c3, c4, c5, c6, c7, c8, c9, c10, c11], _ =>
    simp only [List.size_toArray, List.length_cons, List.length_nil] at hxl
    match xs, hxl with
    | [y0, y1, y2, y3], _ =>
      have k0 : DataW.trod enc Tryz.prog w 0 (fun _ => true) held n 3 ((List.drop 0 [c0, c1, c2, c3, c4, c5, c6, c7, c8, c9, c10, c11]).take (Tryz.prog.cellsOf 3)) = some y0 := hg 0 _ rfl
      have k1 : DataW.trod enc Tryz.prog w 0 (fun _ => true) held n 62 ((List.drop 1 [c0, c1, c2, c3, c4, c5, c6, c7, c8, c9, c10, c11]).take (Tryz.prog.cellsOf 62)) = some y1 := hg 1 _ rfl
      have k2 : DataW.trod enc Tryz.prog w 0 (fun _ => true) held n 3 ((List.drop 10 [c0, c1, c2, c3, c4, c5, c6, c7, c8, c9, c10, c11]).take (Tryz.prog.cellsOf 3)) = some y2 := hg 2 _ rfl
      have k3 : DataW.trod enc Tryz.prog w 0 (fun _ => true) held n 4 ((List.drop 11 [c0, c1, c2, c3, c4, c5, c6, c7, c8, c9, c10, c11]).take (Tryz.prog.cellsOf 4)) = some y3 := hg 3 _ rfl
      rw [Tryz.cellsInt] at k0 k2
      rw [Tryz.cellsEv] at k1
      rw [Tryz.cellsBool] at k3
      obtain ⟨a0, e0, -, w0⟩ := DataW.trod_int Tryz.underlying3 k0
      obtain ⟨ev, e1, hf⟩ := ev_of_trod k1
      obtain ⟨a2, e2, -, w2⟩ := DataW.trod_int Tryz.underlying3 k2
      obtain ⟨a3, e3, -⟩ := DataW.trod_bool Tryz.underlying4 k3
      simp only [List.drop_zero, List.drop_succ_cons, List.take_succ_cons, List.take_zero, List.cons.injEq, and_true, Ev.cells] at e0 e1 e2 e3
      obtain ⟨rfl, rfl, rfl, rfl, rfl, rfl, rfl, rfl, rfl⟩ := e1
      subst e0 e2 e3
      exact ⟨⟨a0, ev, a2, a3⟩, rfl, bd_of_wf w2, bd_of_wf w0, hf⟩
theorem open_cmds {r : Reach} {b0 : Nat} {v : Value} {d : DataW H} {p : List MemPlace} (hv : Value.okWide Tryz.prog w r b0 58 v) (h : DataW.Trod enc Tryz.prog w 0 (fun _ => true) held 58 v d p) :
    ∃ (A : Option Addr) (c : Nat) (l : List Cm), v = .slice A l.length c ∧ (l.length ≤ c ∧ c ≤ maxLen) ∧ Rd w w.heap.size A (l.flatMap Cm.cells) ∧ ∀ x ∈ l, I64 x.late ∧ I64 x.kind ∧ x.e.Fit := by
  obtain ⟨A, n, c, css, rfl, rfl, hn, hm, hr, hall⟩ := open_rows Tryz.underlying58 Tryz.cellsCmd (by omega) hv h
  obtain ⟨l, rfl, hin⟩ := list_of_forms (f := Cm.cells) (p := fun x => I64 x.late ∧ I64 x.kind ∧ x.e.Fit) (l := css) (fun cs hcs => by
    obtain ⟨-, fuel, y, hy⟩ := hall cs hcs
    exact cm_of_trod hy)
  refine ⟨A, c, l, by rw [List.length_map], ⟨by rw [List.length_map] at hn; omega, hm⟩, ?_, hin⟩
  rw [List.flatMap_def]; exact hr
end
end Go.Proofs.YtibeihcpehikoaaGreat
