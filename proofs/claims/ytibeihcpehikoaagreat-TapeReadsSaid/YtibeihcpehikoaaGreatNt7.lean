/-
  The walks beneath: TapV, EvByR, TapL, TapF, RdV, RdL.
-/
import Derived.Test.YtibeihcpehikoaaGreatNt1
import Derived.Test.YtibeihcpehikoaaGreatNs4
import Derived.Test.YtibeihcpehikoaaGreatNt4
import Derived.Test.YtibeihcpehikoaaGreatNs1
import Derived.Test.YtibeihcpehikoaaGreatNt6
import Derived.Test.YtibeihcpehikoaaGreatNt5
import Derived.Test.YtibeihcpehikoaaGreatNs9
namespace Go.Proofs.YtibeihcpehikoaaGreat
section
open Go.RowKit
set_option maxRecDepth 100000
/-- The word's bytes from place j on. -/
def w4 (N j : Nat) : List UInt8 := List.replicate j 0 ++ (be4 N).drop j
theorem w4_length (N j : Nat) (h : j ≤ 4) : (w4 N j).length = 4 := by
  unfold w4
  rw [List.length_append, List.length_replicate, List.length_drop, be4_length]; omega
/-- What is left of a word when its low bytes are off. -/
def q4 (N : Nat) : Nat → Nat
  | 4 => N
  | 3 => N / 256
  | 2 => N / 256 / 256
  | 1 => N / 256 / 256 / 256
  | _ => N / 256 / 256 / 256 / 256
theorem q4_step (N j : Nat) (h : j < 4) : q4 N (j + 1) / 256 = q4 N j := by
  obtain rfl | rfl | rfl | rfl : j = 0 ∨ j = 1 ∨ j = 2 ∨ j = 3 := by omega
  all_goals rfl
theorem q4_lt (N j : Nat) (hN : N < 4294967296) (h : j ≤ 4) : q4 N j < 4294967296 := by
  obtain rfl | rfl | rfl | rfl | rfl : j = 0 ∨ j = 1 ∨ j = 2 ∨ j = 3 ∨ j = 4 := by omega
  all_goals (simp only [q4]; omega)
theorem w4_set (N j : Nat) (h : j < 4) : (w4 N (j + 1)).set j (UInt8.ofNat (q4 N (j + 1) % 256)) = w4 N j := by
  obtain rfl | rfl | rfl | rfl : j = 0 ∨ j = 1 ∨ j = 2 ∨ j = 3 := by omega
  · have e : N / 256 / 256 / 256 % 256 = N / 16777216 % 256 := by omega
    simp only [q4, w4, be4]
    rw [e]; rfl
  · have e : N / 256 / 256 % 256 = N / 65536 % 256 := by omega
    simp only [q4, w4, be4]
    rw [e]; rfl
  · rfl
  · rfl
set_option maxHeartbeats 2000000 in
theorem word4_any (N : Nat) (hN : N < 4294967296) (w : World) : Calls Tryz.prog 95 #[.int .u64 N, .int .i64 4] w fun e w' => e = .returned (.string ⟨(be4 N).toArray⟩) ∧ Below w.heap.size w w' := by
  obtain ⟨ib, hib, hbz, hb1, hb2⟩ := info_parts Tryz.infoU8
  go_enter Tryz.func95, Tryz.ntmps95
  go_wp2_with (refine wpList_make_full _ rfl (.tmp 7) (.tmp 7) 25 rfl w.heap.size 5 ib _ 1 Tryz.underlying25 hib hbz hb1 .i64 .i64 _ _ 4 rfl rfl (by omega) (by omega) ?m1 ?m2 ?m3 ?_)
  case m1 => rw [hb2]; omega
  case m2 => simp [maxLen]
  case m3 => exact Nat.le_refl _
  intro w1 hown1 hg1
  have hin : OwnL w1 w.heap.size 5 1 (.slice (some ⟨w.heap.size, 0, none⟩) 4 4) bcN (w4 N 4) := by
    unfold OwnL
    rw [w4_length N 4 (Nat.le_refl _)]
    have e2 : (w4 N 4).flatMap bcN = List.replicate 4 (Value.int .u8 0) := rfl
    rw [e2]
    simpa [toList_madeCells_one, Value.cells] using hown1
  have hbw1 : Below w.heap.size w w1 := (Below.refl _ _).grown hg1 (Nat.le_refl _) (by simp)
  have HI := Lib.hid hin
  clear hin hown1 hg1
  go_wp2
  go_loopw [0, 6] (fun x i wr => ∃ j : Nat, j ≤ 4 ∧ i = .int .i64 ((j : Int) - 1) ∧ x = .int .u64 (q4 N j : Nat) ∧ OwnL wr w.heap.size 5 1 (.slice (some ⟨w.heap.size, 0, none⟩) 4 4) bcN (w4 N j) ∧ Below w.heap.size w wr) (fun _ i _ => (intOf i + 1).toNat)
  case atStart => exact ⟨4, Nat.le_refl _, rfl, rfl, HI.out, hbw1⟩
  case round =>
    clear HI hbw1
    obtain ⟨j, hj, rfl, rfl, hown, hb⟩ := hrel
    by_cases hlt : 0 < j
    · obtain ⟨i, rfl⟩ : ∃ i, j = i + 1 := ⟨j - 1, by omega⟩
      have ej : (((i + 1 : Nat) : Int) - 1) = (i : Int) := by omega
      rw [ej]
      clear ej
      have hc := hown.one (h := fun b : UInt8 => Value.int .u8 (b.toNat : Int)) (fun _ => rfl) (k := i) (by rw [w4_length N _ hj]; omega)
      have hf := hown.frozen i
      have HO := Lib.hid hown
      have hql := q4_lt N (i + 1) hN hj
      have hst := q4_step N i (by omega)
      have HWS := Lib.hid (w4_set N i (by omega))
      obtain ⟨q, hq⟩ : ∃ q, q4 N (i + 1) = q := ⟨_, rfl⟩
      rw [hq] at hql hst HWS ⊢
      have HQ := Lib.hid hst
      clear hown hq hst
      go_wp2
      go_roundw
      case rel =>
        refine ⟨i, by omega, by go_num, by rw [← HQ.out]; go_num, ?_, bSetG hb (Nat.le_refl _) _ _⟩
        have h := HO.out.set1 (h := fun b : UInt8 => Value.int .u8 (b.toNat : Int)) (fun _ => rfl) (k := i) (by rw [w4_length N _ hj]; omega) (UInt8.ofNat (q % 256))
        rw [HWS.out, u8_val (Nat.mod_lt _ (by decide))] at h
        exact h
      case measure => simp [intOf]
    · obtain rfl : j = 0 := by omega
      have hcv : (convert 25 9 (.slice (some ⟨w.heap.size, 0, none⟩) 4 4)).run Tryz.prog wr = .ok (.string ⟨(be4 N).toArray⟩) wr :=
        run_convert_bytes_back (P := Tryz.prog) wr 25 9 5 ⟨w.heap.size, 0, none⟩ 4 (be4 N) Tryz.underlying25 Tryz.underlying5 Tryz.underlying9 (fun k hk => by
          rw [Go.WideShapes.add_plain, Nat.zero_add]
          exact hown.one (h := fun b : UInt8 => Value.int .u8 (b.toNat : Int)) (fun _ => rfl) hk)
      clear hown
      go_wp2
      go_ret
      exact ⟨rfl, hb⟩
end
section
open Go.RowKit
set_option maxRecDepth 100000
set_option linter.unusedSimpArgs false
theorem rnum_int (n : Int) (h0 : 0 ≤ n) (h1 : n < 18446744073709551616) (w : World) : Calls Tryz.prog 93 #[.int .u64 n] w fun e w' => e = .returned (.string ⟨(numB n.toNat).toArray⟩) ∧ Below w.heap.size w w' := by
  have h := rnum_any n.toNat (by omega) w
  rw [Int.toNat_of_nonneg h0] at h
  exact h
end
section
open Go.RowKit Go.Shelf
set_option maxRecDepth 100000
set_option linter.unusedSimpArgs false
set_option maxHeartbeats 8000000 in
theorem rpack_any (s d x m : Int) (A B : Option Addr) (c c' : Nat) (a b : List Nat) (w : World) (hs : U32 s) (hm : U32 m) (hok : rightTp d x 0 a b = true) (ha : a.length ≤ 20000) (hb : b.length ≤ 20000) (ra : Rd w w.heap.size A (a.flatMap btC)) (rb : Rd w w.heap.size B (b.flatMap btC)) :
    Calls Tryz.prog 37 #[.agg #[.int .u32 s, .int .i64 d, .int .i64 x, .int .i64 0, .slice A a.length c, .slice B b.length c', .int .u32 m]] w fun e w' => e = .returned (.string ⟨(sealB (packB s d x m a b)).toArray⟩) ∧ Below w.heap.size w w' := by
  obtain ⟨⟨hx1, hx2⟩, -, hab, ⟨hd1, hd2⟩, h63a, h63b⟩ := right_parts hok
  have HIA := Lib.hid (fun (V : World) (hV : Below w.heap.size w V) => rinputs_any A c a ha (fun z hz => by have := h63a z hz; omega) V ((ra.below hV (Nat.le_refl _)).more hV.size))
  have HIB := Lib.hid (fun (V : World) (hV : Below w.heap.size w V) => rinputs_any B c' b hb (fun z hz => by have := h63b z hz; omega) V ((rb.below hV (Nat.le_refl _)).more hV.size))
  have HN1 := Lib.hid (fun V => rnum_int s hs.1 (by have := hs.2; omega) V)
  have HN2 := Lib.hid (fun V => rnum_int d hd1 (by omega) V)
  have HN3 := Lib.hid (fun V => rnum_int x (by omega) (by omega) V)
  have HN4 : Hid (∀ V : World, Calls Tryz.prog 93 #[.int .u64 (a.length : Nat)] V fun e w' => e = .returned (.string ⟨(numB a.length).toArray⟩) ∧ Below V.heap.size V w') := Lib.hid (fun V => rnum_any a.length (by omega) V)
  have l1 := numB_le (n := s.toNat) (by have := hs.2; have := hs.1; omega)
  have l2 := numB_le (n := d.toNat) (by omega)
  have l3 := numB_le (n := x.toNat) (by omega)
  have l4 := numB_le (n := a.length) (by omega)
  obtain ⟨na, hna⟩ : ∃ na, a.length = na := ⟨_, rfl⟩
  obtain ⟨nb, hnb⟩ : ∃ nb, b.length = nb := ⟨_, rfl⟩
  have hna2 : na ≤ 20000 := by rw [← hna]; exact ha
  have hia2 : (insB a).length ≤ 220000 := runsB_pre (l := a) (pre := runsL a) (r := []) (by simp) ha
  have hib2 : (insB b).length ≤ 220000 := runsB_pre (l := b) (pre := runsL b) (r := []) (by simp) hb
  have HH : Hid (packB s d x m a b = headB s d x na ++ insB a ++ insB b ++ be4 m.toNat) := Lib.hid (by rw [← hna]; rfl)
  rw [hna] at HIA HN4 l4 ⊢
  rw [hnb] at HIB ⊢
  clear ra rb ha hb hna hnb hok hab h63a h63b
  go_enter Tryz.func37, Tryz.ntmps37
  go_upto_region 1 with fail
  refine named1 (F := fun W => Code.wp _ _ _ _ W) ?_
  intro w1 k0 hb1 hz1
  have q7 := k0; have r0a := q7.cell 0; have r0b := q7.cell 1; have r0c := q7.cell 2; have r0d := q7.cell 3; have r0e := q7.cell 4; have r0f := q7.cell 5; have r0g := q7.cell 6; have r0l := q7.lt; simp only [List.getElem?_toArray, List.getElem?_cons_zero, List.getElem?_cons_succ] at r0a r0b r0c r0d r0e r0f r0g; clear q7
  have HB3 := Lib.hid hb1
  clear hz1 k0 hb1
  have HHD : Hid (headB s d x na = [80, 66, 49] ++ numB s.toNat ++ numB d.toNat ++ numB x.toNat ++ numB na) := Lib.hid rfl
  obtain ⟨n1, hn1⟩ : ∃ n1, numB s.toNat = n1 := ⟨_, rfl⟩
  obtain ⟨n2, hn2⟩ : ∃ n2, numB d.toNat = n2 := ⟨_, rfl⟩
  obtain ⟨n3, hn3⟩ : ∃ n3, numB x.toNat = n3 := ⟨_, rfl⟩
  obtain ⟨n4, hn4⟩ : ∃ n4, numB na = n4 := ⟨_, rfl⟩
  rw [hn1] at HN1 l1 HHD
  rw [hn2] at HN2 l2 HHD
  rw [hn3] at HN3 l3 HHD
  rw [hn4] at HN4 l4 HHD
  clear hn1 hn2 hn3 hn4
  obtain ⟨hs1, hs2⟩ := hs
  refine wp_region_mild (by kernel_rfl) (by kernel_rfl) ?_
  repeat (go_big_quiet_step (first | (go_at_call 93; first | with_reducible exact mild_of (HN1.out _) | with_reducible exact mild_of (HN2.out _) | with_reducible exact mild_of (HN3.out _) | with_reducible exact mild_of (HN4.out _)) | fail))
  refine wpQuiet_nil ?_
  intro w4 hw'
  obtain ⟨⟨wq, k4⟩, hw''⟩ := hw'
  subst hw''
  have hs4 : (⟨[80, 66, 49].toArray⟩ : ByteArray) ++ ⟨n1.toArray⟩ ++ ⟨n2.toArray⟩ ++ ⟨n3.toArray⟩ ++ ⟨n4.toArray⟩ = ⟨(headB s d x na).toArray⟩ := by
    rw [strN_append, strN_append, strN_append, strN_append, HHD.out]
  rw [hs4]
  have hhl : (headB s d x na).length ≤ 43 := by
    rw [HHD.out]; simp only [List.length_append, List.length_cons, List.length_nil]; omega
  obtain ⟨h0, hh0⟩ : ∃ h0, headB s d x na = h0 := ⟨_, rfl⟩
  rw [hh0] at hhl HH ⊢
  obtain ⟨ia, hia⟩ : ∃ ia, insB a = ia := ⟨_, rfl⟩
  obtain ⟨ib, hib⟩ : ∃ ib, insB b = ib := ⟨_, rfl⟩
  obtain ⟨bm, hbm⟩ : ∃ bm, be4 m.toNat = bm := ⟨_, rfl⟩
  have hml : bm.length = 4 := by rw [← hbm]; rfl
  have HW := Lib.hid (fun V => word4_any m.toNat (by have := hm.2; have := hm.1; omega) V)
  rw [Int.toNat_of_nonneg hm.1, hbm] at HW
  rw [hia] at HIA HH hia2
  rw [hib] at HIB HH hib2
  rw [hbm] at HH
  have HSE := Lib.hid (fun V => rseal_any (h0 ++ ia ++ ib ++ bm) (by simp only [List.length_append]; omega) V)
  rw [← strN_append, ← strN_append, ← strN_append, ← HH.out] at HSE
  clear hs4 HHD hh0 hbm HN1 HN2 HN3 HN4 l1 l2 l3 l4 hia hib
  have HB4 := Lib.hid (bTrans HB3.out k4)
  have HIA4 := Lib.hid (fun (V : World) (hV : Below w4.heap.size w4 V) => HIA.out V (bTrans HB4.out hV))
  have HIB4 := Lib.hid (fun (V : World) (hV : Below w4.heap.size w4 V) => HIB.out V (bTrans HB4.out hV))
  have hl0 : w.heap.size < w4.heap.size := Nat.lt_of_lt_of_le r0l k4.size
  have e4 := (k4.cell (p := ⟨w.heap.size, 4, none⟩) r0l).trans r0e
  have e5 := (k4.cell (p := ⟨w.heap.size, 5, none⟩) r0l).trans r0f
  have e6 := (k4.cell (p := ⟨w.heap.size, 6, none⟩) r0l).trans r0g
  clear r0a r0b r0c r0d r0e r0f r0g r0l HIA HIB HB3 k4
  obtain ⟨hm1, hm2⟩ := hm
  go_upto_region 2 with fail
  refine wp_region_mild (by kernel_rfl) (by kernel_rfl) ?_
  repeat (go_big_quiet_step (first | (go_at_call 94; first | with_reducible exact mild_of (HIA4.out _ (Ext.below _)) | with_reducible exact mild_of (HIB4.out _ (Ext.below _))) | (go_at_call 95; with_reducible exact mild_of (HW.out _)) | (go_at_call 45; with_reducible exact mild_of (HSE.out _)) | fail))
  refine wpQuiet_nil ?_
  intro w5 hw'
  obtain ⟨⟨wq, k5⟩, hw''⟩ := hw'
  subst hw''
  go_wp2
  go_ret
  exact ⟨rfl, bTrans HB4.out k5⟩
end
section
open Go.RowKit
set_option maxRecDepth 100000
set_option linter.unusedSimpArgs false
theorem badB_take_succ (l : List Nat) (k : Nat) (h : k < l.length) : badB (l.take (k + 1)) = (badB (l.take k) || decide (63 < l[k])) := by
  unfold badB
  rw [List.take_succ_eq_append_getElem h, List.any_append]
  simp
theorem badB_mem {l : List Nat} {k : Nat} (h : k < l.length) (hx : 63 < l[k]) : badB l = true := by
  unfold badB
  rw [List.any_eq_true]
  exact ⟨l[k], List.getElem_mem h, decide_eq_true hx⟩
set_option maxHeartbeats 8000000 in
theorem rfits20 (s d x y : Int) (A B : Option Addr) (c c' : Nat) (a b : List Nat) (w : World) (ha : a.length ≤ 20000) (hb : b.length ≤ 20000) (ra : Rd w w.heap.size A (a.flatMap btC)) (rb : Rd w w.heap.size B (b.flatMap btC)) :
    Calls Tryz.prog 19 #[.agg #[.int .u32 s, .int .i64 d, .int .i64 x, .int .i64 y], .slice A a.length c, .slice B b.length c'] w fun e w' => e = .returned (.int .i64 (ofE d a b)) ∧ Below w.heap.size w w' := by
  have HRA := Lib.hid ra
  have HRB := Lib.hid rb
  obtain ⟨na, hna⟩ : ∃ na, a.length = na := ⟨_, rfl⟩
  obtain ⟨nb, hnb⟩ : ∃ nb, b.length = nb := ⟨_, rfl⟩
  have HNA := Lib.hid hna
  have HNB := Lib.hid hnb
  obtain ⟨E, hE⟩ : ∃ E : Int, ofE d a b = E := ⟨_, rfl⟩
  have HE := Lib.hid hE
  rw [hna] at ha ⊢
  rw [hnb] at hb ⊢
  rw [hE]
  clear ra rb hna hnb hE
  by_cases h1 : d < 0
  · have HE1 : Hid (E = 1) := Lib.hid (by rw [← HE.out]; unfold ofE; rw [if_pos]; unfold ofB; simp [h1])
    go_enter Tryz.func19, Tryz.ntmps19
    go_wp2
    go_ret
    exact ⟨by rw [HE1.out]; rfl, (by repeat (first | exact Below.refl _ _ | (with_reducible assumption) | apply bAlloc | apply below_drewN | apply Below.drew))⟩
  by_cases h2 : 8 < d
  · have HE1 : Hid (E = 1) := Lib.hid (by rw [← HE.out]; unfold ofE; rw [if_pos]; unfold ofB; simp [h2])
    have g1 : decide (d < 0) = false := decide_eq_false h1
    go_enter Tryz.func19, Tryz.ntmps19
    go_wp2
    go_ret
    exact ⟨by rw [HE1.out]; rfl, (by repeat (first | exact Below.refl _ _ | (with_reducible assumption) | apply bAlloc | apply below_drewN | apply Below.drew))⟩
  have hd : 0 ≤ d ∧ d ≤ 8 := by omega
  have g1 : decide (d < 0) = false := decide_eq_false h1
  have g2 : decide (8 < d) = false := decide_eq_false h2
  have HOB : Hid (ofB d a b = (badB a || badB b)) := Lib.hid (by unfold ofB; rw [g1, g2]; simp)
  obtain ⟨hd1, hd2⟩ := hd
  clear h1 h2
  go_enter Tryz.func19, Tryz.ntmps19
  go_upto_region 1 with fail
  refine named1 (F := fun W => Code.wp _ _ _ _ W) ?_
  intro w1 k0 hb1 hz1
  have r0a := (k0).cell 0; have r0b := (k0).cell 1; have r0c := (k0).cell 2; have r0d := (k0).cell 3; have r0e := (k0).frozen 0; have r0f := (k0).frozen 1; have r0g := (k0).frozen 2; have r0h := (k0).frozen 3; have r0l := (k0).lt; simp only [List.getElem?_toArray, List.getElem?_cons_zero, List.getElem?_cons_succ] at r0a r0b r0c r0d
  have K0 := Lib.hid k0
  have HB1 := Lib.hid hb1
  clear k0 hb1 hz1
  go_wp2
  go_loop [7] (fun i => ∃ k : Nat, k ≤ na + nb ∧ i = .int .i64 k ∧ Hid (badB (a.take k) = false ∧ badB (b.take k) = false)) (fun i => na + nb - (intOf i).toNat)
  case atStart => exact ⟨0, Nat.zero_le _, rfl, Lib.hid ⟨rfl, rfl⟩⟩
  case round =>
    obtain ⟨k, hk, rfl, HBD⟩ := hrel
    by_cases h3 : k < na
    · have h3a : k < a.length := by rw [HNA.out]; exact h3
      obtain ⟨ga, oa, rfl, hga, ca⟩ := HRA.out.at_ btC_length (by omega) h3a
      replace ca := ca 0 _ rfl
      rw [Nat.add_zero, Nat.mul_one] at ca
      have ca1 := (HB1.out.cell (p := ⟨ga, oa + k, none⟩) hga).trans ca
      have HSA := Lib.hid (badB_take_succ a k h3a)
      have HMA := Lib.hid (fun h => badB_mem (l := a) (k := k) h3a h)
      have hla : ga < w1.heap.size := Nat.lt_of_lt_of_le hga HB1.out.size
      obtain ⟨xa, hxa⟩ : ∃ xa, a[k] = xa := ⟨_, rfl⟩
      rw [hxa] at ca1 HSA HMA
      clear hxa ca h3a
      by_cases h5 : 63 < xa
      · have HE1 : Hid (E = 1) := Lib.hid (by rw [← HE.out]; unfold ofE; rw [HOB.out, HMA.out h5]; rfl)
        have g5 : decide ((63 : Int) < (xa : Int)) = true := decide_eq_true (by omega)
        go_wp2
        go_ret
        exact ⟨by rw [HE1.out]; rfl, HB1.out⟩
      · have g5 : decide ((63 : Int) < (xa : Int)) = false := decide_eq_false (by omega)
        have HA2 : Hid (badB (a.take (k + 1)) = false) := Lib.hid (by rw [HSA.out, HBD.out.1, decide_eq_false h5]; rfl)
        by_cases h4 : k < nb
        · have h4b : k < b.length := by rw [HNB.out]; exact h4
          obtain ⟨gb, ob, rfl, hgb, cb⟩ := HRB.out.at_ btC_length (by omega) h4b
          replace cb := cb 0 _ rfl
          rw [Nat.add_zero, Nat.mul_one] at cb
          have cb1 := (HB1.out.cell (p := ⟨gb, ob + k, none⟩) hgb).trans cb
          have HSB := Lib.hid (badB_take_succ b k h4b)
          have HMB := Lib.hid (fun h => badB_mem (l := b) (k := k) h4b h)
          have hlb : gb < w1.heap.size := Nat.lt_of_lt_of_le hgb HB1.out.size
          obtain ⟨xb, hxb⟩ : ∃ xb, b[k] = xb := ⟨_, rfl⟩
          rw [hxb] at cb1 HSB HMB
          clear hxb cb h4b
          by_cases h6 : 63 < xb
          · have HE1 : Hid (E = 1) := Lib.hid (by rw [← HE.out]; unfold ofE; rw [HOB.out, HMB.out h6, Bool.or_true]; rfl)
            have g6 : decide ((63 : Int) < (xb : Int)) = true := decide_eq_true (by omega)
            go_wp2
            go_ret
            exact ⟨by rw [HE1.out]; rfl, HB1.out⟩
          · have g6 : decide ((63 : Int) < (xb : Int)) = false := decide_eq_false (by omega)
            have HB2 : Hid (badB (b.take (k + 1)) = false) := Lib.hid (by rw [HSB.out, HBD.out.2, decide_eq_false h6]; rfl)
            clear HE HOB
            go_wp2
            go_round
            case rel => exact ⟨k + 1, by omega, by go_num, Lib.hid ⟨HA2.out, HB2.out⟩⟩
            case measure => simp [intOf]; omega
        · have HB2 : Hid (badB (b.take (k + 1)) = false) := Lib.hid (by
            rw [List.take_of_length_le (by rw [HNB.out]; omega)]
            have := HBD.out.2
            rwa [List.take_of_length_le (by rw [HNB.out]; omega)] at this)
          have g4 : decide ((k : Int) < (nb : Int)) = false := decide_eq_false (by omega)
          clear HE HOB
          go_wp2
          go_round
          case rel => exact ⟨k + 1, by omega, by go_num, Lib.hid ⟨HA2.out, HB2.out⟩⟩
          case measure => simp [intOf]; omega
    · have g3 : decide ((k : Int) < (na : Int)) = false := decide_eq_false (by omega)
      have HA0 : Hid (badB a = false) := Lib.hid (by
        have := HBD.out.1
        rwa [List.take_of_length_le (by rw [HNA.out]; omega)] at this)
      have HA2 : Hid (badB (a.take (k + 1)) = false) := Lib.hid (by
        rw [List.take_of_length_le (by rw [HNA.out]; omega)]; exact HA0.out)
      by_cases h4 : k < nb
      · have h4b : k < b.length := by rw [HNB.out]; exact h4
        obtain ⟨gb, ob, rfl, hgb, cb⟩ := HRB.out.at_ btC_length (by omega) h4b
        replace cb := cb 0 _ rfl
        rw [Nat.add_zero, Nat.mul_one] at cb
        have cb1 := (HB1.out.cell (p := ⟨gb, ob + k, none⟩) hgb).trans cb
        have HSB := Lib.hid (badB_take_succ b k h4b)
        have HMB := Lib.hid (fun h => badB_mem (l := b) (k := k) h4b h)
        have hlb : gb < w1.heap.size := Nat.lt_of_lt_of_le hgb HB1.out.size
        obtain ⟨xb, hxb⟩ : ∃ xb, b[k] = xb := ⟨_, rfl⟩
        rw [hxb] at cb1 HSB HMB
        clear hxb cb h4b
        by_cases h6 : 63 < xb
        · have HE1 : Hid (E = 1) := Lib.hid (by rw [← HE.out]; unfold ofE; rw [HOB.out, HMB.out h6, Bool.or_true]; rfl)
          have g6 : decide ((63 : Int) < (xb : Int)) = true := decide_eq_true (by omega)
          go_wp2
          go_ret
          exact ⟨by rw [HE1.out]; rfl, HB1.out⟩
        · have g6 : decide ((63 : Int) < (xb : Int)) = false := decide_eq_false (by omega)
          have HB2 : Hid (badB (b.take (k + 1)) = false) := Lib.hid (by rw [HSB.out, HBD.out.2, decide_eq_false h6]; rfl)
          clear HE HOB
          go_wp2
          go_round
          case rel => exact ⟨k + 1, by omega, by go_num, Lib.hid ⟨HA2.out, HB2.out⟩⟩
          case measure => simp [intOf]; omega
      · have g4 : decide ((k : Int) < (nb : Int)) = false := decide_eq_false (by omega)
        have h7 := HBD.out.2
        rw [List.take_of_length_le (by rw [HNB.out]; omega)] at h7
        cases hll : lenB d a b
        · have HE0 : Hid (E = 0) := Lib.hid (by
            rw [← HE.out]; unfold ofE; rw [HOB.out, HA0.out, h7, hll]; rfl)
          unfold lenB at hll
          rw [HNA.out, HNB.out] at hll
          have hll2 := of_decide_eq_false hll
          have hmi : d + min (na : Int) (nb : Int) ≤ 20000 := by omega
          have g7 : decide (20000 < d + min (na : Int) (nb : Int)) = false := decide_eq_false (by omega)
          clear HE HOB hll hll2 h7
          go_wp2
          all_goals
            go_ret
            exact ⟨by rw [HE0.out]; rfl, HB1.out⟩
        · have HE0 : Hid (E = 5) := Lib.hid (by
            rw [← HE.out]; unfold ofE; rw [HOB.out, HA0.out, h7, hll]; rfl)
          unfold lenB at hll
          rw [HNA.out, HNB.out] at hll
          have hll2 := of_decide_eq_true hll
          have hmi : 20000 < d + min (na : Int) (nb : Int) := by omega
          have g7 : decide (20000 < d + min (na : Int) (nb : Int)) = true := decide_eq_true (by omega)
          clear HE HOB hll hll2 h7
          go_wp2
          all_goals
            go_ret
            exact ⟨by rw [HE0.out]; rfl, HB1.out⟩
set_option maxHeartbeats 4000000 in
theorem rright20 (s d x y m : Int) (A B : Option Addr) (c c' : Nat) (a b : List Nat) (w : World) (ha : a.length ≤ 20000) (hb : b.length ≤ 20000) (ra : Rd w w.heap.size A (a.flatMap btC)) (rb : Rd w w.heap.size B (b.flatMap btC)) :
    Calls Tryz.prog 36 #[.agg #[.int .u32 s, .int .i64 d, .int .i64 x, .int .i64 y, .slice A a.length c, .slice B b.length c', .int .u32 m]] w fun e w' => e = .returned (.bool (rightTq d x y a b)) ∧ Below w.heap.size w w' := by
  have HFI := Lib.hid (fun (V : World) (hV : Below w.heap.size w V) => rfits20 s d x y A B c c' a b V ha hb ((ra.below hV (Nat.le_refl _)).more hV.size) ((rb.below hV (Nat.le_refl _)).more hV.size))
  obtain ⟨na, hna⟩ : ∃ na, a.length = na := ⟨_, rfl⟩
  obtain ⟨nb, hnb⟩ : ∃ nb, b.length = nb := ⟨_, rfl⟩
  unfold rightTq
  rw [hna, hnb] at HFI ⊢
  obtain ⟨eI, heI⟩ : ∃ eI : Int, ofE d a b = eI := ⟨_, rfl⟩
  have HE : Hid ((!(ofB d a b || lenB d a b)) = (eI == 0)) := Lib.hid (by rw [← heI]; unfold ofE; cases ofB d a b <;> cases lenB d a b <;> rfl)
  rw [heI] at HFI
  rw [HE.out]
  clear ra rb hna hnb heI ha hb
  by_cases h1 : 1 ≤ x
  · by_cases h2 : x ≤ 16
    · have HD := Lib.hid (show decide (1 ≤ x ∧ x ≤ 16) = true from decide_eq_true ⟨h1, h2⟩)
      by_cases hy : y = 0
      · subst hy
        by_cases hn : na = nb
        · have hnn : ((na : Int) == (nb : Int)) = true := by rw [hn]; simp
          have HNN := Lib.hid hn
          clear hn
          go_enter Tryz.func36, Tryz.ntmps36
          go_upto_region 1 with fail
          refine named1 (F := fun W => Code.wp _ _ _ _ W) ?_
          intro w1 k0 hb1 hz1
          have q7 := k0; have r0a := q7.cell 0; have r0b := q7.cell 1; have r0c := q7.cell 2; have r0d := q7.cell 3; have r0e := q7.cell 4; have r0f := q7.cell 5; have r0g := q7.cell 6; have r0l := q7.lt; simp only [List.getElem?_toArray, List.getElem?_cons_zero, List.getElem?_cons_succ] at r0a r0b r0c r0d r0e r0f r0g; clear q7
          clear hz1 k0
          go_wp2_with (first | (go_at_call 19; refine (HFI.out _ hb1).mono ?_; rintro e w3 ⟨rfl, hb3⟩; have HB3 := Lib.hid (bTrans hb1 hb3); clear hb3))
          go_ret
          exact ⟨ret_bool (by rw [HD.out, HNN.out]; simp), HB3.out⟩
        · have hnn : ((na : Int) == (nb : Int)) = false := by simp; omega
          have HNN := Lib.hid hn
          clear hn
          go_enter Tryz.func36, Tryz.ntmps36
          go_wp2
          go_ret
          exact ⟨ret_bool (by rw [HD.out, decide_eq_false HNN.out]; simp), (by repeat (first | exact Below.refl _ _ | (with_reducible assumption) | apply bAlloc | apply below_drewN | apply Below.drew))⟩
      · have hyy : (y == 0) = false := by simpa using hy
        have HY := Lib.hid hy
        clear hy
        go_enter Tryz.func36, Tryz.ntmps36
        go_wp2
        go_ret
        exact ⟨ret_bool (by rw [decide_eq_false HY.out]; simp), (by repeat (first | exact Below.refl _ _ | (with_reducible assumption) | apply bAlloc | apply below_drewN | apply Below.drew))⟩
    · have g2 : decide (x ≤ 16) = false := decide_eq_false h2
      go_enter Tryz.func36, Tryz.ntmps36
      go_wp2
      go_ret
      exact ⟨rfl, (by repeat (first | exact Below.refl _ _ | (with_reducible assumption) | apply bAlloc | apply below_drewN | apply Below.drew))⟩
  · have g1 : decide (1 ≤ x) = false := decide_eq_false h1
    go_enter Tryz.func36, Tryz.ntmps36
    go_wp2
    go_ret
    exact ⟨rfl, (by repeat (first | exact Below.refl _ _ | (with_reducible assumption) | apply bAlloc | apply below_drewN | apply Below.drew))⟩
end
section
open Go.RowKit
set_option maxRecDepth 100000
set_option linter.unusedSimpArgs false
def FldC (w : World) (u : ByteArray) (C : Array Value) (ok : Bool) (w' : World) : Prop :=
  (ok = true ∧ ∃ (sd d x m : Nat) (a b : List Nat) (A B : Option Addr) (c c' : Nat), C = #[.int .u32 (sd : Nat), .int .i64 (d : Nat), .int .i64 (x : Nat), .int .i64 0, .slice A a.length c, .slice B b.length c', .int .u32 (m : Nat)] ∧
      sd ≤ 4294967295 ∧ m ≤ 4294967295 ∧ a.length ≤ 20000 ∧ b.length ≤ 20000 ∧ OwnL w' w.heap.size 5 1 (.slice A a.length c) btC a ∧ OwnL w' w.heap.size 5 1 (.slice B b.length c') btC b ∧
      (∀ sd' d' x' m' a' b', IsPk u sd' d' x' m' a' b' → sd' = (sd : Nat) ∧ d' = (d : Nat) ∧ x' = (x : Nat) ∧ m' = (m : Nat) ∧ a' = a ∧ b' = b)) ∨
  (ok = false ∧ ∀ sd d x m a b, ¬ IsPk u sd d x m a b)
theorem FldQ.form {w w' : World} {u : ByteArray} {e : Ending} (h : FldQ w u e w') : ∃ (C : Array Value) (ok : Bool), e = .returned (.tuple #[.agg C, .bool ok]) ∧ C.size = 7 ∧ C.all (·.oneCell') = true ∧ Below w.heap.size w w' ∧ FldC w u C ok w' := by
  obtain ⟨hb, ⟨sd, d, x, m, a, b, A, B, c, c', rfl, h⟩ | ⟨rfl, h⟩⟩ := h
  · exact ⟨_, _, rfl, rfl, by simp [Value.oneCell'], hb, .inl ⟨rfl, sd, d, x, m, a, b, A, B, c, c', rfl, h⟩⟩
  · exact ⟨_, _, rfl, rfl, by simp [Value.oneCell'], hb, .inr ⟨rfl, h⟩⟩
theorem openE_short {s : ByteArray} : openE s = 3 ↔ s.size < 4 := by
  unfold openE
  split
  · simp_all
  · split <;> simp_all
theorem seal_whole {s : ByteArray} (h : ¬ s.size < 4) : openE s = 0 ↔ sealB (s.extract 0 (s.size - 4)).data.toList = s.data.toList := by
  rw [extract_take]
  unfold openE
  rw [if_neg h]
  split
  · rename_i h2
    exact ⟨fun _ => h2.symm, fun _ => rfl⟩
  · rename_i h2
    exact ⟨fun h => (by cases h), fun h => absurd h.symm h2⟩
set_option maxHeartbeats 8000000 in
theorem runpack_any (s : ByteArray) (hs : s.size ≤ 1000000) (w : World) : Calls Tryz.prog 44 #[.string s] w fun e w' => UnpQ w s e w' := by
  obtain ⟨C0, hC0⟩ : ∃ C0 : Array Value, #[.int .u32 0, .int .i64 0, .int .i64 0, .int .i64 0, .slice none 0 0, .slice none 0 0, .int .u32 0] = C0 := ⟨_, rfl⟩
  have HBT : Hid (Tryz.prog.built 76 [] = some C0) := Lib.hid (by rw [← hC0]; exact built_tp0)
  have HZ7 : Hid (C0.size = 7) := Lib.hid (by rw [← hC0]; rfl)
  have H1C : Hid (C0.all (·.oneCell') = true) := Lib.hid (by rw [← hC0]; simp [Value.oneCell'])
  have HSZ : Hid ((Tryz.prog.info? 76).map (·.size) = some C0.size) := Lib.hid (by rw [HZ7.out]; kernel_rfl)
  have HC0 : Hid (C0 = #[.int .u32 0, .int .i64 0, .int .i64 0, .int .i64 0, .slice none 0 0, .slice none 0 0, .int .u32 0]) := Lib.hid hC0.symm
  clear hC0
  by_cases h4 : s.size < 4
  · have HNO : Hid (∀ sd d x m a b, ¬ IsTp s sd d x m a b) := Lib.hid (fun sd d x m a b h => by have := h.opens.1; rw [openE_short.2 h4] at this; cases this)
    have HE : Hid (unpE s = 3) := Lib.hid (by unfold unpE; rw [openE_short.2 h4]; rfl)
    unfold UnpQ
    rw [HE.out]
    go_enter Tryz.func44, Tryz.ntmps44
    go_upto_region 1 with fail
    refine named1 (F := fun W => Code.wp _ _ _ _ W) ?_
    intro w1 k0 hb1 hz1
    go_upto_region 2 with fail
    obtain ⟨wx, hwx, hth, hres, -, hgx⟩ := tape_put (C := C0) k0 rfl HZ7.out
    have HTH := Lib.hid hth
    have HRES := Lib.hid hres
    have HWX := Lib.hid hwx
    have HGX := Lib.hid hgx
    clear hwx hth hres hgx
    go_wp2_with (first
      | (refine wpList_built rfl 76 [] rfl C0 [] rfl HBT.out ?_)
      | (refine wpList_store_mid rfl 76 (.tmp 2) (.tmp 10) rfl w.heap.size 0 C0 rfl rfl HTH.out HSZ.out H1C.out ?_; rw [HWX.out]))
    exact bodyPost_ret (results_c1 (a := 2) (t := 76) (x := 3) rfl rfl (HRES.out _ rfl)) rfl ⟨((hb1).grown HGX.out (hb1).size (fun k e => by cases e; exact Nat.le_refl _)), .inr ⟨HNO.out, by rw [HC0.out]; rfl⟩⟩
  obtain ⟨m4, hm4⟩ : ∃ m4, s.size = m4 + 4 := ⟨s.size - 4, by omega⟩
  have hmi : (s.size : Int) - 4 = (m4 : Int) := by omega
  have hbsz : (s.extract 0 m4).size ≤ 1000000 := by simp; omega
  have HSW : Hid (openE s = 0 ↔ sealB (s.extract 0 m4).data.toList = s.data.toList) := Lib.hid (by
    have := seal_whole h4
    rwa [show s.size - 4 = m4 by omega] at this)
  have HOV : Hid (openE s = 0 → openV s = s.extract 0 m4) := Lib.hid (fun h => by rw [openV_ok h, show s.size - 4 = m4 by omega])
  have HC15 : Hid (openE s ≠ 0 → openE s = 15) := Lib.hid (fun h => by
    rcases openE_cases s with h1 | h1 | h1
    · exact absurd h1 h
    · exact absurd (openE_short.1 h1) h4
    · exact h1)
  have HMB : Hid (m4 ≤ s.size) := Lib.hid (by omega)
  obtain ⟨B, hB⟩ : ∃ B, s.extract 0 m4 = B := ⟨_, rfl⟩
  rw [hB] at hbsz HSW HOV
  have HSE := Lib.hid (fun V => rseal_any B.data.toList (by rw [ba_len]; omega) V)
  rw [ba_back] at HSE
  have HB0 := Lib.hid hB
  by_cases h0 : openE s = 0
  · have hps : (⟨(sealB B.data.toList).toArray⟩ : ByteArray) = s := data_ext _ _ (HSW.out.1 h0)
    rw [hps] at HSE
    have HU4 : Hid (unpE s = 4) := Lib.hid (if_pos h0)
    have hBV := HOV.out h0
    have HIP : Hid (∀ sd d x m a b, IsTp s sd d x m a b ↔ IsPk B sd d x m a b) := Lib.hid (fun sd d x m a b => by
      constructor
      · intro h
        have h1 := h.opens.2
        rw [hBV] at h1
        exact ⟨h.1, h.2.1, h.2.2.1, h.2.2.2.1, h1⟩
      · intro h
        exact ⟨h.1, h.2.1, h.2.2.1, h.2.2.2.1, by rw [← h.2.2.2.2]; exact (HSW.out.1 h0).symm⟩)
    have HFD := Lib.hid (fun V => fields_any B hbsz V)
    unfold UnpQ
    rw [HU4.out]
    clear h0 hBV hps HSW HOV HC15
    go_enter Tryz.func44, Tryz.ntmps44
    go_upto_region 1 with fail
    refine named1 (F := fun W => Code.wp _ _ _ _ W) ?_
    intro w1 k0 hb1 hz1
    have K1 := Lib.hid k0
    have HB1 := Lib.hid hb1
    clear k0 hb1 hz1
    go_upto_region 4 with fail
    try rw [hB]
    clear HMB
    go_upto_region 6 with (first | (go_at_call 45; refine (HSE.out _).mono ?_; rintro e w2 ⟨rfl, hb2⟩; have K2 := Lib.hid (K1.out.on hb2); have HB2 := Lib.hid (bTrans HB1.out hb2); clear hb2))
    clear K1 HB1 HSE
    go_upto_region 7 with (first
      | (go_at_call 103; refine (HFD.out _).mono ?_; rintro e w3 he; obtain ⟨C, ok, rfl, hc7, hc1, hb3, hfc⟩ := he.form; have HFC := Lib.hid hfc; have HC7 := Lib.hid hc7; have HC1 := Lib.hid hc1; have K3 := Lib.hid (K2.out.on hb3); have HB3 := Lib.hid (bTrans HB2.out hb3); have hw23 := hb3.size; clear hb3 hc7 hc1 hfc he)
      | (refine wpList_store_mid rfl 76 (.tmp 5) (.tmp 24) rfl w3.heap.size 0 C rfl rfl (there_new _ _ _ (by rw [HC7.out]; rfl)) (by rw [HC7.out]; kernel_rfl) HC1.out ?_))
    refine named_put (F := fun W => Code.wp _ _ _ _ W) (by rw [Array.length_toList, HC7.out]; rfl) ?_
    intro w4 k4 hb4 hz4
    rw [Array.toArray_toList] at k4
    have T4 := Lib.hid k4
    have K4 := Lib.hid (K3.out.on hb4)
    have HB4 := Lib.hid (bTrans HB3.out hb4)
    have hw2 := HB2.out.size
    obtain ⟨gt, hgt⟩ : ∃ gt, w3.heap.size = gt := ⟨_, rfl⟩
    have HB34 := Lib.hid hb4
    rw [hgt] at T4 ⊢
    clear k4 hb4 hz4 K2 HB2 HFD hgt
    rcases HFC.out with ⟨rfl, sd, d, x, m, a, b, A, A', cA, cB, rfl, hsd, hm, hla, hlb, hoa, hob, hun⟩ | ⟨rfl, hno⟩
    · have OA := Lib.hid ((hoa.below HB34.out).more hw2)
      have OB := Lib.hid ((hob.below HB34.out).more hw2)
      have HUN := Lib.hid hun
      have hca := hoa.cap
      have hcb := hob.cap
      have RA := Lib.hid (fun (V : World) (hV : Below w4.heap.size w4 V) => ((hoa.below HB34.out).rd.below hV (Nat.le_refl _)).more hV.size)
      have RB := Lib.hid (fun (V : World) (hV : Below w4.heap.size w4 V) => ((hob.below HB34.out).rd.below hV (Nat.le_refl _)).more hV.size)
      clear HFC hoa hob hun HC1 HC7 K3 HB3
      have HRI := Lib.hid (fun (V : World) (hV : Below w4.heap.size w4 V) => rright20 (sd : Nat) (d : Nat) (x : Nat) 0 (m : Nat) A A' cA cB a b V hla hlb (RA.out V hV) (RB.out V hV))
      have hsd2 : U32 (sd : Nat) := ⟨by omega, by omega⟩
      have hm2 : U32 (m : Nat) := ⟨by omega, by omega⟩
      have HPR := Lib.hid (fun (hq : rightTq (d : Nat) (x : Nat) 0 a b = true) (V : World) (hV : Below w4.heap.size w4 V) => rpack_any (sd : Nat) (d : Nat) (x : Nat) (m : Nat) A A' cA cB a b V hsd2 hm2 (rightTq_tp hq) hla hlb (RA.out V hV) (RB.out V hV))
      have HIT : Hid (IsTp s (sd : Nat) (d : Nat) (x : Nat) (m : Nat) a b ↔ (rightTq (d : Nat) (x : Nat) 0 a b = true ∧ (⟨(sealB (packB (sd : Nat) (d : Nat) (x : Nat) (m : Nat) a b)).toArray⟩ : ByteArray) = s)) := Lib.hid ⟨fun h => ⟨h.2.2.2.1, data_ext _ _ h.2.2.2.2.symm⟩, fun h => ⟨hsd2, hm2, hla, h.1, by rw [← h.2]⟩⟩
      have HUQ : Hid (∀ sd' d' x' m' a' b', IsTp s sd' d' x' m' a' b' → sd' = (sd : Nat) ∧ d' = (d : Nat) ∧ x' = (x : Nat) ∧ m' = (m : Nat) ∧ a' = a ∧ b' = b) := Lib.hid (fun sd' d' x' m' a' b' h => HUN.out _ _ _ _ _ _ ((HIP.out _ _ _ _ _ _).1 h))
      have HNT : Hid (¬ IsTp s (sd : Nat) (d : Nat) (x : Nat) (m : Nat) a b → ∀ sd' d' x' m' a' b', ¬ IsTp s sd' d' x' m' a' b') := Lib.hid (fun hn sd' d' x' m' a' b' h => by
        obtain ⟨rfl, rfl, rfl, rfl, rfl, rfl⟩ := HUQ.out _ _ _ _ _ _ h
        exact hn h)
      obtain ⟨P, hP⟩ : ∃ P : ByteArray, ⟨(sealB (packB (sd : Nat) (d : Nat) (x : Nat) (m : Nat) a b)).toArray⟩ = P := ⟨_, rfl⟩
      rw [hP] at HPR HIT
      obtain ⟨C1, hC1⟩ : ∃ C1 : Array Value, #[.int .u32 (sd : Nat), .int .i64 (d : Nat), .int .i64 (x : Nat), .int .i64 0, .slice A a.length cA, .slice A' b.length cB, .int .u32 (m : Nat)] = C1 := ⟨_, rfl⟩
      rw [hC1] at HRI HPR T4 ⊢
      have HC1 := Lib.hid hC1.symm
      have HY7 : Hid (C1.size = 7) := Lib.hid (by rw [← hC1]; rfl)
      have HY1 : Hid (C1.all (·.oneCell') = true) := Lib.hid (by rw [← hC1]; simp [Value.oneCell'])
      have HYZ : Hid ((Tryz.prog.info? 76).map (·.size) = some C1.size) := Lib.hid (by rw [HY7.out]; kernel_rfl)
      have HRG : Hid (∀ V, Below w4.heap.size w4 V → V.rangeAt gt 0 C1.toList) := Lib.hid (fun V hV => Blk.range (by simpa using T4.out.on hV))
      clear hC1 hP HIP HUN hsd2 hm2 T4 RA RB hla hlb hca hcb
      by_cases hq : rightTq (d : Nat) (x : Nat) 0 a b = true
      · have HPQ := Lib.hid (HPR.out hq)
        rw [hq] at HRI
        clear HPR
        by_cases hps : P = s
        · have HTT := Lib.hid (HIT.out.2 ⟨hq, hps⟩)
          have hbq : (P.toList == s.toList) = true := beq_yes hps
          clear hq HIT HNT hps
          go_upto_region 9 with (first
            | (refine wpList_load_midG rfl 76 (.tmp 5) rfl gt 0 rfl C1.toList _ (HRG.out _ (Below.refl _ _)) Tryz.underlying76 rfl (by rw [Array.length_toList]; exact HYZ.out) ?_; rw [Array.toArray_toList])
            | (refine wpList_load_midG rfl 76 (.tmp 5) rfl gt 0 rfl C1.toList _ (HRG.out _ HB45.out) Tryz.underlying76 rfl (by rw [Array.length_toList]; exact HYZ.out) ?_; rw [Array.toArray_toList])
            | (go_at_call 36; refine (HRI.out _ (Below.refl _ _)).mono ?_; rintro e w5 ⟨rfl, hb5⟩; have HB45 := Lib.hid hb5; clear hb5)
            | (go_at_call 37; refine (HPQ.out _ HB45.out).mono ?_; rintro e w6 ⟨rfl, hb6⟩; have HB46 := Lib.hid (bTrans HB45.out hb6); clear hb6))
          have k6 := K4.out.on HB46.out
          have HB6 := Lib.hid (bTrans HB4.out HB46.out)
          have HR6 := Lib.hid (HRG.out _ HB46.out)
          have oa := OA.out.below HB46.out
          have ob := OB.out.below HB46.out
          obtain ⟨wx, hwx, hth, hres, -, hgx⟩ := tape_put (C := C1) k6 rfl HY7.out
          have HTH := Lib.hid hth
          have HRES := Lib.hid hres
          have HWX := Lib.hid hwx
          have HGX := Lib.hid hgx
          have HOA := Lib.hid (OwnL.kept (row := some w.heap.size) oa hgx (.inr (k6.apart oa (by decide))))
          have HOB := Lib.hid (OwnL.kept (row := some w.heap.size) ob hgx (.inr (k6.apart ob (by decide))))
          clear hwx hth hres hgx k6 oa ob HRI HPQ
          go_wp2_with (first
            | (refine wpList_load_mid rfl 76 (.tmp 5) rfl gt 0 rfl C1.toList _ HR6.out Tryz.underlying76 rfl (by rw [Array.length_toList]; exact HYZ.out) ?_; rw [Array.toArray_toList])
            | (refine wpList_store_mid rfl 76 (.tmp 2) (.tmp 40) rfl w.heap.size 0 C1 rfl rfl HTH.out HYZ.out HY1.out ?_; rw [HWX.out]))
          exact bodyPost_ret (results_c1 (a := 2) (t := 76) (x := 3) rfl rfl (HRES.out _ rfl)) rfl ⟨HB6.out.grown HGX.out HB6.out.size (fun k e => by cases e; exact Nat.le_refl _), .inl ⟨_, _, _, _, a, b, A, A', cA, cB, HTT.out, HUQ.out, by rw [HC1.out]; rfl, HOA.out, HOB.out⟩⟩
        · have HNO := Lib.hid (HNT.out (fun h => hps (HIT.out.1 h).2))
          have hbq : (P.toList == s.toList) = false := beq_no hps
          clear hq HIT HNT hps
          go_upto_region 8 with (first
            | (refine wpList_load_midG rfl 76 (.tmp 5) rfl gt 0 rfl C1.toList _ (HRG.out _ (Below.refl _ _)) Tryz.underlying76 rfl (by rw [Array.length_toList]; exact HYZ.out) ?_; rw [Array.toArray_toList])
            | (refine wpList_load_midG rfl 76 (.tmp 5) rfl gt 0 rfl C1.toList _ (HRG.out _ HB45.out) Tryz.underlying76 rfl (by rw [Array.length_toList]; exact HYZ.out) ?_; rw [Array.toArray_toList])
            | (go_at_call 36; refine (HRI.out _ (Below.refl _ _)).mono ?_; rintro e w5 ⟨rfl, hb5⟩; have HB45 := Lib.hid hb5; clear hb5)
            | (go_at_call 37; refine (HPQ.out _ HB45.out).mono ?_; rintro e w6 ⟨rfl, hb6⟩; have HB46 := Lib.hid (bTrans HB45.out hb6); clear hb6))
          have k6 := K4.out.on HB46.out
          have hb6 := bTrans HB4.out HB46.out
          obtain ⟨wx, hwx, hth, hres, -, hgx⟩ := tape_put (C := C0) k6 rfl HZ7.out
          have HTH := Lib.hid hth
          have HRES := Lib.hid hres
          have HWX := Lib.hid hwx
          have HGX := Lib.hid hgx
          clear hwx hth hres hgx
          go_wp2_with (first
            | (refine wpList_built rfl 76 [] rfl C0 [] rfl HBT.out ?_)
            | (refine wpList_store_mid rfl 76 (.tmp 2) (.tmp 39) rfl w.heap.size 0 C0 rfl rfl HTH.out HSZ.out H1C.out ?_; rw [HWX.out]))
          exact bodyPost_ret (results_c1 (a := 2) (t := 76) (x := 3) rfl rfl (HRES.out _ rfl)) rfl ⟨((hb6).grown HGX.out (hb6).size (fun k e => by cases e; exact Nat.le_refl _)), .inr ⟨HNO.out, by rw [HC0.out]; rfl⟩⟩
      · have HNO := Lib.hid (HNT.out (fun h => hq (HIT.out.1 h).1))
        have hqf : rightTq (d : Nat) (x : Nat) 0 a b = false := by simpa using hq
        rw [hqf] at HRI
        clear hq hqf HIT HNT HPR
        go_upto_region 8 with (first
          | (refine wpList_load_midG rfl 76 (.tmp 5) rfl gt 0 rfl C1.toList _ (HRG.out _ (Below.refl _ _)) Tryz.underlying76 rfl (by rw [Array.length_toList]; exact HYZ.out) ?_; rw [Array.toArray_toList])
          | (go_at_call 36; refine (HRI.out _ (Below.refl _ _)).mono ?_; rintro e w5 ⟨rfl, hb5⟩; have HB45 := Lib.hid hb5; clear hb5))
        have k6 := K4.out.on HB45.out
        have hb6 := bTrans HB4.out HB45.out
        obtain ⟨wx, hwx, hth, hres, -, hgx⟩ := tape_put (C := C0) k6 rfl HZ7.out
        have HTH := Lib.hid hth
        have HRES := Lib.hid hres
        have HWX := Lib.hid hwx
        have HGX := Lib.hid hgx
        clear hwx hth hres hgx
        go_wp2_with (first
          | (refine wpList_built rfl 76 [] rfl C0 [] rfl HBT.out ?_)
          | (refine wpList_store_mid rfl 76 (.tmp 2) (.tmp 39) rfl w.heap.size 0 C0 rfl rfl HTH.out HSZ.out H1C.out ?_; rw [HWX.out]))
        exact bodyPost_ret (results_c1 (a := 2) (t := 76) (x := 3) rfl rfl (HRES.out _ rfl)) rfl ⟨((hb6).grown HGX.out (hb6).size (fun k e => by cases e; exact Nat.le_refl _)), .inr ⟨HNO.out, by rw [HC0.out]; rfl⟩⟩
    · have HNO : Hid (∀ sd d x m a b, ¬ IsTp s sd d x m a b) := Lib.hid (fun sd d x m a b h => hno sd d x m a b ((HIP.out _ _ _ _ _ _).1 h))
      clear hno HFC HIP
      go_upto_region 8 with fail
      obtain ⟨wx, hwx, hth, hres, -, hgx⟩ := tape_put (C := C0) K4.out rfl HZ7.out
      have HTH := Lib.hid hth
      have HRES := Lib.hid hres
      have HWX := Lib.hid hwx
      have HGX := Lib.hid hgx
      clear hwx hth hres hgx
      go_wp2_with (first
        | (refine wpList_built rfl 76 [] rfl C0 [] rfl HBT.out ?_)
        | (refine wpList_store_mid rfl 76 (.tmp 2) (.tmp 39) rfl w.heap.size 0 C0 rfl rfl HTH.out HSZ.out H1C.out ?_; rw [HWX.out]))
      exact bodyPost_ret (results_c1 (a := 2) (t := 76) (x := 3) rfl rfl (HRES.out _ rfl)) rfl ⟨((HB4.out).grown HGX.out (HB4.out).size (fun k e => by cases e; exact Nat.le_refl _)), .inr ⟨HNO.out, by rw [HC0.out]; rfl⟩⟩
  · have hps : (⟨(sealB B.data.toList).toArray⟩ : ByteArray) ≠ s := fun h => h0 (HSW.out.2 (by rw [← h]))
    have HU5 : Hid (unpE s = 15) := Lib.hid (by unfold unpE; rw [if_neg h0]; exact HC15.out h0)
    have HNO : Hid (∀ sd d x m a b, ¬ IsTp s sd d x m a b) := Lib.hid (fun sd d x m a b h => h0 h.opens.1)
    obtain ⟨P, hP⟩ : ∃ P : ByteArray, ⟨(sealB B.data.toList).toArray⟩ = P := ⟨_, rfl⟩
    rw [hP] at HSE hps
    have hbq : (P.toList == s.toList) = false := beq_no hps
    unfold UnpQ
    rw [HU5.out]
    clear h0 hps hP HSW HOV HC15
    go_enter Tryz.func44, Tryz.ntmps44
    go_upto_region 1 with fail
    refine named1 (F := fun W => Code.wp _ _ _ _ W) ?_
    intro w1 k0 hb1 hz1
    have K1 := Lib.hid k0
    have HB1 := Lib.hid hb1
    clear k0 hb1 hz1
    go_upto_region 4 with fail
    try rw [hB]
    clear HMB
    go_upto_region 5 with (first | (go_at_call 45; refine (HSE.out _).mono ?_; rintro e w2 ⟨rfl, hb2⟩; have K2 := K1.out.on hb2; have HB2 := bTrans HB1.out hb2; clear hb2))
    obtain ⟨wx, hwx, hth, hres, -, hgx⟩ := tape_put (C := C0) K2 rfl HZ7.out
    have HTH := Lib.hid hth
    have HRES := Lib.hid hres
    have HWX := Lib.hid hwx
    have HGX := Lib.hid hgx
    clear hwx hth hres hgx
    go_wp2_with (first
      | (refine wpList_built rfl 76 [] rfl C0 [] rfl HBT.out ?_)
      | (refine wpList_store_mid rfl 76 (.tmp 2) (.tmp 20) rfl w.heap.size 0 C0 rfl rfl HTH.out HSZ.out H1C.out ?_; rw [HWX.out]))
    exact bodyPost_ret (results_c1 (a := 2) (t := 76) (x := 3) rfl rfl (HRES.out _ rfl)) rfl ⟨((HB2).grown HGX.out (HB2).size (fun k e => by cases e; exact Nat.le_refl _)), .inr ⟨HNO.out, by rw [HC0.out]; rfl⟩⟩
end
section
open Go.RowKit
set_option maxRecDepth 100000
set_option linter.unusedSimpArgs false
/-- What both tell. -/
def UnpF (s : ByteArray) (sd d x m : Int) (a b : List Nat) (er : Int) : Prop :=
  (er = 0 ∧ IsTp s sd d x m a b ∧ ∀ sd' d' x' m' a' b', IsTp s sd' d' x' m' a' b' → sd' = sd ∧ d' = d ∧ x' = x ∧ m' = m ∧ a' = a ∧ b' = b) ∨
  (er = unpE s ∧ er ≠ 0 ∧ (sd = 0 ∧ d = 0 ∧ x = 0 ∧ m = 0 ∧ a = [] ∧ b = []) ∧ ∀ sd d x m a b, ¬ IsTp s sd d x m a b)
theorem unpE_ne (s : ByteArray) : unpE s ≠ 0 := by
  unfold unpE
  split
  · decide
  · assumption
theorem UnpQ.form {w w' : World} {s : ByteArray} {e : Ending} (h : UnpQ w s e w') : ∃ (C : Array Value) (sd d x m : Int) (a b : List Nat) (A B : Option Addr) (c c' : Nat) (er : Int), e = .returned (.tuple #[.agg C, .int .i64 er]) ∧ C = #[.int .u32 sd, .int .i64 d, .int .i64 x, .int .i64 0, .slice A a.length c, .slice B b.length c', .int .u32 m] ∧ Below w.heap.size w w' ∧
    OwnL w' w.heap.size 5 1 (.slice A a.length c) btC a ∧ OwnL w' w.heap.size 5 1 (.slice B b.length c') btC b ∧ UnpF s sd d x m a b er := by
  obtain ⟨hb, ⟨sd, d, x, m, a, b, A, B, c, c', h1, h2, rfl, h3, h4⟩ | ⟨h, rfl⟩⟩ := h
  · exact ⟨_, sd, d, x, m, a, b, A, B, c, c', 0, rfl, rfl, hb, h3, h4, .inl ⟨rfl, h1, h2⟩⟩
  · exact ⟨_, 0, 0, 0, 0, [], [], none, none, 0, 0, unpE s, rfl, rfl, hb, OwnL.nil, OwnL.nil, .inr ⟨rfl, unpE_ne s, ⟨rfl, rfl, rfl, rfl, rfl, rfl⟩, h⟩⟩
theorem UnpF.same {s : ByteArray} {sd d x m er sd' d' x' m' er' : Int} {a b a' b' : List Nat} (h : UnpF s sd d x m a b er) (h' : UnpF s sd' d' x' m' a' b' er') : (sd' = sd ∧ d' = d ∧ x' = x ∧ m' = m ∧ a' = a ∧ b' = b) ∧ er' = er := by
  rcases h with ⟨rfl, h1, h2⟩ | ⟨rfl, h1, ⟨rfl, rfl, rfl, rfl, rfl, rfl⟩, h3⟩
  · rcases h' with ⟨rfl, h1', h2'⟩ | ⟨rfl, h1', -, h3'⟩
    · exact ⟨h2 _ _ _ _ _ _ h1', rfl⟩
    · exact absurd h1 (h3' _ _ _ _ _ _)
  · rcases h' with ⟨rfl, h1', h2'⟩ | ⟨rfl, h1', ⟨rfl, rfl, rfl, rfl, rfl, rfl⟩, h3'⟩
    · exact absurd h1' (h3 _ _ _ _ _ _)
    · exact ⟨⟨rfl, rfl, rfl, rfl, rfl, rfl⟩, rfl⟩
theorem UnpF.len {s : ByteArray} {sd d x m er : Int} {a b : List Nat} (h : UnpF s sd d x m a b er) : a.length ≤ 20000 ∧ b.length ≤ 20000 := by
  rcases h with ⟨rfl, h1, h2⟩ | ⟨rfl, h1, ⟨rfl, rfl, rfl, rfl, rfl, rfl⟩, h3⟩
  · obtain ⟨-, -, h3, h4, -⟩ := h1
    have := (right_parts (rightTq_tp h4)).2.2.1
    omega
  · simp
/-- And what Pack tells of it. -/
theorem unp_pack {s : ByteArray} {sd d x m er : Int} {a b : List Nat} (h : UnpF s sd d x m a b er) (A B : Option Addr) (c c' : Nat) (w : World) (hca : a.length ≤ c) (hcb : b.length ≤ c') (ra : Rd w w.heap.size A (a.flatMap btC)) (rb : Rd w w.heap.size B (b.flatMap btC)) :
    Calls Tryz.prog 34 #[.agg #[.int .u32 sd, .int .i64 d, .int .i64 x, .int .i64 0, .slice A a.length c, .slice B b.length c', .int .u32 m]] w fun e w' => ∃ (P : ByteArray) (f : Int), e = .returned (.tuple #[.string P, .int .i64 f]) ∧ Below w.heap.size w w' ∧ (er = 0 → P = s ∧ f = 0) := by
  have hl := h.len
  rcases h with ⟨rfl, h1, -⟩ | ⟨rfl, h1, ⟨rfl, rfl, rfl, rfl, rfl, rfl⟩, -⟩
  · obtain ⟨q1, q2, q3, q4, q5⟩ := h1
    refine (pack_good20 sd d x m A B c c' a b w q1 q2 q4 hl.1 hl.2 hca hcb ra rb).mono ?_
    rintro e w' ⟨rfl, hb⟩
    exact ⟨_, _, rfl, hb, fun _ => ⟨data_ext _ _ q5.symm, rfl⟩⟩
  · refine (pack_bad20 0 0 0 0 0 A B c c' [] [] w (by decide) (by decide) (by decide) ra rb).mono ?_
    rintro e w' ⟨rfl, hb⟩
    exact ⟨_, _, rfl, hb, fun h => absurd h h1⟩
set_option maxHeartbeats 8000000 in
theorem reads_any (s : ByteArray) (w : World) (hs : s.size ≤ 9223372036854775807) : Calls Tryz.prog 10 #[.string s] w fun e w' => e = .returned (.bool true) ∧ Below w.heap.size w w' := by
  by_cases hl : 1000 < s.size
  · go_enter Tryz.func10, Tryz.ntmps10
    go_wp2_with (first | (go_at_call 29; refine (awake28_any _).mono ?_; rintro e w1 ⟨rfl, hb1⟩; have HB1 := Lib.hid hb1; clear hb1))
    go_ret
    exact ⟨rfl, HB1.out⟩
  · go_enter Tryz.func10, Tryz.ntmps10
    go_upto_region 5 with (first | (go_at_call 29; refine (awake28_any _).mono ?_; rintro e w1 ⟨rfl, hb1⟩; have HB1 := Lib.hid hb1; clear hb1))
    go_wp2
    rw [show decide ((1000 : Int) < (s.size : Int)) = false from decide_eq_false (by omega)]
    go_loopw [0, 3] (fun sv kv wr => ∃ (t : ByteArray) (k : Nat), sv = .string t ∧ kv = .int .i64 k ∧ k ≤ 2 ∧ t.size ≤ 1000 + 4 * k ∧ Hid (Below w.heap.size w wr)) (fun _ kv _ => (2 - intOf kv).toNat)
    case atStart => exact ⟨s, 0, rfl, rfl, by decide, by omega, HB1⟩
    case round =>
      obtain ⟨t, k, rfl, rfl, hk, ht, HB⟩ := hrel
      clear HB1
      by_cases hk2 : k < 2
      · have HUP := Lib.hid (fun V => unpack_any t (by omega) V)
        have HRU := Lib.hid (fun V => runpack_any t (by omega) V)
        have HSE := Lib.hid (fun V => rseal_any t.data.toList (by rw [ba_len]; omega) V)
        rw [ba_back] at HSE
        have hsz : (⟨(sealB t.data.toList).toArray⟩ : ByteArray).size = t.size + 4 := by
          show (sealB t.data.toList).toArray.size = _
          rw [List.size_toArray, sealB_length, ba_len]
        obtain ⟨t2, ht2⟩ : ∃ t2 : ByteArray, ⟨(sealB t.data.toList).toArray⟩ = t2 := ⟨_, rfl⟩
        rw [ht2] at HSE hsz
        clear ht2
        go_upto_region 9 with (first
          | (go_at_call 43; refine (HUP.out _).mono ?_; rintro e w2 he; obtain ⟨C, sd, d, x, m, a, b, A, B, c, c', er, rfl, hC, hb2, hoa, hob, hf⟩ := he.form; have HB2 := Lib.hid (bTrans HB.out hb2); have OA := Lib.hid hoa; have OB := Lib.hid hob; have HF := Lib.hid hf; have HC := Lib.hid hC; have HC7 : Hid (C.size = 7) := Lib.hid (by rw [hC]; rfl); have HC1 : Hid (C.all (·.oneCell') = true) := Lib.hid (by rw [hC]; simp [Value.oneCell']); have hw2 := hb2.size; clear he hb2 hoa hob hf hC)
          | (refine wpList_store_mid rfl 76 (.tmp 4) (.tmp 22) rfl w2.heap.size 0 C rfl rfl (there_new _ _ _ (by rw [HC7.out]; rfl)) (by rw [HC7.out]; kernel_rfl) HC1.out ?_))
        refine named_put (F := fun W => Code.wp _ _ _ _ W) (by rw [Array.length_toList, HC7.out]; rfl) ?_
        intro w3 k3 hb3 hz3
        rw [Array.toArray_toList] at k3
        have hwr := HB.out.size
        have T3 := Lib.hid k3
        have HB3 := Lib.hid (bTrans HB2.out hb3)
        have OA3 := Lib.hid (OA.out.below hb3)
        have OB3 := Lib.hid (OB.out.below hb3)
        obtain ⟨g1, hg1⟩ : ∃ g1, w2.heap.size = g1 := ⟨_, rfl⟩
        rw [hg1] at T3 ⊢
        clear k3 hb3 hz3 hg1 HB2 OA OB HUP
        go_upto_region 10 with (first
          | (go_at_call 44; refine (HRU.out _).mono ?_; rintro e w4 he; obtain ⟨C', sd', d', x', m', a', b', A', B', k1, k2, er', rfl, hC', hb4, hoa', hob', hf'⟩ := he.form; have HB4 := Lib.hid (bTrans HB3.out hb4); have T4 := Lib.hid (T3.out.on hb4); have OA4 := Lib.hid (OA3.out.below hb4); have OB4 := Lib.hid (OB3.out.below hb4); have OA4' := Lib.hid hoa'; have OB4' := Lib.hid hob'; have HF' := Lib.hid hf'; have HC' := Lib.hid hC'; have HC7' : Hid (C'.size = 7) := Lib.hid (by rw [hC']; rfl); have HC1' : Hid (C'.all (·.oneCell') = true) := Lib.hid (by rw [hC']; simp [Value.oneCell']); clear he hb4 hoa' hob' hf' hC')
          | (refine wpList_store_mid rfl 76 (.tmp 6) (.tmp 27) rfl w4.heap.size 0 C' rfl rfl (there_new _ _ _ (by rw [HC7'.out]; rfl)) (by rw [HC7'.out]; kernel_rfl) HC1'.out ?_))
        refine named_put (F := fun W => Code.wp _ _ _ _ W) (by rw [Array.length_toList, HC7'.out]; rfl) ?_
        intro w5 k5 hb5 hz5
        rw [Array.toArray_toList] at k5
        have U5 := Lib.hid k5
        have T5 := Lib.hid (T4.out.on hb5)
        have HB5 := Lib.hid (bTrans HB4.out hb5)
        have OA5 := Lib.hid (OA4.out.below hb5)
        have OB5 := Lib.hid (OB4.out.below hb5)
        have OA5' := Lib.hid (OA4'.out.below hb5)
        have OB5' := Lib.hid (OB4'.out.below hb5)
        obtain ⟨g2, hg2⟩ : ∃ g2, w4.heap.size = g2 := ⟨_, rfl⟩
        rw [hg2] at U5 ⊢
        obtain ⟨⟨rfl, rfl, rfl, rfl, rfl, rfl⟩, rfl⟩ := HF.out.same HF'.out
        clear k5 hb5 hz5 hg2 HB4 T4 OA4 OB4 OA4' OB4' HRU HB3 T3 OA3 OB3 HF'
        have hl2 := HF.out.len
        have HSM := Lib.hid (same28_yes sd' d' x' 0 m' A B A' B' c c' k1 k2 a' b' w5 hl2.1 hl2.2 OA5.out.rd OB5.out.rd OA5'.out.rd OB5'.out.rd)
        have HPK := Lib.hid (fun (V : World) (hV : Below w5.heap.size w5 V) => unp_pack HF.out A B c c' V OA5.out.cap OB5.out.cap ((OA5.out.rd.below hV (Nat.le_refl _)).more hV.size) ((OB5.out.rd.below hV (Nat.le_refl _)).more hV.size))
        rw [← HC.out] at HSM HPK
        rw [← HC'.out] at HSM
        have HRG : Hid (∀ V, Below w5.heap.size w5 V → V.rangeAt g1 0 C.toList) := Lib.hid (fun V hV => Blk.range (by simpa using T5.out.on hV))
        have HRG' : Hid (w5.rangeAt g2 0 C'.toList) := Lib.hid (Blk.range (by simpa using U5.out))
        have HYZ : Hid ((Tryz.prog.info? 76).map (·.size) = some C.size) := Lib.hid (by rw [HC7.out]; kernel_rfl)
        have HYZ' : Hid ((Tryz.prog.info? 76).map (·.size) = some C'.size) := Lib.hid (by rw [HC7'.out]; kernel_rfl)
        clear HF HC HC' HC1 HC1' OA5 OB5 OA5' OB5' T5 U5 hl2 hwr hw2
        go_upto_region 12 with (first
          | (refine wpList_load_mid rfl 76 (.tmp 4) rfl g1 0 rfl C.toList _ (HRG.out _ (Below.refl _ _)) Tryz.underlying76 rfl (by rw [Array.length_toList]; exact HYZ.out) ?_; rw [Array.toArray_toList])
          | (refine wpList_load_mid rfl 76 (.tmp 6) rfl g2 0 rfl C'.toList _ HRG'.out Tryz.underlying76 rfl (by rw [Array.length_toList]; exact HYZ'.out) ?_; rw [Array.toArray_toList])
          | (go_at_call 42; refine HSM.out.mono ?_; rintro e w6 ⟨rfl, hb6⟩; have HB6 := Lib.hid hb6; clear hb6))
        go_upto_region 13 with (first
          | (refine wpList_load_mid rfl 76 (.tmp 4) rfl g1 0 rfl C.toList _ (HRG.out _ HB6.out) Tryz.underlying76 rfl (by rw [Array.length_toList]; exact HYZ.out) ?_; rw [Array.toArray_toList])
          | (go_at_call 34; refine (HPK.out _ HB6.out).mono ?_; rintro e w7 ⟨P, f, rfl, hb7, hpf⟩; have HB7 := Lib.hid (bTrans (bTrans HB5.out HB6.out) hb7); have HPF := Lib.hid hpf; clear hb7 hpf))
        clear HSM HPK HRG HRG' HYZ HYZ' HC7 HC7' HB5
        by_cases he : er' = 0
        · obtain ⟨rfl, rfl⟩ := HPF.out he
          subst he
          clear HPF
          go_wp2_with (first | (go_at_call 45; refine (HSE.out _).mono ?_; rintro e w8 ⟨rfl, hb8⟩; have HB8 := Lib.hid (bTrans HB7.out hb8); clear hb8))
          go_roundw
          case rel => exact ⟨t2, k + 1, rfl, by go_num, by omega, by omega, HB8⟩
          case measure => simp [intOf]; omega
        · have heq : (er' == 0) = false := by simpa using he
          clear HPF he
          go_wp2_with (first | (go_at_call 45; refine (HSE.out _).mono ?_; rintro e w8 ⟨rfl, hb8⟩; have HB8 := Lib.hid (bTrans HB7.out hb8); clear hb8))
          go_roundw
          case rel => exact ⟨t2, k + 1, rfl, by go_num, by omega, by omega, HB8⟩
          case measure => simp [intOf]; omega
      · go_wp2
        go_ret
        exact ⟨rfl, HB.out⟩
end
end Go.Proofs.YtibeihcpehikoaaGreat
