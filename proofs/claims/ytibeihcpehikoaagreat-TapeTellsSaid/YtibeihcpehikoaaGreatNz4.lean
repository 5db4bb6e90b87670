/-
  The walks beneath: TapF, TapM, TapU.
-/
import Derived.Test.YtibeihcpehikoaaGreatNx1
import Derived.Test.YtibeihcpehikoaaGreatNz3
import Derived.Test.YtibeihcpehikoaaGreatNy4
import Derived.Test.YtibeihcpehikoaaGreatNx4
import Derived.Test.YtibeihcpehikoaaGreatNx8
namespace Go.Proofs.YtibeihcpehikoaaGreat
section
set_option maxHeartbeats 8000000
open Go.RowKit
set_option maxRecDepth 100000
set_option linter.unusedSimpArgs false
theorem badB_take_succ (l : List Nat) (k : Nat) (h : k < l.length) : badB (l.take (k + 1)) = (badB (l.take k) || decide (63 < l[k])) := by
 unfold badB
 rw [List.take_succ_eq_append_getElem h, List.any_append]
 simp
theorem badB_mem {l : List Nat} {k : Nat} (h : k < l.length) (hx : 63 < l[k]) : badB l = true := by
 unfold badB
 rw [List.any_eq_true]
 exact ⟨l[k], List.getElem_mem h, decide_eq_true hx⟩
theorem rfits20 (s d x y : Int) (A B : Option Addr) (c c' : Nat) (a b : List Nat) (w : World) (ha : a.length ≤ 20000) (hb : b.length ≤ 20000) (ra : Rd w w.heap.size A (a.flatMap btC)) (rb : Rd w w.heap.size B (b.flatMap btC)) :
  Calls Tryz.prog 19 #[.agg #[.int .u32 s, .int .i64 d, .int .i64 x, .int .i64 y], .slice A a.length c, .slice B b.length c'] w fun e w' => e = .returned (.int .i64 (ofE d a b)) ∧ Below w.heap.size w w' := by
 have HRA := zz ra
 have HRB := zz rb
 obtain ⟨na, hna⟩ : ∃ na, a.length = na := ⟨_, rfl⟩
 obtain ⟨nb, hnb⟩ : ∃ nb, b.length = nb := ⟨_, rfl⟩
 have HNA := zz hna
 have HNB := zz hnb
 obtain ⟨E, hE⟩ : ∃ E : Int, ofE d a b = E := ⟨_, rfl⟩
 have HE := zz hE
 rw [hna] at ha ⊢
 rw [hnb] at hb ⊢
 rw [hE]
 clear ra rb hna hnb hE
 by_cases h1 : d < 0
 ·have HE1 : Hid (E = 1) := zz (by rw [← HE.out]; unfold ofE; rw [if_pos]; unfold ofB; simp [h1])
  go_enter Tryz.func19, Tryz.ntmps19
  go_wp2
  go_ret
  exact ⟨by rw [HE1.out]; rfl, (by repeat (first | exact Below.refl _ _ | (with_reducible assumption) | apply bAlloc | apply below_drewN | apply Below.drew))⟩
 by_cases h2 : 8 < d
 ·have HE1 : Hid (E = 1) := zz (by rw [← HE.out]; unfold ofE; rw [if_pos]; unfold ofB; simp [h2])
  have g1 : decide (d < 0) = false := decide_eq_false h1
  go_enter Tryz.func19, Tryz.ntmps19
  go_wp2
  go_ret
  exact ⟨by rw [HE1.out]; rfl, (by repeat (first | exact Below.refl _ _ | (with_reducible assumption) | apply bAlloc | apply below_drewN | apply Below.drew))⟩
 have hd : 0 ≤ d ∧ d ≤ 8 := by omega
 have g1 : decide (d < 0) = false := decide_eq_false h1
 have g2 : decide (8 < d) = false := decide_eq_false h2
 have HOB : Hid (ofB d a b = (badB a || badB b)) := zz (by unfold ofB; rw [g1, g2]; simp)
 obtain ⟨hd1, hd2⟩ := hd
 clear h1 h2
 go_enter Tryz.func19, Tryz.ntmps19
 go_upto_region 1 with fail
 refine named1 (F := fun W => Code.wp _ _ _ _ W) ?_
 intro w1 k0 hb1 hz1
 have r0a := (k0).cell 0; have r0b := (k0).cell 1; have r0c := (k0).cell 2; have r0d := (k0).cell 3; have r0e := (k0).frozen 0; have r0f := (k0).frozen 1; have r0g := (k0).frozen 2; have r0h := (k0).frozen 3; have r0l := (k0).lt; simp only [List.getElem?_toArray, List.getElem?_cons_zero, List.getElem?_cons_succ] at r0a r0b r0c r0d
 have K0 := zz k0
 have HB1 := zz hb1
 clear k0 hb1 hz1
 go_wp2
 go_loop [7] (fun i => ∃ k : Nat, k ≤ na + nb ∧ i = .int .i64 k ∧ Hid (badB (a.take k) = false ∧ badB (b.take k) = false)) (fun i => na + nb - (intOf i).toNat)
 case atStart => exact ⟨0, Nat.zero_le _, rfl, zz ⟨rfl, rfl⟩⟩
 case round =>
  obtain ⟨k, hk, rfl, HBD⟩ := hrel
  by_cases h3 : k < na
  ·have h3a : k < a.length := by rw [HNA.out]; exact h3
   obtain ⟨ga, oa, rfl, hga, ca⟩ := HRA.out.at_ btC_length (by omega) h3a
   replace ca := ca 0 _ rfl
   rw [Nat.add_zero, Nat.mul_one] at ca
   have ca1 := (HB1.out.cell (p := ⟨ga, oa + k, none⟩) hga).trans ca
   have HSA := zz (badB_take_succ a k h3a)
   have HMA := zz (fun h => badB_mem (l := a) (k := k) h3a h)
   have hla : ga < w1.heap.size := Nat.lt_of_lt_of_le hga HB1.out.size
   obtain ⟨xa, hxa⟩ : ∃ xa, a[k] = xa := ⟨_, rfl⟩
   rw [hxa] at ca1 HSA HMA
   clear hxa ca h3a
   by_cases h5 : 63 < xa
   ·have HE1 : Hid (E = 1) := zz (by rw [← HE.out]; unfold ofE; rw [HOB.out, HMA.out h5]; rfl)
    have g5 : decide ((63 : Int) < (xa : Int)) = true := decide_eq_true (by omega)
    go_wp2
    go_ret
    exact ⟨by rw [HE1.out]; rfl, HB1.out⟩
   ·have g5 : decide ((63 : Int) < (xa : Int)) = false := decide_eq_false (by omega)
    have HA2 : Hid (badB (a.take (k + 1)) = false) := zz (by rw [HSA.out, HBD.out.1, decide_eq_false h5]; rfl)
    by_cases h4 : k < nb
    ·have h4b : k < b.length := by rw [HNB.out]; exact h4
     obtain ⟨gb, ob, rfl, hgb, cb⟩ := HRB.out.at_ btC_length (by omega) h4b
     replace cb := cb 0 _ rfl
     rw [Nat.add_zero, Nat.mul_one] at cb
     have cb1 := (HB1.out.cell (p := ⟨gb, ob + k, none⟩) hgb).trans cb
     have HSB := zz (badB_take_succ b k h4b)
     have HMB := zz (fun h => badB_mem (l := b) (k := k) h4b h)
     have hlb : gb < w1.heap.size := Nat.lt_of_lt_of_le hgb HB1.out.size
     obtain ⟨xb, hxb⟩ : ∃ xb, b[k] = xb := ⟨_, rfl⟩
     rw [hxb] at cb1 HSB HMB
     clear hxb cb h4b
     by_cases h6 : 63 < xb
     ·have HE1 : Hid (E = 1) := zz (by rw [← HE.out]; unfold ofE; rw [HOB.out, HMB.out h6, Bool.or_true]; rfl)
      have g6 : decide ((63 : Int) < (xb : Int)) = true := decide_eq_true (by omega)
      go_wp2
      go_ret
      exact ⟨by rw [HE1.out]; rfl, HB1.out⟩
     ·have g6 : decide ((63 : Int) < (xb : Int)) = false := decide_eq_false (by omega)
      have HB2 : Hid (badB (b.take (k + 1)) = false) := zz (by rw [HSB.out, HBD.out.2, decide_eq_false h6]; rfl)
      clear HE HOB
      go_wp2
      go_round
      case rel => exact ⟨k + 1, by omega, by go_num, zz ⟨HA2.out, HB2.out⟩⟩
      case measure => simp [intOf]; omega
    ·have HB2 : Hid (badB (b.take (k + 1)) = false) := zz (by
      rw [List.take_of_length_le (by rw [HNB.out]; omega)]
      have := HBD.out.2
      rwa [List.take_of_length_le (by rw [HNB.out]; omega)] at this)
     have g4 : decide ((k : Int) < (nb : Int)) = false := decide_eq_false (by omega)
     clear HE HOB
     go_wp2
     go_round
     case rel => exact ⟨k + 1, by omega, by go_num, zz ⟨HA2.out, HB2.out⟩⟩
     case measure => simp [intOf]; omega
  ·have g3 : decide ((k : Int) < (na : Int)) = false := decide_eq_false (by omega)
   have HA0 : Hid (badB a = false) := zz (by
    have := HBD.out.1
    rwa [List.take_of_length_le (by rw [HNA.out]; omega)] at this)
   have HA2 : Hid (badB (a.take (k + 1)) = false) := zz (by
    rw [List.take_of_length_le (by rw [HNA.out]; omega)]; exact HA0.out)
   by_cases h4 : k < nb
   ·have h4b : k < b.length := by rw [HNB.out]; exact h4
    obtain ⟨gb, ob, rfl, hgb, cb⟩ := HRB.out.at_ btC_length (by omega) h4b
    replace cb := cb 0 _ rfl
    rw [Nat.add_zero, Nat.mul_one] at cb
    have cb1 := (HB1.out.cell (p := ⟨gb, ob + k, none⟩) hgb).trans cb
    have HSB := zz (badB_take_succ b k h4b)
    have HMB := zz (fun h => badB_mem (l := b) (k := k) h4b h)
    have hlb : gb < w1.heap.size := Nat.lt_of_lt_of_le hgb HB1.out.size
    obtain ⟨xb, hxb⟩ : ∃ xb, b[k] = xb := ⟨_, rfl⟩
    rw [hxb] at cb1 HSB HMB
    clear hxb cb h4b
    by_cases h6 : 63 < xb
    ·have HE1 : Hid (E = 1) := zz (by rw [← HE.out]; unfold ofE; rw [HOB.out, HMB.out h6, Bool.or_true]; rfl)
     have g6 : decide ((63 : Int) < (xb : Int)) = true := decide_eq_true (by omega)
     go_wp2
     go_ret
     exact ⟨by rw [HE1.out]; rfl, HB1.out⟩
    ·have g6 : decide ((63 : Int) < (xb : Int)) = false := decide_eq_false (by omega)
     have HB2 : Hid (badB (b.take (k + 1)) = false) := zz (by rw [HSB.out, HBD.out.2, decide_eq_false h6]; rfl)
     clear HE HOB
     go_wp2
     go_round
     case rel => exact ⟨k + 1, by omega, by go_num, zz ⟨HA2.out, HB2.out⟩⟩
     case measure => simp [intOf]; omega
   ·have g4 : decide ((k : Int) < (nb : Int)) = false := decide_eq_false (by omega)
    have h7 := HBD.out.2
    rw [List.take_of_length_le (by rw [HNB.out]; omega)] at h7
    cases hll : lenB d a b
    ·have HE0 : Hid (E = 0) := zz (by
      rw [← HE.out]; unfold ofE; rw [HOB.out, HA0.out, h7, hll]; rfl)
     unfold lenB at hll
     rw [HNA.out, HNB.out] at hll
     have hll2 := of_decide_eq_false hll
     have hmi : d + min (na : Int) (nb : Int) ≤ 20000 := by omega
     have g7 : decide (20000 < d + min (na : Int) (nb : Int)) = false := decide_eq_false (by omega)
     clear HE HOB hll hll2 h7
     go_wp2
     all_goals
      go_ret
      exact ⟨by rw [HE0.out]; rfl, HB1.out⟩
    ·have HE0 : Hid (E = 5) := zz (by
      rw [← HE.out]; unfold ofE; rw [HOB.out, HA0.out, h7, hll]; rfl)
     unfold lenB at hll
     rw [HNA.out, HNB.out] at hll
     have hll2 := of_decide_eq_true hll
     have hmi : 20000 < d + min (na : Int) (nb : Int) := by omega
     have g7 : decide (20000 < d + min (na : Int) (nb : Int)) = true := decide_eq_true (by omega)
     clear HE HOB hll hll2 h7
     go_wp2
     all_goals
      go_ret
      exact ⟨by rw [HE0.out]; rfl, HB1.out⟩
theorem rright20 (s d x y m : Int) (A B : Option Addr) (c c' : Nat) (a b : List Nat) (w : World) (ha : a.length ≤ 20000) (hb : b.length ≤ 20000) (ra : Rd w w.heap.size A (a.flatMap btC)) (rb : Rd w w.heap.size B (b.flatMap btC)) :
  Calls Tryz.prog 36 #[.agg #[.int .u32 s, .int .i64 d, .int .i64 x, .int .i64 y, .slice A a.length c, .slice B b.length c', .int .u32 m]] w fun e w' => e = .returned (.bool (rightTq d x y a b)) ∧ Below w.heap.size w w' := by
 have HFI := zz (fun (V : World) (hV : Below w.heap.size w V) => rfits20 s d x y A B c c' a b V ha hb ((ra.below hV (Nat.le_refl _)).more hV.size) ((rb.below hV (Nat.le_refl _)).more hV.size))
 obtain ⟨na, hna⟩ : ∃ na, a.length = na := ⟨_, rfl⟩
 obtain ⟨nb, hnb⟩ : ∃ nb, b.length = nb := ⟨_, rfl⟩
 unfold rightTq
 rw [hna, hnb] at HFI ⊢
 obtain ⟨eI, heI⟩ : ∃ eI : Int, ofE d a b = eI := ⟨_, rfl⟩
 have HE : Hid ((!(ofB d a b || lenB d a b)) = (eI == 0)) := zz (by rw [← heI]; unfold ofE; cases ofB d a b <;> cases lenB d a b <;> rfl)
 rw [heI] at HFI
 rw [HE.out]
 clear ra rb hna hnb heI ha hb
 by_cases h1 : 1 ≤ x
 ·by_cases h2 : x ≤ 16
  ·have HD := zz (show decide (1 ≤ x ∧ x ≤ 16) = true from decide_eq_true ⟨h1, h2⟩)
   by_cases hy : y = 0
   ·subst hy
    by_cases hn : na = nb
    ·have hnn : ((na : Int) == (nb : Int)) = true := by rw [hn]; simp
     have HNN := zz hn
     clear hn
     go_enter Tryz.func36, Tryz.ntmps36
     go_upto_region 1 with fail
     refine named1 (F := fun W => Code.wp _ _ _ _ W) ?_
     intro w1 k0 hb1 hz1
     have q7 := k0; have r0a := q7.cell 0; have r0b := q7.cell 1; have r0c := q7.cell 2; have r0d := q7.cell 3; have r0e := q7.cell 4; have r0f := q7.cell 5; have r0g := q7.cell 6; have r0l := q7.lt; simp only [List.getElem?_toArray, List.getElem?_cons_zero, List.getElem?_cons_succ] at r0a r0b r0c r0d r0e r0f r0g; clear q7
     clear hz1 k0
     go_wp2_with (first | (go_at_call 19; refine (HFI.out _ hb1).mono ?_; rintro e w3 ⟨rfl, hb3⟩; have HB3 := zz (bTrans hb1 hb3); clear hb3))
     go_ret
     exact ⟨ret_bool (by rw [HD.out, HNN.out]; simp), HB3.out⟩
    ·have hnn : ((na : Int) == (nb : Int)) = false := by simp; omega
     have HNN := zz hn
     clear hn
     go_enter Tryz.func36, Tryz.ntmps36
     go_wp2
     go_ret
     exact ⟨ret_bool (by rw [HD.out, decide_eq_false HNN.out]; simp), (by repeat (first | exact Below.refl _ _ | (with_reducible assumption) | apply bAlloc | apply below_drewN | apply Below.drew))⟩
   ·have hyy : (y == 0) = false := by simpa using hy
    have HY := zz hy
    clear hy
    go_enter Tryz.func36, Tryz.ntmps36
    go_wp2
    go_ret
    exact ⟨ret_bool (by rw [decide_eq_false HY.out]; simp), (by repeat (first | exact Below.refl _ _ | (with_reducible assumption) | apply bAlloc | apply below_drewN | apply Below.drew))⟩
  ·have g2 : decide (x ≤ 16) = false := decide_eq_false h2
   go_enter Tryz.func36, Tryz.ntmps36
   go_wp2
   go_ret
   exact ⟨rfl, (by repeat (first | exact Below.refl _ _ | (with_reducible assumption) | apply bAlloc | apply below_drewN | apply Below.drew))⟩
 ·have g1 : decide (1 ≤ x) = false := decide_eq_false h1
  go_enter Tryz.func36, Tryz.ntmps36
  go_wp2
  go_ret
  exact ⟨rfl, (by repeat (first | exact Below.refl _ _ | (with_reducible assumption) | apply bAlloc | apply below_drewN | apply Below.drew))⟩
theorem rright_tape (s d x y m : Int) (A B : Option Addr) (c c' : Nat) (a b : List Nat) (w : World) (ha : a.length ≤ 1000) (hb : b.length ≤ 1000) (ra : Rd w w.heap.size A (a.flatMap btC)) (rb : Rd w w.heap.size B (b.flatMap btC)) :
  Calls Tryz.prog 36 #[.agg #[.int .u32 s, .int .i64 d, .int .i64 x, .int .i64 y, .slice A a.length c, .slice B b.length c', .int .u32 m]] w fun e w' => e = .returned (.bool (rightTp d x y a b)) ∧ Below w.heap.size w w' := by
 rw [← rightTq_few (b := b) ha]
 exact rright20 s d x y m A B c c' a b w (by omega) (by omega) ra rb
end
section
set_option maxHeartbeats 8000000
open Go.RowKit Go.Shelf
set_option maxRecDepth 100000
set_option linter.unusedSimpArgs false
theorem tells_bad (s d x y m : Int) (A B : Option Addr) (c c' : Nat) (a b : List Nat) (w : World) (hok : rightTp d x y a b = false) (ha : a.length ≤ 250) (hb : b.length ≤ 250) (ra : Rd w w.heap.size A (a.flatMap btC)) (rb : Rd w w.heap.size B (b.flatMap btC)) :
  Calls Tryz.prog 6 #[.agg #[.int .u32 s, .int .i64 d, .int .i64 x, .int .i64 y, .slice A a.length c, .slice B b.length c', .int .u32 m]] w fun e w' => e = .returned (.bool true) ∧ Below w.heap.size w w' := by
 have RA := fun (V : World) (hV : Below w.heap.size w V) => (ra.below hV (Nat.le_refl _)).more hV.size
 have RB := fun (V : World) (hV : Below w.heap.size w V) => (rb.below hV (Nat.le_refl _)).more hV.size
 have HRI := zz (fun (V : World) (hV : Below w.heap.size w V) => right_tape s d x y m A B c c' a b V (by omega) (by omega) (RA V hV) (RB V hV))
 have HRR := zz (fun (V : World) (hV : Below w.heap.size w V) => rright_tape s d x y m A B c c' a b V (by omega) (by omega) (RA V hV) (RB V hV))
 have HPK := zz (fun (V : World) (hV : Below w.heap.size w V) => pack_bad s d x y m A B c c' a b V hok (by omega) (by omega) (RA V hV) (RB V hV))
 have HVE := zz (fun (V : World) (hV : Below w.heap.size w V) => verify_bad s d x y m A B c c' a b V hok (by omega) (by omega) (RA V hV) (RB V hV))
 rw [hok] at HRI HRR
 obtain ⟨na, hna⟩ : ∃ na, a.length = na := ⟨_, rfl⟩
 obtain ⟨nb, hnb⟩ : ∃ nb, b.length = nb := ⟨_, rfl⟩
 rw [hna] at ha HRI HRR HPK HVE ⊢
 rw [hnb] at hb HRI HRR HPK HVE ⊢
 clear ra rb hna hnb hok RA RB
 go_enter Tryz.func6, Tryz.ntmps6
 go_upto_region 1 with fail
 refine named1 (F := fun W => Code.wp _ _ _ _ W) ?_
 intro w0 k0 hb0 hz0
 have K0 := zz k0
 have HB0 := zz hb0
 clear k0 hb0 hz0
 go_upto_region 3 with (first | (go_at_call 29; refine (awake28_any _).mono ?_; rintro e w1 ⟨rfl, hb1⟩; have HB1 := zz (bTrans HB0.out hb1); have K1 := zz (K0.out.on hb1); clear hb1))
 have q7 := K1.out; have p0a := q7.cell 0; have p0b := q7.cell 1; have p0c := q7.cell 2; have p0d := q7.cell 3; have p0e := q7.cell 4; have p0f := q7.cell 5; have p0g := q7.cell 6; have p0l := q7.lt; simp only [List.getElem?_toArray, List.getElem?_cons_zero, List.getElem?_cons_succ] at p0a p0b p0c p0d p0e p0f p0g; clear q7
 have q1 : decide ((250 : Int) < (na : Int)) = false := decide_eq_false (by omega)
 have q2 : decide ((250 : Int) < (nb : Int)) = false := decide_eq_false (by omega)
 clear K0 HB0
 go_upto_region 7 with (first
  | (go_at_call 34; refine (HPK.out _ HB1.out).mono ?_; rintro e w2 ⟨rfl, hb2⟩; have HB2 := zz (bTrans HB1.out hb2); have K2 := zz (K1.out.on hb2); have q7 := K2.out; have r0a := q7.cell 0; have r0b := q7.cell 1; have r0c := q7.cell 2; have r0d := q7.cell 3; have r0e := q7.cell 4; have r0f := q7.cell 5; have r0g := q7.cell 6; have r0l := q7.lt; simp only [List.getElem?_toArray, List.getElem?_cons_zero, List.getElem?_cons_succ] at r0a r0b r0c r0d r0e r0f r0g; clear q7; clear hb2 p0a p0b p0c p0d p0e p0f p0g p0l)
  | (go_at_call 33; refine (HVE.out _ HB2.out).mono ?_; rintro e w3 ⟨rfl, hb3⟩; have HB3 := zz (bTrans HB2.out hb3); have K3 := zz (K2.out.on hb3); have q7 := K3.out; have s0a := q7.cell 0; have s0b := q7.cell 1; have s0c := q7.cell 2; have s0d := q7.cell 3; have s0e := q7.cell 4; have s0f := q7.cell 5; have s0g := q7.cell 6; have s0l := q7.lt; simp only [List.getElem?_toArray, List.getElem?_cons_zero, List.getElem?_cons_succ] at s0a s0b s0c s0d s0e s0f s0g; clear q7; clear hb3 r0a r0b r0c r0d r0e r0f r0g r0l))
 have HR3 := zz (fun (V : World) (hV : Below w3.heap.size w3 V) => HRI.out V (bTrans HB3.out hV))
 have HQ3 := zz (fun (V : World) (hV : Below w3.heap.size w3 V) => HRR.out V (bTrans HB3.out hV))
 refine wp_region_mild (by kernel_rfl) (by kernel_rfl) ?_
 repeat (go_big_quiet_step (first | (go_at_call 35; exact mild_of (HR3.out _ (Ext.below _))) | (go_at_call 36; exact mild_of (HQ3.out _ (Ext.below _))) | fail))
 refine wpQuiet_nil ?_
 intro w4 hw'
 obtain ⟨⟨wq, k4⟩, hw''⟩ := hw'
 subst hw''
 have HB4 := zz (bTrans HB3.out k4)
 have q7 := (K3.out.on k4); have u0a := q7.cell 0; have u0b := q7.cell 1; have u0c := q7.cell 2; have u0d := q7.cell 3; have u0e := q7.cell 4; have u0f := q7.cell 5; have u0g := q7.cell 6; have u0l := q7.lt; simp only [List.getElem?_toArray, List.getElem?_cons_zero, List.getElem?_cons_succ] at u0a u0b u0c u0d u0e u0f u0g; clear q7
 clear s0a s0b s0c s0d s0e s0f s0g s0l k4 HR3 HQ3
 go_wp2_with (first
  | (go_at_call 36; refine (HRR.out _ HB4.out).mono ?_; rintro e w5 ⟨rfl, hb5⟩; have HB5 := zz (bTrans HB4.out hb5); clear hb5))
 go_ret
 exact ⟨rfl, HB5.out⟩
theorem tells_good (hst : StepR) (s d x m : Int) (A B : Option Addr) (c c' : Nat) (a b : List Nat) (w : World) (hs : U32 s) (hm : U32 m) (hok : rightTp d x 0 a b = true) (ha : a.length ≤ 250) (hb : b.length ≤ 250) (hca : a.length ≤ c) (hcb : b.length ≤ c') (ra : Rd w w.heap.size A (a.flatMap btC)) (rb : Rd w w.heap.size B (b.flatMap btC)) :
  Calls Tryz.prog 6 #[.agg #[.int .u32 s, .int .i64 d, .int .i64 x, .int .i64 0, .slice A a.length c, .slice B b.length c', .int .u32 m]] w fun e w' => e = .returned (.bool true) ∧ Below w.heap.size w w' := by
 have hof : ofB d a b = false := by
  unfold rightTp at hok
  simp only [Bool.and_eq_true, Bool.not_eq_true'] at hok
  exact hok.2.2.2
 have RA := fun (V : World) (hV : Below w.heap.size w V) => (ra.below hV (Nat.le_refl _)).more hV.size
 have RB := fun (V : World) (hV : Below w.heap.size w V) => (rb.below hV (Nat.le_refl _)).more hV.size
 have HRI := zz (fun (V : World) (hV : Below w.heap.size w V) => right_tape s d x 0 m A B c c' a b V (by omega) (by omega) (RA V hV) (RB V hV))
 have HRR := zz (fun (V : World) (hV : Below w.heap.size w V) => rright_tape s d x 0 m A B c c' a b V (by omega) (by omega) (RA V hV) (RB V hV))
 have HPK := zz (fun (V : World) (hV : Below w.heap.size w V) => pack_good s d x m A B c c' a b V hs hm hok (by omega) (by omega) hca hcb (RA V hV) (RB V hV))
 have HPR := zz (fun (V : World) (hV : Below w.heap.size w V) => rpack_any s d x m A B c c' a b V hs hm hok (by omega) (by omega) (RA V hV) (RB V hV))
 have HVE := zz (fun (V : World) (hV : Below w.heap.size w V) => verify_good s d x m A B c c' a b V hs hok (by omega) (by omega) (RA V hV) (RB V hV))
 have HHA := zz (fun (V : World) (hV : Below w.heap.size w V) => rhap_any hst s d x 0 A B c c' a b V hs hof (by omega) (by omega) (RA V hV) (RB V hV))
 rw [hok] at HRI HRR
 have hhl := hapG_lt s d a b
 obtain ⟨H, hH⟩ : ∃ H, hapG s d a b = H := ⟨_, rfl⟩
 rw [hH] at HVE HHA hhl
 obtain ⟨PS, hPS⟩ : ∃ PS, (⟨(sealB (packB s d x m a b)).toArray⟩ : ByteArray) = PS := ⟨_, rfl⟩
 rw [hPS] at HPK HPR
 obtain ⟨vv, hvv⟩ : ∃ vv : Int, (if (H : Int) = m then 0 else 13) = vv := ⟨_, rfl⟩
 have HVV := zz hvv
 rw [hvv] at HVE
 obtain ⟨na, hna⟩ : ∃ na, a.length = na := ⟨_, rfl⟩
 obtain ⟨nb, hnb⟩ : ∃ nb, b.length = nb := ⟨_, rfl⟩
 rw [hna] at ha HRI HRR HPK HVE HPR HHA ⊢
 rw [hnb] at hb HRI HRR HPK HVE HPR HHA ⊢
 clear ra rb hna hnb hok RA RB hof hst hH hPS hvv hca hcb
 go_enter Tryz.func6, Tryz.ntmps6
 go_upto_region 1 with fail
 refine named1 (F := fun W => Code.wp _ _ _ _ W) ?_
 intro w0 k0 hb0 hz0
 have K0 := zz k0
 have HB0 := zz hb0
 clear k0 hb0 hz0
 go_upto_region 3 with (first | (go_at_call 29; refine (awake28_any _).mono ?_; rintro e w1 ⟨rfl, hb1⟩; have HB1 := zz (bTrans HB0.out hb1); have K1 := zz (K0.out.on hb1); clear hb1))
 have q7 := K1.out; have p0a := q7.cell 0; have p0b := q7.cell 1; have p0c := q7.cell 2; have p0d := q7.cell 3; have p0e := q7.cell 4; have p0f := q7.cell 5; have p0g := q7.cell 6; have p0l := q7.lt; simp only [List.getElem?_toArray, List.getElem?_cons_zero, List.getElem?_cons_succ] at p0a p0b p0c p0d p0e p0f p0g; clear q7
 have q1 : decide ((250 : Int) < (na : Int)) = false := decide_eq_false (by omega)
 have q2 : decide ((250 : Int) < (nb : Int)) = false := decide_eq_false (by omega)
 clear K0 HB0
 go_upto_region 7 with (first
  | (go_at_call 34; refine (HPK.out _ HB1.out).mono ?_; rintro e w2 ⟨rfl, hb2⟩; have HB2 := zz (bTrans HB1.out hb2); have K2 := zz (K1.out.on hb2); have q7 := K2.out; have r0a := q7.cell 0; have r0b := q7.cell 1; have r0c := q7.cell 2; have r0d := q7.cell 3; have r0e := q7.cell 4; have r0f := q7.cell 5; have r0g := q7.cell 6; have r0l := q7.lt; simp only [List.getElem?_toArray, List.getElem?_cons_zero, List.getElem?_cons_succ] at r0a r0b r0c r0d r0e r0f r0g; clear q7; clear hb2 p0a p0b p0c p0d p0e p0f p0g p0l)
  | (go_at_call 33; refine (HVE.out _ HB2.out).mono ?_; rintro e w3 ⟨rfl, hb3⟩; have HB3 := zz (bTrans HB2.out hb3); have K3 := zz (K2.out.on hb3); have q7 := K3.out; have s0a := q7.cell 0; have s0b := q7.cell 1; have s0c := q7.cell 2; have s0d := q7.cell 3; have s0e := q7.cell 4; have s0f := q7.cell 5; have s0g := q7.cell 6; have s0l := q7.lt; simp only [List.getElem?_toArray, List.getElem?_cons_zero, List.getElem?_cons_succ] at s0a s0b s0c s0d s0e s0f s0g; clear q7; clear hb3 r0a r0b r0c r0d r0e r0f r0g r0l))
 have HR3 := zz (fun (V : World) (hV : Below w3.heap.size w3 V) => HRI.out V (bTrans HB3.out hV))
 have HQ3 := zz (fun (V : World) (hV : Below w3.heap.size w3 V) => HRR.out V (bTrans HB3.out hV))
 refine wp_region_mild (by kernel_rfl) (by kernel_rfl) ?_
 repeat (go_big_quiet_step (first | (go_at_call 35; exact mild_of (HR3.out _ (Ext.below _))) | (go_at_call 36; exact mild_of (HQ3.out _ (Ext.below _))) | fail))
 refine wpQuiet_nil ?_
 intro w4 hw'
 obtain ⟨⟨wq, k4⟩, hw''⟩ := hw'
 subst hw''
 have HB4 := zz (bTrans HB3.out k4)
 have K4 := zz (K3.out.on k4)
 have q7 := K4.out; have u0a := q7.cell 0; have u0b := q7.cell 1; have u0c := q7.cell 2; have u0d := q7.cell 3; have u0e := q7.cell 4; have u0f := q7.cell 5; have u0g := q7.cell 6; have u0l := q7.lt; simp only [List.getElem?_toArray, List.getElem?_cons_zero, List.getElem?_cons_succ] at u0a u0b u0c u0d u0e u0f u0g; clear q7
 clear s0a s0b s0c s0d s0e s0f s0g s0l k4 HR3 HQ3 K3 K1 K2
 go_upto_region 13 with (first
  | (go_at_call 36; refine (HRR.out _ HB4.out).mono ?_; rintro e w5 ⟨rfl, hb5⟩; have HB5 := zz (bTrans HB4.out hb5); have K5 := zz (K4.out.on hb5); have q7 := K5.out; have r0a := q7.cell 0; have r0b := q7.cell 1; have r0c := q7.cell 2; have r0d := q7.cell 3; have r0e := q7.cell 4; have r0f := q7.cell 5; have r0g := q7.cell 6; have r0l := q7.lt; simp only [List.getElem?_toArray, List.getElem?_cons_zero, List.getElem?_cons_succ] at r0a r0b r0c r0d r0e r0f r0g; clear q7; clear hb5 u0a u0b u0c u0d u0e u0f u0g u0l)
  | (go_at_call 37; refine (HPR.out _ HB5.out).mono ?_; rintro e w6 ⟨rfl, hb6⟩; have HB6 := zz (bTrans HB5.out hb6); have K6 := zz (K5.out.on hb6); have q7 := K6.out; have s0a := q7.cell 0; have s0b := q7.cell 1; have s0c := q7.cell 2; have s0d := q7.cell 3; have s0e := q7.cell 4; have s0f := q7.cell 5; have s0g := q7.cell 6; have s0l := q7.lt; simp only [List.getElem?_toArray, List.getElem?_cons_zero, List.getElem?_cons_succ] at s0a s0b s0c s0d s0e s0f s0g; clear q7; clear hb6 r0a r0b r0c r0d r0e r0f r0g r0l))
 have HH6 := zz (fun (V : World) (hV : Below w6.heap.size w6 V) => HHA.out V (bTrans HB6.out hV))
 by_cases hHm : (H : Int) = m
 ·have hmm : ((H : Int) != m) = false := by simp [hHm]
  have e0 : vv = 0 := by rw [← HVV.out, if_pos hHm]
  subst e0
  clear hHm
  refine wp_region_mild (by kernel_rfl) (by kernel_rfl) ?_
  repeat (go_big_quiet_step (first | (go_at_call 32; exact mild_of (HH6.out _ (Ext.below _))) | fail))
  refine wpQuiet_nil ?_
  intro w7 hw'
  obtain ⟨⟨wq, k7⟩, hw''⟩ := hw'
  subst hw''
  go_wp2
  go_ret
  exact ⟨rfl, bTrans HB6.out k7⟩
 ·have hmm : ((H : Int) != m) = true := by simp [hHm]
  have e0 : vv = 13 := by rw [← HVV.out, if_neg hHm]
  subst e0
  clear hHm
  refine wp_region_mild (by kernel_rfl) (by kernel_rfl) ?_
  repeat (go_big_quiet_step (first | (go_at_call 32; exact mild_of (HH6.out _ (Ext.below _))) | fail))
  refine wpQuiet_nil ?_
  intro w7 hw'
  obtain ⟨⟨wq, k7⟩, hw''⟩ := hw'
  subst hw''
  go_wp2
  go_ret
  exact ⟨rfl, bTrans HB6.out k7⟩
theorem tells_long (s d x y m : Int) (A B : Option Addr) (na c nb c' : Nat) (w : World) (hl : 250 < na ∨ 250 < nb) (hn : na ≤ 9223372036854775807 ∧ nb ≤ 9223372036854775807) :
  Calls Tryz.prog 6 #[.agg #[.int .u32 s, .int .i64 d, .int .i64 x, .int .i64 y, .slice A na c, .slice B nb c', .int .u32 m]] w fun e w' => e = .returned (.bool true) ∧ Below w.heap.size w w' := by
 go_enter Tryz.func6, Tryz.ntmps6
 go_upto_region 1 with fail
 refine named1 (F := fun W => Code.wp _ _ _ _ W) ?_
 intro w0 k0 hb0 hz0
 have K0 := zz k0
 have HB0 := zz hb0
 clear k0 hb0 hz0
 go_upto_region 3 with (first | (go_at_call 29; refine (awake28_any _).mono ?_; rintro e w1 ⟨rfl, hb1⟩; have HB1 := zz (bTrans HB0.out hb1); have K1 := zz (K0.out.on hb1); clear hb1))
 have q7 := K1.out; have p0a := q7.cell 0; have p0b := q7.cell 1; have p0c := q7.cell 2; have p0d := q7.cell 3; have p0e := q7.cell 4; have p0f := q7.cell 5; have p0g := q7.cell 6; have p0l := q7.lt; simp only [List.getElem?_toArray, List.getElem?_cons_zero, List.getElem?_cons_succ] at p0a p0b p0c p0d p0e p0f p0g; clear q7
 clear K0 HB0
 by_cases h1 : 250 < na
 ·have q1 : decide ((250 : Int) < (na : Int)) = true := decide_eq_true (by omega)
  go_wp2_with fail
  go_ret
  exact ⟨rfl, HB1.out⟩
 ·have q1 : decide ((250 : Int) < (na : Int)) = false := decide_eq_false (by omega)
  have q2 : decide ((250 : Int) < (nb : Int)) = true := decide_eq_true (by omega)
  go_wp2_with fail
  go_ret
  exact ⟨rfl, HB1.out⟩
theorem tells_any (hst : StepR) (s d x y m : Int) (A B : Option Addr) (c c' : Nat) (a b : List Nat) (w : World) (hs : U32 s) (hm : U32 m) (hca : a.length ≤ c) (hcb : b.length ≤ c') (hn : a.length ≤ 9223372036854775807 ∧ b.length ≤ 9223372036854775807) (ra : Rd w w.heap.size A (a.flatMap btC)) (rb : Rd w w.heap.size B (b.flatMap btC)) :
  Calls Tryz.prog 6 #[.agg #[.int .u32 s, .int .i64 d, .int .i64 x, .int .i64 y, .slice A a.length c, .slice B b.length c', .int .u32 m]] w fun e w' => e = .returned (.bool true) ∧ Below w.heap.size w w' := by
 by_cases hl : 250 < a.length ∨ 250 < b.length
 ·exact tells_long s d x y m A B _ c _ c' w hl hn
 ·cases hok : rightTp d x y a b with
  | false => exact tells_bad s d x y m A B c c' a b w hok (by omega) (by omega) ra rb
  | true =>
   obtain ⟨-, rfl, -⟩ := right_parts hok
   exact tells_good hst s d x m A B c c' a b w hs hm hok (by omega) (by omega) hca hcb ra rb
end
section
open Go.RowKit Go.WideShapes Go.ChangeShapes
set_option maxRecDepth 100000
section
variable {H : Type} {enc : TypeId × Value → H} {w : World} {held : Bool} {r : Reach} {b0 : Nat} {v : Value} {d : DataW H} {p : List MemPlace}
theorem cellsTape : Tryz.prog.cellsOf 76 = 7 := by kernel_rfl
theorem cellsBts : Tryz.prog.cellsOf 25 = 1 := by kernel_rfl
theorem cellsU32 : Tryz.prog.cellsOf 22 = 1 := by kernel_rfl
theorem bytes_list {css : List (List Value)} (hall : ∀ cs ∈ css, ∃ fuel y, DataW.trod enc Tryz.prog w 0 (fun _ => true) held fuel 5 cs = some y) : ∃ l : List Nat, css = l.map btC ∧ ∀ q ∈ l, q < 256 :=
 list_of_forms (f := btC) (p := fun q => q < 256) (l := css) (fun cs hcs => by
  obtain ⟨fuel, y, hy⟩ := hall cs hcs
  obtain ⟨X, e1, e2, e3⟩ := trod_ints 100 5 _ byte_kinds (by rw [cellsByte]; rfl) fuel _ _ hy
  match X, e2 with
  | [a], _ =>
   have ha := bounds_u8 (e3 0 .u8 a rfl rfl)
   refine ⟨a.toNat, ?_, by omega⟩
   rw [e1]
   unfold btC ivals
   simp only [List.zipWith_cons_cons, List.zipWith_nil_left]
   rw [Int.toNat_of_nonneg ha.1])
theorem open_tape (hv : Value.okWide Tryz.prog w r b0 76 v) (h : DataW.Trod enc Tryz.prog w 0 (fun _ => true) held 76 v d p) :
  ∃ (s d' x y m : Int) (A B : Option Addr) (c c' : Nat) (a b : List Nat), v = .agg #[.int .u32 s, .int .i64 d', .int .i64 x, .int .i64 y, .slice A a.length c, .slice B b.length c', .int .u32 m] ∧ U32 s ∧ U32 m ∧ (a.length ≤ c ∧ c ≤ maxLen) ∧ (b.length ≤ c' ∧ c' ≤ maxLen) ∧ Rd w w.heap.size A (a.flatMap btC) ∧ Rd w w.heap.size B (b.flatMap btC) := by
 obtain ⟨cs, rfl, -⟩ := okWide_struct Tryz.underlying76 hv
 obtain ⟨fuel, hf⟩ := h
 obtain ⟨xs, n, -, -, hlen, hxl, hg⟩ := DataW.trod_struct Tryz.underlying76 hf
 rw [cellsTape] at hlen
 obtain ⟨cs⟩ := cs
 change cs.length = 7 at hlen
 match cs, hlen with
 | [c0, c1, c2, c3, c4, c5, c6], _ =>
  simp only [List.size_toArray, List.length_cons, List.length_nil] at hxl
  match xs, hxl with
  | [y0, y1, y2, y3], _ =>
   have k0 : DataW.trod enc Tryz.prog w 0 (fun _ => true) held n 24 ((List.drop 0 [c0, c1, c2, c3, c4, c5, c6]).take (Tryz.prog.cellsOf 24)) = some y0 := hg 0 _ rfl
   rw [cellsCfg] at k0
   have k1 : DataW.trod enc Tryz.prog w 0 (fun _ => true) held n 25 ((List.drop 4 [c0, c1, c2, c3, c4, c5, c6]).take (Tryz.prog.cellsOf 25)) = some y1 := hg 1 _ rfl
   rw [cellsBts] at k1
   have k2 : DataW.trod enc Tryz.prog w 0 (fun _ => true) held n 25 ((List.drop 5 [c0, c1, c2, c3, c4, c5, c6]).take (Tryz.prog.cellsOf 25)) = some y2 := hg 2 _ rfl
   rw [cellsBts] at k2
   have k3 : DataW.trod enc Tryz.prog w 0 (fun _ => true) held n 22 ((List.drop 6 [c0, c1, c2, c3, c4, c5, c6]).take (Tryz.prog.cellsOf 22)) = some y3 := hg 3 _ rfl
   rw [cellsU32] at k3
   obtain ⟨X, e1, e2, e3⟩ := trod_ints 100 24 _ cfg_kinds (by rw [cellsCfg]; rfl) n _ _ k0
   match X, e2 with
   | [s, d', x, y], _ =>
    obtain ⟨A, m1, cA, cssA, f1, rfl, hnA, hmA, hrA, hallA⟩ := rows_of_trod Tryz.underlying25 cellsByte (by omega) k1
    obtain ⟨B, m2, cB, cssB, f2, rfl, hnB, hmB, hrB, hallB⟩ := rows_of_trod Tryz.underlying25 cellsByte (by omega) k2
    obtain ⟨m, f3, -, w3⟩ := DataW.trod_int Tryz.underlying22 k3
    obtain ⟨a, rfl, -⟩ := bytes_list (fun cs hcs => (hallA cs hcs).2)
    obtain ⟨b, rfl, -⟩ := bytes_list (fun cs hcs => (hallB cs hcs).2)
    simp only [ivals, List.zipWith_cons_cons, List.zipWith_nil_left, List.drop_zero, List.drop_succ_cons, List.take_succ_cons, List.take_zero, List.cons.injEq, and_true] at e1 f1 f2 f3
    obtain ⟨rfl, rfl, rfl, rfl⟩ := e1
    subst f1 f2 f3
    rw [List.length_map] at hnA hnB
    refine ⟨s, d', x, y, m, A, B, cA, cB, a, b, by simp, bounds_u32 (e3 0 .u32 s rfl rfl), ?_, ⟨hnA, hmA⟩, ⟨hnB, hmB⟩, ?_, ?_⟩
    ·exact bounds_u32 w3
    ·rw [List.flatMap_def]; exact hrA
    ·rw [List.flatMap_def]; exact hrB
end
end
end Go.Proofs.YtibeihcpehikoaaGreat
