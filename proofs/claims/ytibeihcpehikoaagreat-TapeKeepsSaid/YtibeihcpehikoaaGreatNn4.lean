/-
  The walks beneath: TapF, TapT.
-/
import Derived.Test.YtibeihcpehikoaaGreatNm4
namespace Go.Proofs.YtibeihcpehikoaaGreat
open Go.RowKit
set_option maxRecDepth 100000
set_option maxHeartbeats 8000000
set_option linter.unusedSimpArgs false
section
theorem badB_take_succ (l : List Nat) (k : Nat) (h : k < l.length) : badB (l.take (k + 1)) = (badB (l.take k) || decide (63 < l[k])) := by
 unfold badB
 rw [List.take_succ_eq_append_getElem h, List.any_append]
 simp
theorem badB_mem {l : List Nat} {k : Nat} (h : k < l.length) (hx : 63 < l[k]) : badB l = true := by
 unfold badB
 rw [List.any_eq_true]
 exact ⟨l[k], List.getElem_mem h, decide_eq_true hx⟩
theorem rfits20 (s d x y : Int) (A B : Option Addr) (c c' : Nat) (a b : List Nat) (w : World) (ha : a.length ≤ 20000) (hb : b.length ≤ 20000) (ra : Rd w w.heap.size A (a.flatMap btC)) (rb : Rd w w.heap.size B (b.flatMap btC)) :
  Calls Tryz.prog 19 #[.agg #[.int .u32 s, .int .i64 d, .int .i64 x, .int .i64 y], .slice A a.length c, .slice B b.length c'] w fun e w' => e = .returned (.int .i64 (ofE d a b)) ∧ Below w.heap.size w w' := by
 have HRA := zz ra
 have HRB := zz rb
 obtain ⟨na, hna⟩ : ∃ na, a.length = na := ⟨_, rfl⟩
 obtain ⟨nb, hnb⟩ : ∃ nb, b.length = nb := ⟨_, rfl⟩
 have HNA := zz hna
 have HNB := zz hnb
 obtain ⟨E, hE⟩ : ∃ E : Int, ofE d a b = E := ⟨_, rfl⟩
 have HE := zz hE
 rw [hna] at ha ⊢
 rw [hnb] at hb ⊢
 rw [hE]
 clear ra rb hna hnb hE
 by_cases h1 : d < 0
 ·have HE1 : Hid (E = 1) := zz (by rw [← HE.out]; unfold ofE; rw [if_pos]; unfold ofB; simp [h1])
  go_enter Tryz.func19, Tryz.ntmps19
  go_wp2
  go_ret
  exact ⟨by rw [HE1.out]; rfl, (by repeat (first | exact Below.refl _ _ | (with_reducible assumption) | apply bAlloc | apply below_drewN | apply Below.drew))⟩
 by_cases h2 : 8 < d
 ·have HE1 : Hid (E = 1) := zz (by rw [← HE.out]; unfold ofE; rw [if_pos]; unfold ofB; simp [h2])
  have g1 : decide (d < 0) = false := decide_eq_false h1
  go_enter Tryz.func19, Tryz.ntmps19
  go_wp2
  go_ret
  exact ⟨by rw [HE1.out]; rfl, (by repeat (first | exact Below.refl _ _ | (with_reducible assumption) | apply bAlloc | apply below_drewN | apply Below.drew))⟩
 have hd : 0 ≤ d ∧ d ≤ 8 := by omega
 have g1 : decide (d < 0) = false := decide_eq_false h1
 have g2 : decide (8 < d) = false := decide_eq_false h2
 have HOB : Hid (ofB d a b = (badB a || badB b)) := zz (by unfold ofB; rw [g1, g2]; simp)
 obtain ⟨hd1, hd2⟩ := hd
 clear h1 h2
 go_enter Tryz.func19, Tryz.ntmps19
 go_upto_region 1 with fail
 refine named1 (F := fun W => Code.wp _ _ _ _ W) ?_
 intro w1 k0 hb1 hz1
 have r0a := (k0).cell 0; have r0b := (k0).cell 1; have r0c := (k0).cell 2; have r0d := (k0).cell 3; have r0e := (k0).frozen 0; have r0f := (k0).frozen 1; have r0g := (k0).frozen 2; have r0h := (k0).frozen 3; have r0l := (k0).lt; simp only [zA, zB, zC] at r0a r0b r0c r0d
 have K0 := zz k0
 have HB1 := zz hb1
 clear k0 hb1 hz1
 go_wp2
 go_loop [7] (fun i => ∃ k : Nat, k ≤ na + nb ∧ i = .int .i64 k ∧ Hid (badB (a.take k) = false ∧ badB (b.take k) = false)) (fun i => na + nb - (intOf i).toNat)
 case atStart => exact ⟨0, Nat.zero_le _, rfl, zz ⟨rfl, rfl⟩⟩
 case round =>
  obtain ⟨k, hk, rfl, HBD⟩ := hrel
  by_cases h3 : k < na
  ·have h3a : k < a.length := by rw [HNA.out]; exact h3
   obtain ⟨ga, oa, rfl, hga, ca⟩ := HRA.out.at_ btC_length (by omega) h3a
   replace ca := ca 0 _ rfl
   rw [Nat.add_zero, Nat.mul_one] at ca
   have ca1 := (HB1.out.cell (p := ⟨ga, oa + k, none⟩) hga).trans ca
   have HSA := zz (badB_take_succ a k h3a)
   have HMA := zz (fun h => badB_mem (l := a) (k := k) h3a h)
   have hla : ga < w1.heap.size := Nat.lt_of_lt_of_le hga HB1.out.size
   obtain ⟨xa, hxa⟩ : ∃ xa, a[k] = xa := ⟨_, rfl⟩
   rw [hxa] at ca1 HSA HMA
   clear hxa ca h3a
   by_cases h5 : 63 < xa
   ·have HE1 : Hid (E = 1) := zz (by rw [← HE.out]; unfold ofE; rw [HOB.out, HMA.out h5]; rfl)
    have g5 : decide ((63 : Int) < (xa : Int)) = true := decide_eq_true (by omega)
    go_wp2
    go_ret
    exact ⟨by rw [HE1.out]; rfl, HB1.out⟩
   ·have g5 : decide ((63 : Int) < (xa : Int)) = false := decide_eq_false (by omega)
    have HA2 : Hid (badB (a.take (k + 1)) = false) := zz (by rw [HSA.out, HBD.out.1, decide_eq_false h5]; rfl)
    by_cases h4 : k < nb
    ·have h4b : k < b.length := by rw [HNB.out]; exact h4
     obtain ⟨gb, ob, rfl, hgb, cb⟩ := HRB.out.at_ btC_length (by omega) h4b
     replace cb := cb 0 _ rfl
     rw [Nat.add_zero, Nat.mul_one] at cb
     have cb1 := (HB1.out.cell (p := ⟨gb, ob + k, none⟩) hgb).trans cb
     have HSB := zz (badB_take_succ b k h4b)
     have HMB := zz (fun h => badB_mem (l := b) (k := k) h4b h)
     have hlb : gb < w1.heap.size := Nat.lt_of_lt_of_le hgb HB1.out.size
     obtain ⟨xb, hxb⟩ : ∃ xb, b[k] = xb := ⟨_, rfl⟩
     rw [hxb] at cb1 HSB HMB
     clear hxb cb h4b
     by_cases h6 : 63 < xb
     ·have HE1 : Hid (E = 1) := zz (by rw [← HE.out]; unfold ofE; rw [HOB.out, HMB.out h6, Bool.or_true]; rfl)
      have g6 : decide ((63 : Int) < (xb : Int)) = true := decide_eq_true (by omega)
      go_wp2
      go_ret
      exact ⟨by rw [HE1.out]; rfl, HB1.out⟩
     ·have g6 : decide ((63 : Int) < (xb : Int)) = false := decide_eq_false (by omega)
      have HB2 : Hid (badB (b.take (k + 1)) = false) := zz (by rw [HSB.out, HBD.out.2, decide_eq_false h6]; rfl)
      clear HE HOB
      go_wp2
      go_round
      case rel => exact ⟨k + 1, by omega, by go_num, zz ⟨HA2.out, HB2.out⟩⟩
      case measure => simp [intOf]; omega
    ·have HB2 : Hid (badB (b.take (k + 1)) = false) := zz (by
      rw [List.take_of_length_le (by rw [HNB.out]; omega)]
      have := HBD.out.2
      rwa [List.take_of_length_le (by rw [HNB.out]; omega)] at this)
     have g4 : decide ((k : Int) < (nb : Int)) = false := decide_eq_false (by omega)
     clear HE HOB
     go_wp2
     go_round
     case rel => exact ⟨k + 1, by omega, by go_num, zz ⟨HA2.out, HB2.out⟩⟩
     case measure => simp [intOf]; omega
  ·have g3 : decide ((k : Int) < (na : Int)) = false := decide_eq_false (by omega)
   have HA0 : Hid (badB a = false) := zz (by
    have := HBD.out.1
    rwa [List.take_of_length_le (by rw [HNA.out]; omega)] at this)
   have HA2 : Hid (badB (a.take (k + 1)) = false) := zz (by
    rw [List.take_of_length_le (by rw [HNA.out]; omega)]; exact HA0.out)
   by_cases h4 : k < nb
   ·have h4b : k < b.length := by rw [HNB.out]; exact h4
    obtain ⟨gb, ob, rfl, hgb, cb⟩ := HRB.out.at_ btC_length (by omega) h4b
    replace cb := cb 0 _ rfl
    rw [Nat.add_zero, Nat.mul_one] at cb
    have cb1 := (HB1.out.cell (p := ⟨gb, ob + k, none⟩) hgb).trans cb
    have HSB := zz (badB_take_succ b k h4b)
    have HMB := zz (fun h => badB_mem (l := b) (k := k) h4b h)
    have hlb : gb < w1.heap.size := Nat.lt_of_lt_of_le hgb HB1.out.size
    obtain ⟨xb, hxb⟩ : ∃ xb, b[k] = xb := ⟨_, rfl⟩
    rw [hxb] at cb1 HSB HMB
    clear hxb cb h4b
    by_cases h6 : 63 < xb
    ·have HE1 : Hid (E = 1) := zz (by rw [← HE.out]; unfold ofE; rw [HOB.out, HMB.out h6, Bool.or_true]; rfl)
     have g6 : decide ((63 : Int) < (xb : Int)) = true := decide_eq_true (by omega)
     go_wp2
     go_ret
     exact ⟨by rw [HE1.out]; rfl, HB1.out⟩
    ·have g6 : decide ((63 : Int) < (xb : Int)) = false := decide_eq_false (by omega)
     have HB2 : Hid (badB (b.take (k + 1)) = false) := zz (by rw [HSB.out, HBD.out.2, decide_eq_false h6]; rfl)
     clear HE HOB
     go_wp2
     go_round
     case rel => exact ⟨k + 1, by omega, by go_num, zz ⟨HA2.out, HB2.out⟩⟩
     case measure => simp [intOf]; omega
   ·have g4 : decide ((k : Int) < (nb : Int)) = false := decide_eq_false (by omega)
    have h7 := HBD.out.2
    rw [List.take_of_length_le (by rw [HNB.out]; omega)] at h7
    cases hll : lenB d a b
    ·have HE0 : Hid (E = 0) := zz (by
      rw [← HE.out]; unfold ofE; rw [HOB.out, HA0.out, h7, hll]; rfl)
     unfold lenB at hll
     rw [HNA.out, HNB.out] at hll
     have hll2 := of_decide_eq_false hll
     have hmi : d + min (na : Int) (nb : Int) ≤ 20000 := by omega
     have g7 : decide (20000 < d + min (na : Int) (nb : Int)) = false := decide_eq_false (by omega)
     clear HE HOB hll hll2 h7
     go_wp2
     all_goals
      go_ret
      exact ⟨by rw [HE0.out]; rfl, HB1.out⟩
    ·have HE0 : Hid (E = 5) := zz (by
      rw [← HE.out]; unfold ofE; rw [HOB.out, HA0.out, h7, hll]; rfl)
     unfold lenB at hll
     rw [HNA.out, HNB.out] at hll
     have hll2 := of_decide_eq_true hll
     have hmi : 20000 < d + min (na : Int) (nb : Int) := by omega
     have g7 : decide (20000 < d + min (na : Int) (nb : Int)) = true := decide_eq_true (by omega)
     clear HE HOB hll hll2 h7
     go_wp2
     all_goals
      go_ret
      exact ⟨by rw [HE0.out]; rfl, HB1.out⟩
theorem ofE_few {d : Int} {a b : List Nat} (ha : a.length ≤ 1000) : ofE d a b = if ofB d a b = true then 1 else 0 := by
 unfold ofE
 cases h : ofB d a b
 ·rw [ofB_few ha h]; rfl
 ·rfl
theorem rfits_any (s d x y : Int) (A B : Option Addr) (c c' : Nat) (a b : List Nat) (w : World) (ha : a.length ≤ 1000) (hb : b.length ≤ 1000) (ra : Rd w w.heap.size A (a.flatMap btC)) (rb : Rd w w.heap.size B (b.flatMap btC)) :
  Calls Tryz.prog 19 #[.agg #[.int .u32 s, .int .i64 d, .int .i64 x, .int .i64 y], .slice A a.length c, .slice B b.length c'] w fun e w' => e = .returned (.int .i64 (if ofB d a b = true then 1 else 0)) ∧ Below w.heap.size w w' := by
 rw [← ofE_few (b := b) ha]
 exact rfits20 s d x y A B c c' a b w (by omega) (by omega) ra rb
end
section
theorem built_tape0 : Tryz.prog.built 76 [] = some #[.int .u32 0, .int .i64 0, .int .i64 0, .int .i64 0, .slice none 0 0, .slice none 0 0, .int .u32 0] := by kernel_rfl
theorem record_bad1 (s d x y : Int) (A B : Option Addr) (c c' : Nat) (a b : List Nat) (w : World) (hof : ofB d a b = true) (ha : a.length ≤ 1000) (hb : b.length ≤ 1000) (ra : Rd w w.heap.size A (a.flatMap btC)) (rb : Rd w w.heap.size B (b.flatMap btC)) :
  Calls Tryz.prog 30 #[.agg #[.int .u32 s, .int .i64 d, .int .i64 x, .int .i64 y], .slice A a.length c, .slice B b.length c'] w fun e w' => e = .returned (.tuple #[.agg #[.int .u32 0, .int .i64 0, .int .i64 0, .int .i64 0, .slice none 0 0, .slice none 0 0, .int .u32 0], .int .i64 1]) ∧ Below w.heap.size w w' := by
 have HPG := zz (fun (V : World) (hV : Below w.heap.size w V) => pages_bad s d x y A B c c' a b V hof ha hb ((ra.below hV (zL _)).more hV.size) ((rb.below hV (zL _)).more hV.size))
 clear ra rb hof
 go_enter Tryz.func30, Tryz.ntmps30
 go_upto_region 1 with fail
 refine named2 (F := fun W => Code.wp _ _ _ _ W) ?_
 intro w1 k0 k6 hb1 hz1
 have r0a := (k0).cell 0; have r0b := (k0).cell 1; have r0c := (k0).cell 2; have r0d := (k0).cell 3; have r0e := (k0).frozen 0; have r0f := (k0).frozen 1; have r0g := (k0).frozen 2; have r0h := (k0).frozen 3; have r0l := (k0).lt; simp only [zA, zB, zC] at r0a r0b r0c r0d
 have K6 := zz k6
 clear hz1 k0 k6
 go_upto_region 2 with (first
  | (go_at_call 16; refine (HPG.out _ hb1).mono ?_; rintro e w3 ⟨rfl, hb3⟩; have HB3 := zz (bTrans hb1 hb3); have K63 := zz (K6.out.on hb3); clear hb3))
 clear r0a r0b r0c r0d r0e r0f r0g r0h r0l hb1 K6 HPG
 obtain ⟨C, hC⟩ : ∃ C : Array Value, #[.int .u32 0, .int .i64 0, .int .i64 0, .int .i64 0, .slice none 0 0, .slice none 0 0, .int .u32 0] = C := ⟨_, rfl⟩
 have hbt := built_tape0
 rw [hC] at hbt
 have HBT := zz hbt
 have HCC := zz hC
 have hsz : C.size = 7 := by rw [← hC]; rfl
 have H1C : Hid (C.all (·.oneCell') = true) := zz (by rw [← hC]; simp [Value.oneCell'])
 have HSZ : Hid ((Tryz.prog.info? 76).map (·.size) = some C.size) := zz (by rw [hsz]; kernel_rfl)
 have hcl : C.toList.length = C.size := by simp
 have HTH : Hid (w3.there (w.heap.size + 1) 0 C.size) := zz (by rw [hsz]; exact Blk.there K63.out (by show 0 + 7 ≤ 7; decide))
 have hrg := World.rangeAt_setCells_same w3 (w.heap.size + 1) 0 C.toList (by rw [hcl]; exact HTH.out)
 have HRES := zz (run_loadVar_mid (P := Tryz.prog) _ _ _ 76 C.toList _ hrg Tryz.underlying76 rfl (by rw [hcl]; exact HSZ.out))
 have HBX := zz (bSetCells HB3.out (show w.heap.size ≤ w.heap.size + 1 by omega) 0 C.toList)
 obtain ⟨wx, hwx⟩ : ∃ wx, w3.setCells (w.heap.size + 1) 0 C.toList = wx := ⟨_, rfl⟩
 rw [hwx] at HRES HBX
 have HWX := zz hwx
 clear hsz hcl hrg hwx hC hbt
 go_wp2_with (first
  | (refine wpList_built rfl 76 [] rfl C [] rfl HBT.out ?_)
  | (refine wpList_store_mid rfl 76 (.tmp 6) (.tmp 22) rfl (w.heap.size + 1) 0 C rfl rfl HTH.out HSZ.out H1C.out ?_; rw [HWX.out]))
 have hres := HRES.out
 rw [zJ] at hres
 exact bodyPost_ret (results_c1 (a := 6) (t := 76) (x := 7) rfl rfl hres) rfl ⟨by rw [HCC.out]; rfl, HBX.out⟩
theorem record_bad2 (s d x y : Int) (A B : Option Addr) (c c' : Nat) (a b : List Nat) (w : World) (hs : U32 s) (hof : ofB d a b = false) (hx : ¬ (1 ≤ x ∧ x ≤ 16)) (ha : a.length ≤ 1000) (hb : b.length ≤ 1000) (ra : Rd w w.heap.size A (a.flatMap btC)) (rb : Rd w w.heap.size B (b.flatMap btC)) :
  Calls Tryz.prog 30 #[.agg #[.int .u32 s, .int .i64 d, .int .i64 x, .int .i64 y], .slice A a.length c, .slice B b.length c'] w fun e w' => e = .returned (.tuple #[.agg #[.int .u32 0, .int .i64 0, .int .i64 0, .int .i64 0, .slice none 0 0, .slice none 0 0, .int .u32 0], .int .i64 1]) ∧ Below w.heap.size w w' := by
 have hd := (ofB_of hof).1
 have HPG := zz (fun (V : World) (hV : Below w.heap.size w V) => pages_good s d x y A B c c' a b (d.toNat + min a.length b.length) V hs hof (by omega) ha hb ((ra.below hV (zL _)).more hV.size) ((rb.below hV (zL _)).more hV.size))
 have HWI := zz (fun (V : World) => window_any s d x y V)
 rw [decide_eq_false hx] at HWI
 clear ra rb hof hx
 go_enter Tryz.func30, Tryz.ntmps30
 go_upto_region 1 with fail
 refine named2 (F := fun W => Code.wp _ _ _ _ W) ?_
 intro w1 k0 k6 hb1 hz1
 have r0a := (k0).cell 0; have r0b := (k0).cell 1; have r0c := (k0).cell 2; have r0d := (k0).cell 3; have r0e := (k0).frozen 0; have r0f := (k0).frozen 1; have r0g := (k0).frozen 2; have r0h := (k0).frozen 3; have r0l := (k0).lt; simp only [zA, zB, zC] at r0a r0b r0c r0d
 have K0 := zz k0
 have K6 := zz k6
 clear hz1 k0 k6
 go_upto_region 4 with (first
  | (go_at_call 16; refine (HPG.out _ hb1).mono ?_; rintro e w3 ⟨A', cp, xs, rfl, -, -, -, hb3⟩; have HB3 := zz (bTrans hb1 hb3); have K3 := zz (K0.out.on hb3); have K63 := zz (K6.out.on hb3); clear hb3))
 clear r0a r0b r0c r0d r0e r0f r0g r0h r0l hb1 K0 K6 HPG
 have s0a := (K3.out).cell 0; have s0b := (K3.out).cell 1; have s0c := (K3.out).cell 2; have s0d := (K3.out).cell 3; have s0e := (K3.out).frozen 0; have s0f := (K3.out).frozen 1; have s0g := (K3.out).frozen 2; have s0h := (K3.out).frozen 3; have s0l := (K3.out).lt; simp only [zA, zB, zC] at s0a s0b s0c s0d
 go_upto_region 5 with (first
  | (go_at_call 83; refine (HWI.out _).mono ?_; rintro e w4 ⟨rfl, hb4⟩; have HB4 := zz (bTrans HB3.out hb4); have K64 := zz (K63.out.on hb4); clear hb4))
 clear s0a s0b s0c s0d s0e s0f s0g s0h s0l HB3 K3 K63
 obtain ⟨C, hC⟩ : ∃ C : Array Value, #[.int .u32 0, .int .i64 0, .int .i64 0, .int .i64 0, .slice none 0 0, .slice none 0 0, .int .u32 0] = C := ⟨_, rfl⟩
 have hbt := built_tape0
 rw [hC] at hbt
 have HBT := zz hbt
 have HCC := zz hC
 have hsz : C.size = 7 := by rw [← hC]; rfl
 have H1C : Hid (C.all (·.oneCell') = true) := zz (by rw [← hC]; simp [Value.oneCell'])
 have HSZ : Hid ((Tryz.prog.info? 76).map (·.size) = some C.size) := zz (by rw [hsz]; kernel_rfl)
 have hcl : C.toList.length = C.size := by simp
 have HTH : Hid (w4.there (w.heap.size + 1) 0 C.size) := zz (by rw [hsz]; exact Blk.there K64.out (by show 0 + 7 ≤ 7; decide))
 have hrg := World.rangeAt_setCells_same w4 (w.heap.size + 1) 0 C.toList (by rw [hcl]; exact HTH.out)
 have HRES := zz (run_loadVar_mid (P := Tryz.prog) _ _ _ 76 C.toList _ hrg Tryz.underlying76 rfl (by rw [hcl]; exact HSZ.out))
 have HBX := zz (bSetCells HB4.out (show w.heap.size ≤ w.heap.size + 1 by omega) 0 C.toList)
 obtain ⟨wx, hwx⟩ : ∃ wx, w4.setCells (w.heap.size + 1) 0 C.toList = wx := ⟨_, rfl⟩
 rw [hwx] at HRES HBX
 have HWX := zz hwx
 clear hsz hcl hrg hwx hC hbt
 go_wp2_with (first
  | (refine wpList_built rfl 76 [] rfl C [] rfl HBT.out ?_)
  | (refine wpList_store_mid rfl 76 (.tmp 6) (.tmp 28) rfl (w.heap.size + 1) 0 C rfl rfl HTH.out HSZ.out H1C.out ?_; rw [HWX.out]))
 have hres := HRES.out
 rw [zJ] at hres
 exact bodyPost_ret (results_c1 (a := 6) (t := 76) (x := 7) rfl rfl hres) rfl ⟨by rw [HCC.out]; rfl, HBX.out⟩
theorem ofB_take {d : Int} {a b : List Nat} (h : ofB d a b = false) (n m : Nat) : ofB d (a.take n) (b.take m) = false := by
 unfold ofB badB at *
 simp only [Bool.or_eq_false_iff, decide_eq_false_iff_not, List.any_eq_false, decide_eq_true_eq] at *
 obtain ⟨⟨⟨h1, h2⟩, h3⟩, h4⟩ := h
 exact ⟨⟨⟨h1, h2⟩, fun x hx => h3 x (List.mem_of_mem_take hx)⟩, fun x hx => h4 x (List.mem_of_mem_take hx)⟩
def recOk (d x : Int) (a b : List Nat) : Bool := !ofB d a b && decide (1 ≤ x ∧ x ≤ 16)
theorem record_no (s d x y : Int) (A B : Option Addr) (c c' : Nat) (a b : List Nat) (w : World) (hs : U32 s) (hof : recOk d x a b = false) (ha : a.length ≤ 1000) (hb : b.length ≤ 1000) (ra : Rd w w.heap.size A (a.flatMap btC)) (rb : Rd w w.heap.size B (b.flatMap btC)) :
  Calls Tryz.prog 30 #[.agg #[.int .u32 s, .int .i64 d, .int .i64 x, .int .i64 y], .slice A a.length c, .slice B b.length c'] w fun e w' => e = .returned (.tuple #[.agg #[.int .u32 0, .int .i64 0, .int .i64 0, .int .i64 0, .slice none 0 0, .slice none 0 0, .int .u32 0], .int .i64 1]) ∧ Below w.heap.size w w' := by
 cases ho : ofB d a b
 ·refine record_bad2 s d x y A B c c' a b w hs ho (fun hx => ?_) ha hb ra rb
  unfold recOk at hof
  rw [ho, decide_eq_true hx] at hof
  cases hof
 ·exact record_bad1 s d x y A B c c' a b w ho ha hb ra rb
end
end Go.Proofs.YtibeihcpehikoaaGreat
