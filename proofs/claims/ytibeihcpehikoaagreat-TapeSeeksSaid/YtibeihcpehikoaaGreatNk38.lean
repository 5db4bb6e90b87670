/-
  The truth's 'of' and 'frames'.
-/
import Derived.Shelf.Abstract
import Derived.Shelf.RegionOpen
import Derived.Deep.Cut
import Derived.Test.YtibeihcpehikoaaGreatNk37
namespace Go.Proofs.YtibeihcpehikoaaGreat
open Go.RowKit
set_option maxRecDepth 100000
set_option maxHeartbeats 4000000
set_option linter.unusedSimpArgs false
section
def ofB (d : Int) (a b : List Nat) : Bool := decide (d < 0) || decide (8 < d) || badB a || badB b
def lenB (d : Int) (a b : List Nat) : Bool := decide (20000 < d + (min a.length b.length : Nat))
theorem of_good20 (s d x y : Int) (A B : Option Addr) (c c' : Nat) (a b : List Nat) (w : World) (ha : a.length ≤ 20000) (hb : b.length ≤ 20000) (hl : lenB d a b = false) (ra : Rd w w.heap.size A (a.flatMap btC)) (rb : Rd w w.heap.size B (b.flatMap btC)) (hok : ofB d a b = false) :
  Calls Tryz.prog 68 #[.agg #[.int .u32 s, .int .i64 d, .int .i64 x, .int .i64 y], .slice A a.length c, .slice B b.length c'] w fun e w' => e = .returned (.tuple #[.agg #[.int .u32 s, .int .i64 d, .slice A a.length c, .slice B b.length c'], .int .i64 0]) ∧ Below w.heap.size w w' := by
 unfold ofB at hok
 have hgt : decide (20000 < d + (min a.length b.length : Nat)) = false := hl
 have hgi : d + (min a.length b.length : Nat) ≤ 20000 := by simpa using hgt
 simp only [Bool.or_eq_false_iff, decide_eq_false_iff_not] at hok
 obtain ⟨⟨⟨h1, h2⟩, h3⟩, h4⟩ := hok
 have hd : 0 ≤ d ∧ d ≤ 8 := by omega
 have HA := zz (fun (V : World) (hV : Below w.heap.size w V) => tCF_any A c a V (by omega) ((ra.below hV (zL _)).more hV.size))
 have HB := zz (fun (V : World) (hV : Below w.heap.size w V) => tCF_any B c' b V (by omega) ((rb.below hV (zL _)).more hV.size))
 rw [h3] at HA
 rw [h4] at HB
 have HK := zz (fun (V : World) => known_any s d A B a.length c b.length c' V hd (by omega) (by omega))
 clear ra rb h3 h4
 go_enter Tryz.func68, Tryz.ntmps68
 go_upto_region 2 with fail
 refine named3 (F := fun W => Code.wp _ _ _ _ W) ?_
 intro w1 k0 k1 k2 hb1 hz1
 have r0a := (k0).cell 0; have r0b := (k0).cell 1; have r0c := (k0).cell 2; have r0d := (k0).cell 3; have r0e := (k0).frozen 0; have r0f := (k0).frozen 1; have r0g := (k0).frozen 2; have r0h := (k0).frozen 3; have r0l := (k0).lt; simp only [zA, zB, zC] at r0a r0b r0c r0d
 have r2a := (k2).cell 0; have r2b := (k2).cell 1; have r2c := (k2).cell 2; have r2d := (k2).cell 3; have r2e := (k2).frozen 0; have r2f := (k2).frozen 1; have r2g := (k2).frozen 2; have r2h := (k2).frozen 3; have r2l := (k2).lt; simp only [zA, zB, zC] at r2a r2b r2c r2d
 have K1 := zz k1
 have K2 := zz k2
 clear k0 k1 k2
 go_wp2_with (first
  | (go_at_call 142; first | ((with_reducible refine (HA.out _ ?_).mono ?_); (case' refine_1 => exact (by repeat (first | exact Below.refl _ _ | (with_reducible assumption) | apply bAlloc | apply below_drewN | apply Below.drew))); rintro e w2 ⟨rfl, rfl⟩) | ((with_reducible refine (HB.out _ ?_).mono ?_); (case' refine_1 => exact (by repeat (first | exact Below.refl _ _ | (with_reducible assumption) | apply bAlloc | apply below_drewN | apply Below.drew))); rintro e w2 ⟨rfl, rfl⟩))
  | (go_at_call 70; refine (HK.out _).mono ?_; rintro e w3 ⟨rfl, hb3⟩; have q1 := K1.out.on hb3; have q2 := K2.out.on hb3; have c1a := (q1).cell 0; have c1b := (q1).cell 1; have c1c := (q1).cell 2; have c1d := (q1).cell 3; have c1e := (q1).frozen 0; have c1f := (q1).frozen 1; have c1g := (q1).frozen 2; have c1h := (q1).frozen 3; have c1l := (q1).lt; simp only [zA, zB, zC] at c1a c1b c1c c1d; have c2a := (q2).cell 0; have c2b := (q2).cell 1; have c2c := (q2).cell 2; have c2d := (q2).cell 3; have c2e := (q2).frozen 0; have c2f := (q2).frozen 1; have c2g := (q2).frozen 2; have c2h := (q2).frozen 3; have c2l := (q2).lt; simp only [zA, zB, zC] at c2a c2b c2c c2d))
 have q3 := ((((q1.set 0 (.int .u32 s)).set 1 (.int .i64 d)).set 2 (.slice A a.length c)).set 3 (.slice B b.length c'))
 have g0 := q3.cell 0
 have g1 := q3.cell 1
 have g2 := q3.cell 2
 have g3 := q3.cell 3
 simp only [Array.getElem?_setIfInBounds, zM, zH, zI] at g0 g1 g2 g3
 refine bodyPost_ret (v := .tuple #[.agg #[.int .u32 s, .int .i64 d, .slice A a.length c, .slice B b.length c'], .int .i64 0]) (by simp [results, Tryz.results68, go_sem, g0, g1, g2, g3]) rfl ⟨rfl, ?_⟩
 exact bSetG (bSetG (bSetG (bSetG (bTrans hb1 hb3) (by omega) _ _) (by omega) _ _) (by omega) _ _) (by omega) _ _
theorem len_few {d : Int} {a b : List Nat} (ha : a.length ≤ 1000) (hd : d ≤ 8) : lenB d a b = false := decide_eq_false (by omega)
theorem ofB_few {d : Int} {a b : List Nat} (ha : a.length ≤ 1000) (hok : ofB d a b = false) : lenB d a b = false := by
 unfold ofB at hok
 simp only [Bool.or_eq_false_iff, decide_eq_false_iff_not] at hok
 exact len_few ha (by omega)
theorem of_good (s d x y : Int) (A B : Option Addr) (c c' : Nat) (a b : List Nat) (w : World) (ha : a.length ≤ 1000) (hb : b.length ≤ 1000) (ra : Rd w w.heap.size A (a.flatMap btC)) (rb : Rd w w.heap.size B (b.flatMap btC)) (hok : ofB d a b = false) :
  Calls Tryz.prog 68 #[.agg #[.int .u32 s, .int .i64 d, .int .i64 x, .int .i64 y], .slice A a.length c, .slice B b.length c'] w fun e w' => e = .returned (.tuple #[.agg #[.int .u32 s, .int .i64 d, .slice A a.length c, .slice B b.length c'], .int .i64 0]) ∧ Below w.heap.size w w' :=
 of_good20 s d x y A B c c' a b w (by omega) (by omega) (ofB_few ha hok) ra rb hok
theorem of_long (s d x y : Int) (A B : Option Addr) (c c' : Nat) (a b : List Nat) (w : World) (ha : a.length ≤ 20000) (hb : b.length ≤ 20000) (hl : lenB d a b = true) (ra : Rd w w.heap.size A (a.flatMap btC)) (rb : Rd w w.heap.size B (b.flatMap btC)) (hok : ofB d a b = false) :
  Calls Tryz.prog 68 #[.agg #[.int .u32 s, .int .i64 d, .int .i64 x, .int .i64 y], .slice A a.length c, .slice B b.length c'] w fun e w' => e = .returned (.tuple #[.agg #[.int .u32 0, .int .i64 0, .slice none 0 0, .slice none 0 0], .int .i64 5]) ∧ Below w.heap.size w w' := by
 unfold ofB at hok
 have hgt : decide (20000 < d + (min a.length b.length : Nat)) = true := hl
 have hgi : 20000 < d + (min a.length b.length : Nat) := by simpa using hgt
 simp only [Bool.or_eq_false_iff, decide_eq_false_iff_not] at hok
 obtain ⟨⟨⟨h1, h2⟩, h3⟩, h4⟩ := hok
 have hd : 0 ≤ d ∧ d ≤ 8 := by omega
 have HA := zz (fun (V : World) (hV : Below w.heap.size w V) => tCF_any A c a V (by omega) ((ra.below hV (zL _)).more hV.size))
 have HB := zz (fun (V : World) (hV : Below w.heap.size w V) => tCF_any B c' b V (by omega) ((rb.below hV (zL _)).more hV.size))
 rw [h3] at HA
 rw [h4] at HB
 have HK := zz (fun (V : World) => known_any s d A B a.length c b.length c' V hd (by omega) (by omega))
 clear ra rb h3 h4
 go_enter Tryz.func68, Tryz.ntmps68
 go_upto_region 2 with fail
 refine named3 (F := fun W => Code.wp _ _ _ _ W) ?_
 intro w1 k0 k1 k2 hb1 hz1
 have r0a := (k0).cell 0; have r0b := (k0).cell 1; have r0c := (k0).cell 2; have r0d := (k0).cell 3; have r0e := (k0).frozen 0; have r0f := (k0).frozen 1; have r0g := (k0).frozen 2; have r0h := (k0).frozen 3; have r0l := (k0).lt; simp only [zA, zB, zC] at r0a r0b r0c r0d
 have r2a := (k2).cell 0; have r2b := (k2).cell 1; have r2c := (k2).cell 2; have r2d := (k2).cell 3; have r2e := (k2).frozen 0; have r2f := (k2).frozen 1; have r2g := (k2).frozen 2; have r2h := (k2).frozen 3; have r2l := (k2).lt; simp only [zA, zB, zC] at r2a r2b r2c r2d
 have K1 := zz k1
 have K2 := zz k2
 clear k0 k1 k2
 go_wp2_with (first
  | (go_at_call 142; first | ((with_reducible refine (HA.out _ ?_).mono ?_); (case' refine_1 => exact (by repeat (first | exact Below.refl _ _ | (with_reducible assumption) | apply bAlloc | apply below_drewN | apply Below.drew))); rintro e w2 ⟨rfl, rfl⟩) | ((with_reducible refine (HB.out _ ?_).mono ?_); (case' refine_1 => exact (by repeat (first | exact Below.refl _ _ | (with_reducible assumption) | apply bAlloc | apply below_drewN | apply Below.drew))); rintro e w2 ⟨rfl, rfl⟩))
  | (go_at_call 70; refine (HK.out _).mono ?_; rintro e w3 ⟨rfl, hb3⟩; have q1 := K1.out.on hb3; have q2 := K2.out.on hb3; have c1a := (q1).cell 0; have c1b := (q1).cell 1; have c1c := (q1).cell 2; have c1d := (q1).cell 3; have c1e := (q1).frozen 0; have c1f := (q1).frozen 1; have c1g := (q1).frozen 2; have c1h := (q1).frozen 3; have c1l := (q1).lt; simp only [zA, zB, zC] at c1a c1b c1c c1d; have c2a := (q2).cell 0; have c2b := (q2).cell 1; have c2c := (q2).cell 2; have c2d := (q2).cell 3; have c2e := (q2).frozen 0; have c2f := (q2).frozen 1; have c2g := (q2).frozen 2; have c2h := (q2).frozen 3; have c2l := (q2).lt; simp only [zA, zB, zC] at c2a c2b c2c c2d))
 have q3 := ((((q1.set 0 (.int .u32 0)).set 1 (.int .i64 0)).set 2 (.slice none 0 0)).set 3 (.slice none 0 0))
 have g0 := q3.cell 0
 have g1 := q3.cell 1
 have g2 := q3.cell 2
 have g3 := q3.cell 3
 simp only [Array.getElem?_setIfInBounds, zM, zH, zI] at g0 g1 g2 g3
 refine bodyPost_ret (v := .tuple #[.agg #[.int .u32 0, .int .i64 0, .slice none 0 0, .slice none 0 0], .int .i64 5]) (by simp [results, Tryz.results68, go_sem, g0, g1, g2, g3]) rfl ⟨rfl, ?_⟩
 exact bSetG (bSetG (bSetG (bSetG (bTrans hb1 hb3) (by omega) _ _) (by omega) _ _) (by omega) _ _) (by omega) _ _
theorem of_bad20 (s d x y : Int) (A B : Option Addr) (c c' : Nat) (a b : List Nat) (w : World) (ha : a.length ≤ 20000) (hb : b.length ≤ 20000) (ra : Rd w w.heap.size A (a.flatMap btC)) (rb : Rd w w.heap.size B (b.flatMap btC)) (hok : ofB d a b = true) :
  Calls Tryz.prog 68 #[.agg #[.int .u32 s, .int .i64 d, .int .i64 x, .int .i64 y], .slice A a.length c, .slice B b.length c'] w fun e w' => e = .returned (.tuple #[.agg #[.int .u32 0, .int .i64 0, .slice none 0 0, .slice none 0 0], .int .i64 1]) ∧ Below w.heap.size w w' := by
 have HA := zz (fun (V : World) (hV : Below w.heap.size w V) => tCF_any A c a V (by omega) ((ra.below hV (zL _)).more hV.size))
 have HB := zz (fun (V : World) (hV : Below w.heap.size w V) => tCF_any B c' b V (by omega) ((rb.below hV (zL _)).more hV.size))
 have hcases : (d < 0) ∨ (8 < d) ∨ ((0 ≤ d ∧ d ≤ 8) ∧ badB a = true) ∨ ((0 ≤ d ∧ d ≤ 8) ∧ badB a = false ∧ badB b = true) := by
  unfold ofB at hok
  simp only [Bool.or_eq_true, decide_eq_true_eq] at hok
  by_cases h1 : d < 0
  ·exact .inl h1
  ·by_cases h2 : 8 < d
   ·exact .inr (.inl h2)
   ·cases h3 : badB a
    ·exact .inr (.inr (.inr ⟨by omega, rfl, by rcases hok with ((h | h) | h) | h; exact absurd h h1; exact absurd h h2; (rw [h3] at h; cases h); exact h⟩))
    ·exact .inr (.inr (.inl ⟨by omega, rfl⟩))
 clear ra rb hok
 rcases hcases with h | h | ⟨h, h3⟩ | ⟨h, h3, h4⟩
 all_goals
  try rw [h3] at HA
  try rw [h4] at HB
  try clear h3
  try clear h4
  go_enter Tryz.func68, Tryz.ntmps68
  go_upto_region 2 with fail
  refine named3 (F := fun W => Code.wp _ _ _ _ W) ?_
  intro w1 k0 k1 k2 hb1 hz1
  have r0a := (k0).cell 0; have r0b := (k0).cell 1; have r0c := (k0).cell 2; have r0d := (k0).cell 3; have r0e := (k0).frozen 0; have r0f := (k0).frozen 1; have r0g := (k0).frozen 2; have r0h := (k0).frozen 3; have r0l := (k0).lt; simp only [zA, zB, zC] at r0a r0b r0c r0d
  have r1a := (k1).cell 0; have r1b := (k1).cell 1; have r1c := (k1).cell 2; have r1d := (k1).cell 3; have r1e := (k1).frozen 0; have r1f := (k1).frozen 1; have r1g := (k1).frozen 2; have r1h := (k1).frozen 3; have r1l := (k1).lt; simp only [zA, zB, zC] at r1a r1b r1c r1d
  have K1 := zz k1
  clear k0 k1 k2
  go_wp2_with (first
   | (go_at_call 142; first | ((with_reducible refine (HA.out _ ?_).mono ?_); (case' refine_1 => exact (by repeat (first | exact Below.refl _ _ | (with_reducible assumption) | apply bAlloc | apply below_drewN | apply Below.drew))); rintro e w2 ⟨rfl, rfl⟩) | ((with_reducible refine (HB.out _ ?_).mono ?_); (case' refine_1 => exact (by repeat (first | exact Below.refl _ _ | (with_reducible assumption) | apply bAlloc | apply below_drewN | apply Below.drew))); rintro e w2 ⟨rfl, rfl⟩)))
  have q3 := ((((K1.out.set 0 (.int .u32 0)).set 1 (.int .i64 0)).set 2 (.slice none 0 0)).set 3 (.slice none 0 0))
  have g0 := q3.cell 0
  have g1 := q3.cell 1
  have g2 := q3.cell 2
  have g3 := q3.cell 3
  simp only [Array.getElem?_setIfInBounds, zM, zH, zI] at g0 g1 g2 g3
  refine bodyPost_ret (v := .tuple #[.agg #[.int .u32 0, .int .i64 0, .slice none 0 0, .slice none 0 0], .int .i64 1]) (by simp [results, Tryz.results68, go_sem, g0, g1, g2, g3]) rfl ⟨rfl, ?_⟩
  exact bSetG (bSetG (bSetG (bSetG hb1 (by omega) _ _) (by omega) _ _) (by omega) _ _) (by omega) _ _
theorem of_bad (s d x y : Int) (A B : Option Addr) (c c' : Nat) (a b : List Nat) (w : World) (ha : a.length ≤ 1000) (hb : b.length ≤ 1000) (ra : Rd w w.heap.size A (a.flatMap btC)) (rb : Rd w w.heap.size B (b.flatMap btC)) (hok : ofB d a b = true) :
  Calls Tryz.prog 68 #[.agg #[.int .u32 s, .int .i64 d, .int .i64 x, .int .i64 y], .slice A a.length c, .slice B b.length c'] w fun e w' => e = .returned (.tuple #[.agg #[.int .u32 0, .int .i64 0, .slice none 0 0, .slice none 0 0], .int .i64 1]) ∧ Below w.heap.size w w' :=
 of_bad20 s d x y A B c c' a b w (by omega) (by omega) ra rb hok
theorem frames_any (s d : Int) (A B : Option Addr) (n c m c' : Nat) (w : World) :
  Calls Tryz.prog 69 #[.agg #[.int .u32 s, .int .i64 d, .slice A n c, .slice B m c']] w fun e w' => e = .returned (.func (.func 143) #[] #[.pointer (some ⟨w.heap.size, 0, none⟩)]) ∧ Blk w' w.heap.size 133 #[.int .u32 s, .int .i64 d, .slice A n c, .slice B m c'] ∧ Below w.heap.size w w' := by
 go_enter Tryz.func69, Tryz.ntmps69
 go_wp2
 go_ret
 exact ⟨rfl, Blk.new _ _ _, (by repeat (first | exact Below.refl _ _ | (with_reducible assumption) | apply bAlloc | apply below_drewN | apply Below.drew))⟩
theorem input_none (s d f : Int) (A B : Option Addr) (n c m c' : Nat) (w : World) (hf : f < d) :
  Calls Tryz.prog 144 #[.agg #[.int .u32 s, .int .i64 d, .slice A n c, .slice B m c'], .int .i64 f] w fun e w' => e = .returned (.agg #[.int .u8 0, .int .u8 0]) ∧ Below w.heap.size w w' := by
 go_enter Tryz.func144, Tryz.ntmps144
 go_upto_region 1 with fail
 refine named2 (F := fun W => Code.wp _ _ _ _ W) ?_
 intro w1 k0 k1 hb1 hz1
 have r0a := (k0).cell 0; have r0b := (k0).cell 1; have r0c := (k0).cell 2; have r0d := (k0).cell 3; have r0e := (k0).frozen 0; have r0f := (k0).frozen 1; have r0g := (k0).frozen 2; have r0h := (k0).frozen 3; have r0l := (k0).lt; simp only [zA, zB, zC] at r0a r0b r0c r0d
 have f0 := k1.frozen 0
 have f1 := k1.frozen 1
 have e0 := k1.cell 0
 have e1 := k1.cell 1
 have el := k1.lt
 simp only [zA, zB, zC] at e0 e1
 have K1 := zz k1
 clear k0 k1
 go_wp2
 have q3 := (K1.out.set 0 (.int .u8 0)).set 1 (.int .u8 0)
 have g0 := q3.cell 0
 have g1 := q3.cell 1
 simp only [Array.getElem?_setIfInBounds, zM, zH, zI] at g0 g1
 refine bodyPost_ret (v := .agg #[.int .u8 0, .int .u8 0]) (by simp [results, Tryz.results144, go_sem, g0, g1]) rfl ⟨rfl, ?_⟩
 exact bSetG (bSetG hb1 (by omega) _ _) (by omega) _ _
theorem built_pbt (x y : Int) : Tryz.prog.built 118 [(0, .int .u8 x), (1, .int .u8 y)] = some #[.int .u8 x, .int .u8 y] := by kernel_rfl
theorem input_some (s d f : Int) (A B : Option Addr) (c c' : Nat) (a b : List Nat) (w : World) (hf : d ≤ f) (j : Nat) (hj : f - d = j) (h1 : j < a.length) (h2 : j < b.length) (ha : a.length ≤ 1000) (ra : Rd w w.heap.size A (a.flatMap btC)) (rb : Rd w w.heap.size B (b.flatMap btC)) :
  Calls Tryz.prog 144 #[.agg #[.int .u32 s, .int .i64 d, .slice A a.length c, .slice B b.length c'], .int .i64 f] w fun e w' => e = .returned (.agg #[.int .u8 (a.getD j 0 : Nat), .int .u8 (b.getD j 0 : Nat)]) ∧ Below w.heap.size w w' := by
 obtain ⟨ga, oa, rfl, hga, ca⟩ := ra.at_ btC_length (by omega) h1
 obtain ⟨gb, ob, rfl, hgb, cb⟩ := rb.at_ btC_length (by omega) h2
 replace ca := ca 0 _ rfl
 replace cb := cb 0 _ rfl
 rw [Nat.add_zero, Nat.mul_one] at ca cb
 have hfj : f = d + j := by omega
 subst hfj
 obtain ⟨x, hx⟩ : ∃ x, a.getD j 0 = x := ⟨_, rfl⟩
 obtain ⟨y, hy⟩ : ∃ y, b.getD j 0 = y := ⟨_, rfl⟩
 rw [show a[j] = x from by rw [← hx]; simp [List.getD_eq_getElem?_getD, h1]] at ca
 rw [show b[j] = y from by rw [← hy]; simp [List.getD_eq_getElem?_getD, h2]] at cb
 rw [hx, hy]
 clear ra rb hx hy
 go_enter Tryz.func144, Tryz.ntmps144
 go_upto_region 1 with fail
 refine named2 (F := fun W => Code.wp _ _ _ _ W) ?_
 intro w1 k0 k1 hb1 hz1
 have ca1 := (hb1.cell (p := ⟨ga, oa + j, none⟩) hga).trans ca
 have cb1 := (hb1.cell (p := ⟨gb, ob + j, none⟩) hgb).trans cb
 have r0a := (k0).cell 0; have r0b := (k0).cell 1; have r0c := (k0).cell 2; have r0d := (k0).cell 3; have r0e := (k0).frozen 0; have r0f := (k0).frozen 1; have r0g := (k0).frozen 2; have r0h := (k0).frozen 3; have r0l := (k0).lt; simp only [zA, zB, zC] at r0a r0b r0c r0d
 have K1 := zz k1
 have hla : ga < w1.heap.size := by omega
 have hlb : gb < w1.heap.size := by omega
 clear k0 k1 ca cb hz1
 go_upto_region 3 with fail
 have hKp := Keeps.base w1
 refine wp_region_mixedT [.pure, .pure, .held, .pure, .pure, .held, .pure, .pure, .held, .pure, .pure, .held, .pure, .pure, .held, .pure, .pure, .held, .pure, .tail] (fun _ => ⟨fun _ => True, fun _ _ => True⟩) (by kernel_rfl) (by kernel_rfl) ?_
 repeat (first | (refine mix_pure rfl rfl rfl (fun K hK => ?_); go_big_quiet_op; refine hK _ ?_; clear hK K) | (refine mix_held rfl rfl rfl (by assumption) (fun K hK => ?_); go_big_quiet_op; refine hK _ ?_; clear hK K))
 refine mix_store rfl rfl 118 (.tmp 4) (.tmp 28) rfl (w.heap.size + 1) 0 #[.int .u8 (x : Int), .int .u8 (y : Int)] rfl rfl (fun V hV => Blk.there (K1.out.on hV) (by show 0 + 2 ≤ 2; decide)) (by kernel_rfl) (by simp [Value.oneCell']) ?_
 simp only [Act.put, zD, zE, zF]
 refine mix_nil ?_
 rintro V' ⟨V, hD, rfl⟩
 have hV : Grown w1 V := hD
 have q3 := (K1.out.on hV).whole [.int .u8 (x : Int), .int .u8 (y : Int)] rfl
 have hb9 := bSetCells (bTrans hb1 hV) (show w.heap.size ≤ w.heap.size + 1 by omega) 0 [.int .u8 (x : Int), .int .u8 (y : Int)]
 obtain ⟨w9, hw9⟩ : ∃ w9, V.setCells (w.heap.size + 1) 0 [.int .u8 (x : Int), .int .u8 (y : Int)] = w9 := ⟨_, rfl⟩
 rw [hw9] at q3 hb9
 first | rw [hw9] | (show Exit.then _ _ _ _ (V.setCells (w.heap.size + 1) 0 [.int .u8 (x : Int), .int .u8 (y : Int)]); rw [hw9])
 have g0 := q3.cell 0
 have g1 := q3.cell 1
 simp only [zA, zB, zC] at g0 g1
 clear hw9 hV hD hKp
 go_wp2
 exact bodyPost_ret (v := .agg #[.int .u8 x, .int .u8 y]) (by simp [results, Tryz.results144, go_sem, g0, g1]) rfl ⟨rfl, hb9⟩
end
end Go.Proofs.YtibeihcpehikoaaGreat
