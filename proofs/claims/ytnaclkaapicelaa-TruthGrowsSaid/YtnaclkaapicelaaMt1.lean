/-
  The walks beneath: TrP, Tr1, Tr2, TrF, TrG, TrH, TrI.
-/
import Derived.Shelf.Abstract
import Derived.Shelf.RegionOpen
import Derived.Outline
import Derived.Deep.Cut
import Derived.Test.YtnaclkaapicelaaMb3
import Derived.Test.YtnaclkaapicelaaMb5
import Derived.Test.YtnaclkaapicelaaEv
import Derived.Test.YtnaclkaapicelaaMb1
import Derived.Test.YtnaclkaapicelaaMb6
namespace Go.Proofs.Ytnaclkaapicelaa
open Go.RowKit
set_option maxRecDepth 100000
/-- The state behind so many frames. -/
def stT (inp : Nat → Nat × Nat) (S : Nat → Int) : Nat → Nat → Int
  | 0 => S
  | k + 1 => (stepS (inp k).1 (inp k).2 (stT inp S k)).1
/-- One frame: the next state, its events. -/
def rdT (inp : Nat → Nat × Nat) (S : Nat → Int) (k : Nat) : (Nat → Int) × List Ev := stepS (inp k).1 (inp k).2 (stT inp S k)
def preT (inp : Nat → Nat × Nat) (S : Nat → Int) (k : Nat) : List ((Nat → Int) × List Ev) := (List.range k).map (rdT inp S)
theorem preT_succ (inp : Nat → Nat × Nat) (S : Nat → Int) (k : Nat) : preT inp S (k + 1) = preT inp S k ++ [rdT inp S k] := by
  unfold preT
  rw [List.range_succ, List.map_append]; rfl
theorem preT_length (inp : Nat → Nat × Nat) (S : Nat → Int) (k : Nat) : (preT inp S k).length = k := by unfold preT; simp
theorem preT_get (inp : Nat → Nat × Nat) (S : Nat → Int) (k j : Nat) (h : j < k) : (preT inp S k)[j]? = some (rdT inp S j) := by
  unfold preT
  rw [List.getElem?_map, List.getElem?_range h]; rfl
theorem stT_ok {inp : Nat → Nat × Nat} {S : Nat → Int} (h : StOk S) (h0 : S 0 = 0) (h2 : S 2 = 0) : ∀ k, k ≤ 100000 → StOk (stT inp S k) ∧ stT inp S k 0 = (k : Int) ∧ stT inp S k 2 ≤ (k : Int) ∧ 0 ≤ stT inp S k 2
  | 0, _ => ⟨h, h0, by show S 2 ≤ _; rw [h2]; decide, by show 0 ≤ S 2; rw [h2]; decide⟩
  | k + 1, hk => by
    obtain ⟨k1, k2, k3, k4⟩ := stT_ok (inp := inp) h h0 h2 k (by omega)
    obtain ⟨q1, q2, q3, q4, q5⟩ := stepS_ok (inp k).1 (inp k).2 k1 (by omega) (by omega)
    refine ⟨q1, ?_, ?_, ?_⟩
    · show (stepS _ _ (stT inp S k)).1 0 = _
      rw [q3, k2]; omega
    · show (stepS _ _ (stT inp S k)).1 2 ≤ _
      omega
    · show 0 ≤ (stepS _ _ (stT inp S k)).1 2
      omega
theorem stT_same {inp inq : Nat → Nat × Nat} {S : Nat → Int} : ∀ k, (∀ j, j < k → inp j = inq j) → stT inp S k = stT inq S k
  | 0, _ => rfl
  | k + 1, h => by
    show (stepS _ _ _).1 = (stepS _ _ _).1
    rw [stT_same k (fun j hj => h j (by omega)), h k (by omega)]
theorem rdT_same {inp inq : Nat → Nat × Nat} {S : Nat → Int} (k : Nat) (h : ∀ j, j ≤ k → inp j = inq j) : rdT inp S k = rdT inq S k := by
  unfold rdT
  rw [stT_same k (fun j hj => h j (by omega)), h k (Nat.le_refl _)]
/-- The inputs of a frame: nothing so long as they are on their way. -/
def inpT (d : Nat) (a b : List Nat) (f : Nat) : Nat × Nat := if f < d then (0, 0) else (a.getD (f - d) 0, b.getD (f - d) 0)
theorem inpT_cut {d : Nat} {a b : List Nat} {i k f : Nat} (h : f < d + min i k) : inpT d (a.take i) (b.take k) f = inpT d a b f := by
  unfold inpT
  split
  · rfl
  · rw [List.getD_eq_getElem?_getD, List.getD_eq_getElem?_getD, List.getD_eq_getElem?_getD, List.getD_eq_getElem?_getD, List.getElem?_take_of_lt (by omega), List.getElem?_take_of_lt (by omega)]
end Go.Proofs.Ytnaclkaapicelaa

namespace Go.Proofs.Ytnaclkaapicelaa
open Go.RowKit
set_option maxRecDepth 100000
def btC (n : Nat) : List Value := [.int .u8 (n : Int)]
theorem btC_length (n : Nat) : (btC n).length = 1 := rfl
/-- The first one that is none, or -1. -/
def badFrom : Nat → List Nat → Int
  | _, [] => -1
  | k, x :: r => if 63 < x then (k : Int) else badFrom (k + 1) r
def badB (l : List Nat) : Bool := l.any fun x => decide (63 < x)
theorem badFrom_iff : ∀ (l : List Nat) (k : Nat), (0 ≤ badFrom k l) = (badB l = true)
  | [], k => by simp [badFrom, badB]
  | x :: r, k => by
    have ih := badFrom_iff r (k + 1)
    rw [badFrom]
    unfold badB at *
    rw [List.any_cons]
    by_cases h : 63 < x
    · simp [h]
    · simp only [h, if_false, decide_false, Bool.false_or]
      exact ih
theorem badFrom_bd : ∀ (l : List Nat) (k : Nat), -1 ≤ badFrom k l ∧ badFrom k l ≤ k + l.length
  | [], k => by simp [badFrom]
  | x :: r, k => by
    have ih := badFrom_bd r (k + 1)
    unfold badFrom
    rw [List.length_cons]
    split <;> omega
set_option maxHeartbeats 400000 in
theorem tofC_any (n : Nat) (w : World) : Calls Try.prog 107 #[.int .u8 (n : Int)] w fun e w' => e = .returned (.bool (decide (63 < n))) ∧ w = w' := by
  by_cases h : 63 < n
  · have HD := Lib.hid (show decide (63 < n) = true by simpa using h)
    go_enter Try.func107, Try.ntmps107
    go_wp2
    go_ret
    exact ⟨ret_bool (by rw [HD.out]; simp; omega), rfl⟩
  · have HD := Lib.hid (show decide (63 < n) = false by simpa using h)
    go_enter Try.func107, Try.ntmps107
    go_wp2
    go_ret
    exact ⟨ret_bool (by rw [HD.out]; simp; omega), rfl⟩
set_option maxHeartbeats 1000000 in
theorem tIF_any (A : Option Addr) (c : Nat) (L : List Nat) (w : World) (hn : L.length ≤ 1000000) (hr : Rd w w.heap.size A (L.flatMap btC)) :
    Calls Try.prog 129 #[.slice A L.length c, .func (.func 107) #[] #[]] w fun e w' => e = .returned (.int .i64 (badFrom 0 L)) ∧ w = w' := by
  have HR := Lib.hid hr
  have HC := Lib.hid (fun n V => tofC_any n V)
  clear hr
  go_enter Try.func129, Try.ntmps129
  go_wp2
  go_loopw [8] (fun i wr => ∃ k : Nat, k ≤ L.length ∧ i = .int .i64 k ∧ Hid (badFrom 0 L = badFrom k (L.drop k)) ∧ w = wr) (fun i _ => L.length - (intOf i).toNat)
  case atStart => exact ⟨0, Nat.zero_le _, rfl, rfl, rfl⟩
  case round =>
    obtain ⟨k, hk, rfl, hi, rfl⟩ := hrel
    by_cases hlt : k < L.length
    · obtain ⟨b, off, rfl, hB, hc⟩ := HR.out.at_ btC_length (by omega) hlt
      have c0 := hc 0 _ rfl
      rw [Nat.add_zero, Nat.mul_one] at c0
      clear hc
      have hst : badFrom k (L.drop k) = if 63 < L[k] then (k : Int) else badFrom (k + 1) (L.drop (k + 1)) := by
        rw [List.drop_eq_getElem_cons hlt, badFrom]
      have HS := Lib.hid hst
      clear hst
      obtain ⟨x, hx⟩ : ∃ x, L[k] = x := ⟨_, rfl⟩
      rw [hx] at c0 HS
      cases hin : decide (63 < x) with
      | true =>
        have HI := Lib.hid hin
        clear hin
        go_wp2_with (first | (refine (HC.out x _).mono ?_; rintro e w1 ⟨rfl, rfl⟩; rw [HI.out]))
        go_ret
        exact ⟨ret_int (by rw [hi.out, HS.out, if_pos (of_decide_eq_true HI.out)]), rfl⟩
      | false =>
        have HI := Lib.hid hin
        clear hin
        go_wp2_with (first | (refine (HC.out x _).mono ?_; rintro e w1 ⟨rfl, rfl⟩; rw [HI.out]))
        go_roundw
        case rel => exact ⟨k + 1, by omega, by go_num, (show _ = _ by rw [hi.out, HS.out, if_neg (of_decide_eq_false HI.out)]), trivial⟩
        case measure => simp [intOf]; omega
    · have e0 : badFrom 0 L = -1 := by rw [hi.out, List.drop_of_length_le (by omega), badFrom]
      have E0 := Lib.hid e0
      clear e0
      go_wp2
      go_ret
      exact ⟨ret_int E0.out.symm, rfl⟩
set_option maxHeartbeats 400000 in
theorem tCF_any (A : Option Addr) (c : Nat) (L : List Nat) (w : World) (hn : L.length ≤ 1000000) (hr : Rd w w.heap.size A (L.flatMap btC)) :
    Calls Try.prog 108 #[.slice A L.length c, .func (.func 107) #[] #[]] w fun e w' => e = .returned (.bool (badB L)) ∧ w = w' := by
  have HC := Lib.hid (tIF_any A c L w hn hr)
  have hbd := badFrom_bd L 0
  have hif := badFrom_iff L 0
  obtain ⟨z, hz⟩ : ∃ z, badFrom 0 L = z := ⟨_, rfl⟩
  rw [hz] at hbd hif HC
  clear hr hz
  by_cases h0 : 0 ≤ z
  · have HB := Lib.hid (show badB L = true by rw [← hif]; exact h0)
    clear hif
    go_enter Try.func108, Try.ntmps108
    go_wp2_with (first | (refine HC.out.mono ?_; rintro e w1 ⟨rfl, rfl⟩))
    go_ret
    exact ⟨ret_bool HB.out.symm, rfl⟩
  · have HB := Lib.hid (show badB L = false by cases h : badB L with
      | false => rfl
      | true => exact absurd (hif.mpr h) h0)
    clear hif
    go_enter Try.func108, Try.ntmps108
    go_wp2_with (first | (refine HC.out.mono ?_; rintro e w1 ⟨rfl, rfl⟩))
    go_ret
    exact ⟨ret_bool (by rw [HB.out]; simpa using h0), rfl⟩
set_option maxHeartbeats 400000 in
theorem known_any (s d : Int) (A B : Option Addr) (n c m c' : Nat) (w : World) (hd : 0 ≤ d ∧ d ≤ 8) (hn : n ≤ 1000000) (hm : m ≤ 1000000) :
    Calls Try.prog 109 #[.agg #[.int .u32 s, .int .i64 d, .slice A n c, .slice B m c']] w fun e w' => e = .returned (.int .i64 (d + (min n m : Nat))) ∧ Below w.heap.size w w' := by
  go_enter Try.func109, Try.ntmps109
  go_wp2
  all_goals
    go_ret
    exact ⟨ret_int (by omega), (by repeat (first | exact Below.refl _ _ | (with_reducible assumption) | apply bAlloc | apply below_drewN | apply Below.drew))⟩
end Go.Proofs.Ytnaclkaapicelaa

namespace Go.Proofs.Ytnaclkaapicelaa
open Go.RowKit
set_option maxRecDepth 100000
set_option linter.unusedSimpArgs false
/-- Inputs that can't be. -/
def ofB (d : Int) (a b : List Nat) : Bool := decide (d < 0) || decide (8 < d) || badB a || badB b
set_option maxHeartbeats 2000000 in
theorem of_good (s d x y : Int) (A B : Option Addr) (c c' : Nat) (a b : List Nat) (w : World) (ha : a.length ≤ 1000) (hb : b.length ≤ 1000) (ra : Rd w w.heap.size A (a.flatMap btC)) (rb : Rd w w.heap.size B (b.flatMap btC)) (hok : ofB d a b = false) :
    Calls Try.prog 68 #[.agg #[.int .u32 s, .int .i64 d, .int .i64 x, .int .i64 y], .slice A a.length c, .slice B b.length c'] w fun e w' => e = .returned (.tuple #[.agg #[.int .u32 s, .int .i64 d, .slice A a.length c, .slice B b.length c'], .int .i64 0]) ∧ Below w.heap.size w w' := by
  unfold ofB at hok
  simp only [Bool.or_eq_false_iff, decide_eq_false_iff_not] at hok
  obtain ⟨⟨⟨h1, h2⟩, h3⟩, h4⟩ := hok
  have hd : 0 ≤ d ∧ d ≤ 8 := by omega
  have HA := Lib.hid (fun (V : World) (hV : Below w.heap.size w V) => tCF_any A c a V (by omega) ((ra.below hV (Nat.le_refl _)).more hV.size))
  have HB := Lib.hid (fun (V : World) (hV : Below w.heap.size w V) => tCF_any B c' b V (by omega) ((rb.below hV (Nat.le_refl _)).more hV.size))
  rw [h3] at HA
  rw [h4] at HB
  have HK := Lib.hid (fun (V : World) => known_any s d A B a.length c b.length c' V hd (by omega) (by omega))
  clear ra rb h3 h4
  go_enter Try.func68, Try.ntmps68
  go_upto_region 2 with fail
  refine named3 (F := fun W => Code.wp _ _ _ _ W) ?_
  intro w1 k0 k1 k2 hb1 hz1
  have r0a := (k0).cell 0; have r0b := (k0).cell 1; have r0c := (k0).cell 2; have r0d := (k0).cell 3; have r0e := (k0).frozen 0; have r0f := (k0).frozen 1; have r0g := (k0).frozen 2; have r0h := (k0).frozen 3; have r0l := (k0).lt; simp only [List.getElem?_toArray, List.getElem?_cons_zero, List.getElem?_cons_succ] at r0a r0b r0c r0d
  have r2a := (k2).cell 0; have r2b := (k2).cell 1; have r2c := (k2).cell 2; have r2d := (k2).cell 3; have r2e := (k2).frozen 0; have r2f := (k2).frozen 1; have r2g := (k2).frozen 2; have r2h := (k2).frozen 3; have r2l := (k2).lt; simp only [List.getElem?_toArray, List.getElem?_cons_zero, List.getElem?_cons_succ] at r2a r2b r2c r2d
  have K1 := Lib.hid k1
  have K2 := Lib.hid k2
  clear k0 k1 k2
  go_wp2_with (first
    | (go_at_call 108; first | ((with_reducible refine (HA.out _ ?_).mono ?_); (case' refine_1 => exact (by repeat (first | exact Below.refl _ _ | (with_reducible assumption) | apply bAlloc | apply below_drewN | apply Below.drew))); rintro e w2 ⟨rfl, rfl⟩) | ((with_reducible refine (HB.out _ ?_).mono ?_); (case' refine_1 => exact (by repeat (first | exact Below.refl _ _ | (with_reducible assumption) | apply bAlloc | apply below_drewN | apply Below.drew))); rintro e w2 ⟨rfl, rfl⟩))
    | (go_at_call 109; refine (HK.out _).mono ?_; rintro e w3 ⟨rfl, hb3⟩; have q1 := K1.out.on hb3; have q2 := K2.out.on hb3; have c1a := (q1).cell 0; have c1b := (q1).cell 1; have c1c := (q1).cell 2; have c1d := (q1).cell 3; have c1e := (q1).frozen 0; have c1f := (q1).frozen 1; have c1g := (q1).frozen 2; have c1h := (q1).frozen 3; have c1l := (q1).lt; simp only [List.getElem?_toArray, List.getElem?_cons_zero, List.getElem?_cons_succ] at c1a c1b c1c c1d; have c2a := (q2).cell 0; have c2b := (q2).cell 1; have c2c := (q2).cell 2; have c2d := (q2).cell 3; have c2e := (q2).frozen 0; have c2f := (q2).frozen 1; have c2g := (q2).frozen 2; have c2h := (q2).frozen 3; have c2l := (q2).lt; simp only [List.getElem?_toArray, List.getElem?_cons_zero, List.getElem?_cons_succ] at c2a c2b c2c c2d))
  have q3 := ((((q1.set 0 (.int .u32 s)).set 1 (.int .i64 d)).set 2 (.slice A a.length c)).set 3 (.slice B b.length c'))
  have g0 := q3.cell 0
  have g1 := q3.cell 1
  have g2 := q3.cell 2
  have g3 := q3.cell 3
  simp only [Array.getElem?_setIfInBounds, List.size_toArray, List.length_cons, List.length_nil] at g0 g1 g2 g3
  refine bodyPost_ret (v := .tuple #[.agg #[.int .u32 s, .int .i64 d, .slice A a.length c, .slice B b.length c'], .int .i64 0]) (by simp [results, Try.results68, go_sem, g0, g1, g2, g3]) rfl ⟨rfl, ?_⟩
  exact bSetG (bSetG (bSetG (bSetG (bTrans hb1 hb3) (by omega) _ _) (by omega) _ _) (by omega) _ _) (by omega) _ _
set_option maxHeartbeats 4000000 in
theorem of_bad (s d x y : Int) (A B : Option Addr) (c c' : Nat) (a b : List Nat) (w : World) (ha : a.length ≤ 1000) (hb : b.length ≤ 1000) (ra : Rd w w.heap.size A (a.flatMap btC)) (rb : Rd w w.heap.size B (b.flatMap btC)) (hok : ofB d a b = true) :
    Calls Try.prog 68 #[.agg #[.int .u32 s, .int .i64 d, .int .i64 x, .int .i64 y], .slice A a.length c, .slice B b.length c'] w fun e w' => e = .returned (.tuple #[.agg #[.int .u32 0, .int .i64 0, .slice none 0 0, .slice none 0 0], .int .i64 1]) ∧ Below w.heap.size w w' := by
  have HA := Lib.hid (fun (V : World) (hV : Below w.heap.size w V) => tCF_any A c a V (by omega) ((ra.below hV (Nat.le_refl _)).more hV.size))
  have HB := Lib.hid (fun (V : World) (hV : Below w.heap.size w V) => tCF_any B c' b V (by omega) ((rb.below hV (Nat.le_refl _)).more hV.size))
  have hcases : (d < 0) ∨ (8 < d) ∨ ((0 ≤ d ∧ d ≤ 8) ∧ badB a = true) ∨ ((0 ≤ d ∧ d ≤ 8) ∧ badB a = false ∧ badB b = true) := by
    unfold ofB at hok
    simp only [Bool.or_eq_true, decide_eq_true_eq] at hok
    by_cases h1 : d < 0
    · exact .inl h1
    · by_cases h2 : 8 < d
      · exact .inr (.inl h2)
      · cases h3 : badB a
        · exact .inr (.inr (.inr ⟨by omega, rfl, by rcases hok with ((h | h) | h) | h; exact absurd h h1; exact absurd h h2; (rw [h3] at h; cases h); exact h⟩))
        · exact .inr (.inr (.inl ⟨by omega, rfl⟩))
  clear ra rb hok
  rcases hcases with h | h | ⟨h, h3⟩ | ⟨h, h3, h4⟩
  all_goals
    try rw [h3] at HA
    try rw [h4] at HB
    try clear h3
    try clear h4
    go_enter Try.func68, Try.ntmps68
    go_upto_region 2 with fail
    refine named3 (F := fun W => Code.wp _ _ _ _ W) ?_
    intro w1 k0 k1 k2 hb1 hz1
    have r0a := (k0).cell 0; have r0b := (k0).cell 1; have r0c := (k0).cell 2; have r0d := (k0).cell 3; have r0e := (k0).frozen 0; have r0f := (k0).frozen 1; have r0g := (k0).frozen 2; have r0h := (k0).frozen 3; have r0l := (k0).lt; simp only [List.getElem?_toArray, List.getElem?_cons_zero, List.getElem?_cons_succ] at r0a r0b r0c r0d
    have r1a := (k1).cell 0; have r1b := (k1).cell 1; have r1c := (k1).cell 2; have r1d := (k1).cell 3; have r1e := (k1).frozen 0; have r1f := (k1).frozen 1; have r1g := (k1).frozen 2; have r1h := (k1).frozen 3; have r1l := (k1).lt; simp only [List.getElem?_toArray, List.getElem?_cons_zero, List.getElem?_cons_succ] at r1a r1b r1c r1d
    have K1 := Lib.hid k1
    clear k0 k1 k2
    go_wp2_with (first
      | (go_at_call 108; first | ((with_reducible refine (HA.out _ ?_).mono ?_); (case' refine_1 => exact (by repeat (first | exact Below.refl _ _ | (with_reducible assumption) | apply bAlloc | apply below_drewN | apply Below.drew))); rintro e w2 ⟨rfl, rfl⟩) | ((with_reducible refine (HB.out _ ?_).mono ?_); (case' refine_1 => exact (by repeat (first | exact Below.refl _ _ | (with_reducible assumption) | apply bAlloc | apply below_drewN | apply Below.drew))); rintro e w2 ⟨rfl, rfl⟩)))
    have q3 := ((((K1.out.set 0 (.int .u32 0)).set 1 (.int .i64 0)).set 2 (.slice none 0 0)).set 3 (.slice none 0 0))
    have g0 := q3.cell 0
    have g1 := q3.cell 1
    have g2 := q3.cell 2
    have g3 := q3.cell 3
    simp only [Array.getElem?_setIfInBounds, List.size_toArray, List.length_cons, List.length_nil] at g0 g1 g2 g3
    refine bodyPost_ret (v := .tuple #[.agg #[.int .u32 0, .int .i64 0, .slice none 0 0, .slice none 0 0], .int .i64 1]) (by simp [results, Try.results68, go_sem, g0, g1, g2, g3]) rfl ⟨rfl, ?_⟩
    exact bSetG (bSetG (bSetG (bSetG hb1 (by omega) _ _) (by omega) _ _) (by omega) _ _) (by omega) _ _
set_option maxHeartbeats 400000 in
theorem frames_any (s d : Int) (A B : Option Addr) (n c m c' : Nat) (w : World) :
    Calls Try.prog 69 #[.agg #[.int .u32 s, .int .i64 d, .slice A n c, .slice B m c']] w fun e w' => e = .returned (.func (.func 110) #[] #[.pointer (some ⟨w.heap.size, 0, none⟩)]) ∧ Blk w' w.heap.size 124 #[.int .u32 s, .int .i64 d, .slice A n c, .slice B m c'] ∧ Below w.heap.size w w' := by
  go_enter Try.func69, Try.ntmps69
  go_wp2
  go_ret
  exact ⟨rfl, Blk.new _ _ _, (by repeat (first | exact Below.refl _ _ | (with_reducible assumption) | apply bAlloc | apply below_drewN | apply Below.drew))⟩
set_option maxHeartbeats 2000000 in
theorem input_none (s d f : Int) (A B : Option Addr) (n c m c' : Nat) (w : World) (hf : f < d) :
    Calls Try.prog 111 #[.agg #[.int .u32 s, .int .i64 d, .slice A n c, .slice B m c'], .int .i64 f] w fun e w' => e = .returned (.agg #[.int .u8 0, .int .u8 0]) ∧ Below w.heap.size w w' := by
  go_enter Try.func111, Try.ntmps111
  go_upto_region 1 with fail
  refine named2 (F := fun W => Code.wp _ _ _ _ W) ?_
  intro w1 k0 k1 hb1 hz1
  have r0a := (k0).cell 0; have r0b := (k0).cell 1; have r0c := (k0).cell 2; have r0d := (k0).cell 3; have r0e := (k0).frozen 0; have r0f := (k0).frozen 1; have r0g := (k0).frozen 2; have r0h := (k0).frozen 3; have r0l := (k0).lt; simp only [List.getElem?_toArray, List.getElem?_cons_zero, List.getElem?_cons_succ] at r0a r0b r0c r0d
  have f0 := k1.frozen 0
  have f1 := k1.frozen 1
  have e0 := k1.cell 0
  have e1 := k1.cell 1
  have el := k1.lt
  simp only [List.getElem?_toArray, List.getElem?_cons_zero, List.getElem?_cons_succ] at e0 e1
  have K1 := Lib.hid k1
  clear k0 k1
  go_wp2
  have q3 := (K1.out.set 0 (.int .u8 0)).set 1 (.int .u8 0)
  have g0 := q3.cell 0
  have g1 := q3.cell 1
  simp only [Array.getElem?_setIfInBounds, List.size_toArray, List.length_cons, List.length_nil] at g0 g1
  refine bodyPost_ret (v := .agg #[.int .u8 0, .int .u8 0]) (by simp [results, Try.results111, go_sem, g0, g1]) rfl ⟨rfl, ?_⟩
  exact bSetG (bSetG hb1 (by omega) _ _) (by omega) _ _
theorem built_pbt (x y : Int) : Try.prog.built 41 [(0, .int .u8 x), (1, .int .u8 y)] = some #[.int .u8 x, .int .u8 y] := by kernel_rfl
set_option maxHeartbeats 2000000 in
theorem input_some (s d f : Int) (A B : Option Addr) (c c' : Nat) (a b : List Nat) (w : World) (hf : d ≤ f) (j : Nat) (hj : f - d = j) (h1 : j < a.length) (h2 : j < b.length) (ha : a.length ≤ 1000) (ra : Rd w w.heap.size A (a.flatMap btC)) (rb : Rd w w.heap.size B (b.flatMap btC)) :
    Calls Try.prog 111 #[.agg #[.int .u32 s, .int .i64 d, .slice A a.length c, .slice B b.length c'], .int .i64 f] w fun e w' => e = .returned (.agg #[.int .u8 (a.getD j 0 : Nat), .int .u8 (b.getD j 0 : Nat)]) ∧ Below w.heap.size w w' := by
  obtain ⟨ga, oa, rfl, hga, ca⟩ := ra.at_ btC_length (by omega) h1
  obtain ⟨gb, ob, rfl, hgb, cb⟩ := rb.at_ btC_length (by omega) h2
  replace ca := ca 0 _ rfl
  replace cb := cb 0 _ rfl
  rw [Nat.add_zero, Nat.mul_one] at ca cb
  have hfj : f = d + j := by omega
  subst hfj
  obtain ⟨x, hx⟩ : ∃ x, a.getD j 0 = x := ⟨_, rfl⟩
  obtain ⟨y, hy⟩ : ∃ y, b.getD j 0 = y := ⟨_, rfl⟩
  rw [show a[j] = x from by rw [← hx]; simp [List.getD_eq_getElem?_getD, h1]] at ca
  rw [show b[j] = y from by rw [← hy]; simp [List.getD_eq_getElem?_getD, h2]] at cb
  rw [hx, hy]
  clear ra rb hx hy
  go_enter Try.func111, Try.ntmps111
  go_upto_region 1 with fail
  refine named2 (F := fun W => Code.wp _ _ _ _ W) ?_
  intro w1 k0 k1 hb1 hz1
  have ca1 := (hb1.cell (p := ⟨ga, oa + j, none⟩) hga).trans ca
  have cb1 := (hb1.cell (p := ⟨gb, ob + j, none⟩) hgb).trans cb
  have r0a := (k0).cell 0; have r0b := (k0).cell 1; have r0c := (k0).cell 2; have r0d := (k0).cell 3; have r0e := (k0).frozen 0; have r0f := (k0).frozen 1; have r0g := (k0).frozen 2; have r0h := (k0).frozen 3; have r0l := (k0).lt; simp only [List.getElem?_toArray, List.getElem?_cons_zero, List.getElem?_cons_succ] at r0a r0b r0c r0d
  have K1 := Lib.hid k1
  have hla : ga < w1.heap.size := by omega
  have hlb : gb < w1.heap.size := by omega
  clear k0 k1 ca cb hz1
  go_upto_region 3 with fail
  have hKp := Keeps.base w1
  refine wp_region_mixedT [.pure, .pure, .held, .pure, .pure, .held, .pure, .pure, .held, .pure, .pure, .held, .pure, .pure, .held, .pure, .pure, .held, .pure, .tail] (fun _ => ⟨fun _ => True, fun _ _ => True⟩) (by kernel_rfl) (by kernel_rfl) ?_
  repeat (first | (refine mix_pure rfl rfl rfl (fun K hK => ?_); go_big_quiet_op; refine hK _ ?_; clear hK K) | (refine mix_held rfl rfl rfl (by assumption) (fun K hK => ?_); go_big_quiet_op; refine hK _ ?_; clear hK K))
  refine mix_store rfl rfl 41 (.tmp 4) (.tmp 28) rfl (w.heap.size + 1) 0 #[.int .u8 (x : Int), .int .u8 (y : Int)] rfl rfl (fun V hV => Blk.there (K1.out.on hV) (by show 0 + 2 ≤ 2; decide)) (by kernel_rfl) (by simp [Value.oneCell']) ?_
  simp only [Act.put, List.setIfInBounds_toArray, List.set_cons_zero, List.set_cons_succ]
  refine mix_nil ?_
  rintro V' ⟨V, hD, rfl⟩
  have hV : Grown w1 V := hD
  have q3 := (K1.out.on hV).whole [.int .u8 (x : Int), .int .u8 (y : Int)] rfl
  have hb9 := bSetCells (bTrans hb1 hV) (show w.heap.size ≤ w.heap.size + 1 by omega) 0 [.int .u8 (x : Int), .int .u8 (y : Int)]
  obtain ⟨w9, hw9⟩ : ∃ w9, V.setCells (w.heap.size + 1) 0 [.int .u8 (x : Int), .int .u8 (y : Int)] = w9 := ⟨_, rfl⟩
  rw [hw9] at q3 hb9
  first | rw [hw9] | (show Exit.then _ _ _ _ (V.setCells (w.heap.size + 1) 0 [.int .u8 (x : Int), .int .u8 (y : Int)]); rw [hw9])
  have g0 := q3.cell 0
  have g1 := q3.cell 1
  simp only [List.getElem?_toArray, List.getElem?_cons_zero, List.getElem?_cons_succ] at g0 g1
  clear hw9 hV hD hKp
  go_wp2
  exact bodyPost_ret (v := .agg #[.int .u8 x, .int .u8 y]) (by simp [results, Try.results111, go_sem, g0, g1]) rfl ⟨rfl, hb9⟩
end Go.Proofs.Ytnaclkaapicelaa

namespace Go.Proofs.Ytnaclkaapicelaa
open Go.RowKit Go.Shelf
attribute [local go_sem] Oper.semAt_some
set_option maxRecDepth 100000
set_option linter.unusedSimpArgs false
/-- What is yielded in a round. -/
structure TrR where
  T : Nat → Int
  L : List Ev
  A : Option Addr
  c : Nat
def TrR.encs (r : TrR) : Array Value := #[.slice r.A r.L.length r.c, .agg (stCells r.T).toArray]
def TrR.core (r : TrR) : (Nat → Int) × List Ev := (r.T, r.L)
def TpM (N m : Nat) (pre : List TrR) (r : TrR) (A : World) : Prop := OwnL A m 45 9 (.slice r.A r.L.length r.c) Ev.cells r.L ∧ r.L.length ≤ 22 ∧ pre.length < N
/-- Old blocks, and blocks that are no pages, lie as they lay, but for the caller's boxes. -/
def KpT (B0 : Nat) (X : Nat → Prop) (A B : World) : Prop := A.heap.size ≤ B.heap.size ∧ (∀ r, r < B0 → ¬ X r → B.heap[r]? = A.heap[r]?) ∧ ∀ r t cs, Blk A r t cs → t ≠ 79 → ¬ X r → Blk B r t cs
def LowK (B0 : Nat) (X : Nat → Prop) (A B : World) : Prop := ∀ r, r < B0 → ¬ X r → B.heap[r]? = A.heap[r]?
theorem cell_heap {w W : World} {b : Nat} (h : W.heap[b]? = w.heap[b]?) (o : Nat) : W.cell? ⟨b, o, none⟩ = w.cell? ⟨b, o, none⟩ := by
  simp only [World.cell?, h]
theorem Rd.low {w W : World} {B B0 : Nat} {X : Nat → Prop} {A : Option Addr} {xs : List Value} (h : Rd w B A xs) (hX : ∀ r, X r → B ≤ r) (hB : B ≤ B0) (k : LowK B0 X w W) : Rd W B A xs := fun hn => by
  obtain ⟨b, off, rfl, hb, hc⟩ := h hn
  exact ⟨b, off, rfl, hb, fun i u hu => by rw [cell_heap (k b (by omega) (fun e => by have := hX b e; omega))]; exact hc i u hu⟩
theorem LowK.below {B0 : Nat} {X : Nat → Prop} {w W V : World} (h : LowK B0 X w W) (hb : Below W.heap.size W V) (hB : B0 ≤ W.heap.size) : LowK B0 X w V := fun r hr hx => (hb.block r (by omega)).trans (h r hr hx)
theorem LowK.farC {B0 : Nat} {X : Nat → Prop} {w W : World} (h : LowK B0 X w W) {g : Nat} (hg : B0 ≤ g) (o : Nat) (vs : List Value) : LowK B0 X w (W.setCells g o vs) := fun r hr hx => (setCells_block W g vs o r (by omega)).trans (h r hr hx)
/-- What a step answers, told ahead. -/
def stTold (w : World) (T : Nat → Int) (L : List Ev) : Told :=
  ⟨fun v => ∃ A c, v = .tuple #[.agg (stCells T).toArray, .slice A L.length c, .int .i64 0], fun v W => ∀ A c, v = .tuple #[.agg (stCells T).toArray, .slice A L.length c, .int .i64 0] → OwnL W w.heap.size 45 9 (.slice A L.length c) Ev.cells L⟩
theorem stTold_st {w : World} {T : Nat → Int} {L : List Ev} : ∀ v W U, (stTold w T L).R v W → Grown W U → (stTold w T L).R v U := fun _ _ _ h k A c hv => (h A c hv).below k
theorem stTold_of {w W : World} {S T : Nat → Int} {L : List Ev} {n0 n1 : Nat} (hW : Grown w W) (hok : StOk S) (hF : S 0 < 1073741824) (h0 : n0 < 64) (h1 : n1 < 64) (hTL : stepS n0 n1 S = (T, L)) :
    Calls Try.prog 11 #[.agg (stCells S).toArray, .agg #[.int .u8 n0, .int .u8 n1]] W fun e w' => ∃ v, e = .returned v ∧ ((stTold w T L).S v ∧ (stTold w T L).R v w') ∧ Grown W w' := by
  have := gStep_yes (w := W) hok hF h0 h1
  rw [hTL] at this
  refine this.mono ?_
  rintro e w' ⟨A, c, rfl, ho, hb⟩
  refine ⟨_, rfl, ⟨⟨A, c, rfl⟩, fun A' c' hv => ?_⟩, hb⟩
  simp only [Value.tuple.injEq, Array.mk.injEq, List.cons.injEq, Value.slice.injEq, true_and, and_true] at hv
  obtain ⟨rfl, rfl⟩ := hv
  exact ho.more (Below.size hW)
theorem getD_lt {a : List Nat} (h : ∀ x ∈ a, x < 64) (j : Nat) : a.getD j 0 < 64 := by
  rw [List.getD_eq_getElem?_getD]
  cases hj : a[j]? with
  | none => decide
  | some x => exact h x (List.mem_of_getElem? hj)
theorem inpT_lt {d : Nat} {a b : List Nat} (ha : ∀ x ∈ a, x < 64) (hb : ∀ x ∈ b, x < 64) (k : Nat) : (inpT d a b k).1 < 64 ∧ (inpT d a b k).2 < 64 := by
  unfold inpT
  split
  · exact ⟨by decide, by decide⟩
  · exact ⟨getD_lt ha _, getD_lt hb _⟩
theorem input_any {s d : Int} {A B : Option Addr} {c c' : Nat} {a b : List Nat} {k : Nat} {w : World} (hd : 0 ≤ d) (hk : (k : Int) < d + (min a.length b.length : Nat)) (ha : a.length ≤ 1000) (ra : Rd w w.heap.size A (a.flatMap btC)) (rb : Rd w w.heap.size B (b.flatMap btC)) :
    Calls Try.prog 111 #[.agg #[.int .u32 s, .int .i64 d, .slice A a.length c, .slice B b.length c'], .int .i64 k] w fun e w' => e = .returned (.agg #[.int .u8 (inpT d.toNat a b k).1, .int .u8 (inpT d.toNat a b k).2]) ∧ Below w.heap.size w w' := by
  unfold inpT
  split
  · exact input_none s d k A B a.length c b.length c' w (by omega)
  · exact input_some s d k A B c c' a b w (by omega) (k - d.toNat) (by omega) (by omega) (by omega) ha ra rb
set_option maxHeartbeats 16000000 in
theorem frames_seq (n : Nat) (hn : 1 ≤ n) (s d : Int) (A B : Option Addr) (c c' : Nat) (a b : List Nat) (N Bq : Nat) (X : Nat → Prop) (w : World) (gm : Nat) (hs : U32 s) (hd : 0 ≤ d ∧ d ≤ 8) (hN : (N : Int) = d + (min a.length b.length : Nat)) (ha : a.length ≤ 1000) (hb : b.length ≤ 1000)
    (h63a : ∀ x ∈ a, x < 64) (h63b : ∀ x ∈ b, x < 64) (ra : Rd w Bq A (a.flatMap btC)) (rb : Rd w Bq B (b.flatMap btC)) (hBq : Bq ≤ w.heap.size) (hgm : Blk w gm 124 #[.int .u32 s, .int .i64 d, .slice A a.length c, .slice B b.length c']) (hx : ∀ r, X r → Bq ≤ r ∧ r < w.heap.size ∧ r ≠ gm) :
    SeqSt n Try.prog 110 #[.pointer (some ⟨gm, 0, none⟩)] TrR.encs (TpM N) (KpT w.heap.size X) (fun xs => xs.map TrR.core = preT (inpT d.toNat a b) (beginS s) N) w := by
  intro l J W hW hJ hJ0 hY
  have HJ := Lib.hid hJ
  have HJ0 := Lib.hid hJ0
  have HY := Lib.hid hY
  have HOK := Lib.hid (begin_ok hs)
  obtain ⟨T0, hT0⟩ : ∃ T0, beginS s = T0 := ⟨_, rfl⟩
  have hbeg := fun V => gBegin_any s V
  have hz : T0 0 = 0 ∧ T0 2 = 0 := by rw [← hT0]; exact ⟨rfl, rfl⟩
  rw [hT0] at hbeg HOK ⊢
  obtain ⟨C0, hC0⟩ : ∃ C0 : Array Value, (stCells T0).toArray = C0 := ⟨_, rfl⟩
  rw [hC0] at hbeg
  have hsz : C0.size = 60 := by rw [← hC0, List.size_toArray, stCells_length]
  have H1C : Hid (C0.all (·.oneCell') = true) := Lib.hid (by rw [← hC0]; exact all_oneCell_toArray (int_one _))
  have HSZ : Hid ((Try.prog.info? 33).map (·.size) = some C0.size) := Lib.hid (by rw [hsz]; kernel_rfl)
  have HSI := Lib.hid hsz
  have HC0 := Lib.hid hC0
  have HBEG := Lib.hid hbeg
  have HZ := Lib.hid hz
  have HRA := Lib.hid ra
  have HRB := Lib.hid rb
  have HX := Lib.hid hx
  have H63A := Lib.hid h63a
  have H63B := Lib.hid h63b
  have HLOW : Hid (LowK w.heap.size X w W) := Lib.hid (fun r hr _ => hW.block r hr)
  have BM := Lib.hid (hgm.on hW)
  have hwW := hW.size
  have HKN : Hid (∀ V, Calls Try.prog 109 #[.agg #[.int .u32 s, .int .i64 d, .slice A a.length c, .slice B b.length c']] V fun e w' => e = .returned (.int .i64 (N : Int)) ∧ Below V.heap.size V w') := Lib.hid (fun V => by rw [hN]; exact known_any s d A B a.length c b.length c' V hd (by omega) (by omega))
  have m0a := (BM.out).cell 0; have m0b := (BM.out).cell 1; have m0c := (BM.out).cell 2; have m0d := (BM.out).cell 3; have m0e := (BM.out).frozen 0; have m0f := (BM.out).frozen 1; have m0g := (BM.out).frozen 2; have m0h := (BM.out).frozen 3; have m0l := (BM.out).lt; simp only [List.getElem?_toArray, List.getElem?_cons_zero, List.getElem?_cons_succ] at m0a m0b m0c m0d
  clear hJ hJ0 hY hbeg hsz hC0 hT0 hz ra rb hx h63a h63b hgm
  refine callsIn_of_wp Try.func110 rfl trivial ?_ rfl
  simp only [Try.ntmps110, List.size_toArray, List.length_cons, List.length_nil, Nat.reduceAdd, Nat.reduceSub, Array.replicate_succ, Array.replicate_zero, List.push_toArray, List.append_toArray, List.nil_append, List.cons_append]
  refine wpIn_wide.2 ?_
  go_upto_region 1 with (first
    | (go_at_call 13; refine (HBEG.out _).mono ?_; rintro e w3 ⟨rfl, hb3⟩; have HB3 := Lib.hid hb3; clear hb3)
    | (refine wpList_store_mid rfl 33 (.tmp 3) (.tmp 10) rfl w3.heap.size 0 C0 rfl rfl (there_new _ _ _ (by rw [HSI.out]; rfl)) HSZ.out H1C.out ?_))
  refine named_put (F := fun W => Code.wp _ _ _ _ W) (by rw [Array.length_toList, HSI.out]; rfl) ?_
  intro w4 hk4 hb4 hz4
  rw [Array.toArray_toList, ← HC0.out] at hk4
  have hb40 := bTrans HB3.out hb4
  have hg4 := hk4.lt
  have hge4 : W.heap.size ≤ w3.heap.size := HB3.out.size
  obtain ⟨gs, hgs⟩ : ∃ gs, w3.heap.size = gs := ⟨_, rfl⟩
  rw [hgs] at hk4 hg4 hge4 ⊢
  have HS4 := Lib.hid hk4
  have HB4 := Lib.hid hb40
  have BM4 := Lib.hid (BM.out.on hb40)
  clear m0a m0b m0c m0d m0e m0f m0g m0h m0l
  have m0a := (BM4.out).cell 0; have m0b := (BM4.out).cell 1; have m0c := (BM4.out).cell 2; have m0d := (BM4.out).cell 3; have m0e := (BM4.out).frozen 0; have m0f := (BM4.out).frozen 1; have m0g := (BM4.out).frozen 2; have m0h := (BM4.out).frozen 3; have m0l := (BM4.out).lt; simp only [List.getElem?_toArray, List.getElem?_cons_zero, List.getElem?_cons_succ] at m0a m0b m0c m0d
  clear hk4 hb4 hz4 hb40 hgs HB3 HBEG H1C HSZ
  go_upto_region 2 with (first
    | (go_at_call 109; refine (HKN.out _).mono ?_; rintro e w5 ⟨rfl, hb5⟩; have HB5 := Lib.hid hb5; clear hb5))
  obtain ⟨m, hm⟩ : ∃ m, w5.heap.size = m := ⟨_, rfl⟩
  have hb45 := bTrans HB4.out HB5.out
  have HJ5 := Lib.hid (HJ0.out w5 (grown_of hb45))
  have HS5 := Lib.hid (HS4.out.on HB5.out)
  have BM5 := Lib.hid (BM4.out.on HB5.out)
  have HL5 := Lib.hid (HLOW.out.below hb45 hwW)
  have hgs5 := HS5.out.lt
  rw [hm] at HJ5 hgs5
  have hWm : W.heap.size ≤ m := by omega
  clear m0a m0b m0c m0d m0e m0f m0g m0h m0l BM BM4 HS4 HB4 HB5 hb45 hg4 HLOW HKN HJ0
  go_loopw [13] (fun v wr => ∃ (k : Nat) (pre : List TrR), k ≤ N ∧ v = .int .i64 k ∧ Hid (pre.map TrR.core = preT (inpT d.toNat a b) T0 k) ∧ Hid (J m pre wr) ∧ Hid (Blk wr gs 33 (stCells (stT (inpT d.toNat a b) T0 k)).toArray) ∧ Hid (Blk wr gm 124 #[.int .u32 s, .int .i64 d, .slice A a.length c, .slice B b.length c']) ∧ Hid (LowK w.heap.size X w wr) ∧ m ≤ wr.heap.size) (fun v _ => N - (intOf v).toNat)
  case atStart => exact ⟨0, [], Nat.zero_le _, rfl, Lib.hid rfl, HJ5, HS5, BM5, HL5, by omega⟩
  case round =>
  obtain ⟨k, pre, hk, rfl, HP, HJK, HS, HK, HLW, hmr⟩ := hrel
  clear HJ5 HS5 BM5 HL5 hm
  by_cases hlt : k < N
  · as_aux_lemma =>
    obtain ⟨q1, q2, q3, q4⟩ := stT_ok (inp := inpT d.toNat a b) HOK.out HZ.out.1 HZ.out.2 k (by omega)
    have hsucc : stT (inpT d.toNat a b) T0 (k + 1) = (rdT (inpT d.toNat a b) T0 k).1 := rfl
    have hpsucc := preT_succ (inpT d.toNat a b) T0 k
    have hrd : rdT (inpT d.toNat a b) T0 k = stepS (inpT d.toNat a b k).1 (inpT d.toNat a b k).2 (stT (inpT d.toNat a b) T0 k) := rfl
    obtain ⟨S, hS⟩ : ∃ S, stT (inpT d.toNat a b) T0 k = S := ⟨_, rfl⟩
    obtain ⟨hx64, hy64⟩ := inpT_lt (d := d.toNat) H63A.out H63B.out k
    have hwr : w.heap.size ≤ wr.heap.size := by omega
    have hin := fun (V : World) (hV : Below wr.heap.size wr V) => input_any (s := s) (c := c) (c' := c') (k := k) (w := V) hd.1 (by omega) ha (((HRA.out.low (fun r e => (HX.out r e).1) hBq HLW.out).below hV (by omega)).more (Nat.le_trans hBq (Nat.le_trans hwr hV.size))) (((HRB.out.low (fun r e => (HX.out r e).1) hBq HLW.out).below hV (by omega)).more (Nat.le_trans hBq (Nat.le_trans hwr hV.size)))
    obtain ⟨x, hxn⟩ : ∃ x, (inpT d.toNat a b k).1 = x := ⟨_, rfl⟩
    obtain ⟨y, hyn⟩ : ∃ y, (inpT d.toNat a b k).2 = y := ⟨_, rfl⟩
    rw [hxn] at hx64 hrd hin
    rw [hyn] at hy64 hrd hin
    rw [hS] at q1 q2 q3 q4 hrd HS
    obtain ⟨T', L', hTL⟩ : ∃ T' L', stepS x y S = (T', L') := ⟨_, _, rfl⟩
    rw [hTL] at hrd
    rw [hrd] at hsucc hpsucc
    have hl22 : L'.length ≤ 22 := by
      have := (stepS_ok x y q1 (by omega) (by omega)).2.1
      rw [hTL] at this; exact this
    have HIN := Lib.hid hin
    have HST := Lib.hid (fun V (hV : Grown wr V) => stTold_of (w := wr) hV q1 (by omega) hx64 hy64 hTL)
    have HTN : Hid (stT (inpT d.toNat a b) T0 (k + 1) = T') := Lib.hid hsucc
    have HPN : Hid (preT (inpT d.toNat a b) T0 (k + 1) = preT (inpT d.toNat a b) T0 k ++ [(T', L')]) := Lib.hid hpsucc
    have HL22 := Lib.hid hl22
    have hpl : pre.length = k := by
      have := congrArg List.length HP.out
      rwa [List.length_map, preT_length] at this
    have hlg := HS.out.lt
    have hlm := HK.out.lt
    clear q1 q2 q3 q4 hsucc hpsucc hS hxn hyn hTL hrd hl22 hin HOK HZ hx64 hy64
    go_upto_region 4 with fail
    have hKp := Keeps.base wr
    refine wp_region_mixedT [.held, .held, .pure, .make, .make, .pure, .pure, .pure, .pure, .make, .tail, .pure, .pure] (fun | 3 => valF (.agg #[.int .u8 (x : Int), .int .u8 (y : Int)]) | 4 => stTold wr T' L' | _ => newTold wr 33 (stCells zeroT).toArray) (by kernel_rfl) (by kernel_rfl) ?_
    refine mix_load rfl rfl (by assumption) 33 (.tmp 3) rfl gs 0 rfl (stCells S) _ hlg (Blk.range HS.out) Try.underlying33 rfl (by kernel_rfl) ?_
    simp only [Act.put, List.setIfInBounds_toArray, List.set_cons_zero, List.set_cons_succ]
    refine mix_load rfl rfl (by assumption) 124 (.tmp 1) rfl gm 0 rfl [.int .u32 s, .int .i64 d, .slice A a.length c, .slice B b.length c'] _ hlm (Blk.range HK.out) Try.underlying124 rfl (by kernel_rfl) ?_
    simp only [Act.put, List.setIfInBounds_toArray, List.set_cons_zero, List.set_cons_succ]
    repeat (first | (refine mix_pure rfl rfl rfl (fun K hK => ?_); go_big_quiet_op; refine hK _ ?_; clear hK K) | (refine mix_held rfl rfl rfl (by assumption) (fun K hK => ?_); go_big_quiet_op; refine hK _ ?_; clear hK K))
    refine mix_make rfl rfl (by assumption) valF_st (fun V hV => ?_) ?_
    · have HS2 := Lib.hid (valF_of (HIN.out V hV))
      go_simp
      exact HS2.out
    rintro _ rfl hKp2
    simp only [Act.put, List.setIfInBounds_toArray, List.set_cons_zero, List.set_cons_succ]
    refine mix_make rfl rfl (by assumption) stTold_st (fun V hV => ?_) ?_
    · have HS2 := Lib.hid (HST.out V hV)
      go_simp
      exact HS2.out
    rintro v ⟨AN, cN, rfl⟩ hKp3
    simp only [Act.put, List.setIfInBounds_toArray, List.set_cons_zero, List.set_cons_succ]
    repeat (first | (refine mix_pure rfl rfl rfl (fun K hK => ?_); go_big_quiet_op; refine hK _ ?_; clear hK K) | (refine mix_held rfl rfl rfl (by assumption) (fun K hK => ?_); go_big_quiet_op; refine hK _ ?_; clear hK K))
    refine mix_make rfl rfl (by assumption) newTold_st (newTold_makes rfl zero_state rfl) ?_
    rintro v ⟨g5, rfl⟩ hKp4
    simp only [Act.put, List.setIfInBounds_toArray, List.set_cons_zero, List.set_cons_succ]
    refine mix_store rfl rfl 33 (.tmp 5) (.tmp 22) rfl g5 0 (stCells T').toArray rfl rfl (fun V hV => ?_) (by kernel_rfl) (all_oneCell_toArray (int_one T')) ?_
    · have := (hV.2 g5 rfl).2
      exact Blk.there this (by rw [List.size_toArray, List.size_toArray, stCells_length, stCells_length]; decide)
    simp only [Act.put, List.setIfInBounds_toArray, List.set_cons_zero, List.set_cons_succ]
    repeat (first | (refine mix_pure rfl rfl rfl (fun K hK => ?_); go_big_quiet_op; refine hK _ ?_; clear hK K) | (refine mix_held rfl rfl rfl (by assumption) (fun K hK => ?_); go_big_quiet_op; refine hK _ ?_; clear hK K))
    refine mix_nil ?_
    rintro V' ⟨V, hD, rfl⟩
    obtain ⟨⟨⟨hg, -⟩, hR1⟩, hR2⟩ := hD
    obtain ⟨hge, hBg⟩ := hR2 g5 rfl
    have ho := hR1 AN cN rfl
    have hg : Grown wr V := hg
    have hn6 := hBg.whole (stCells T') (by rw [List.size_toArray, stCells_length, stCells_length])
    have ho6 := (ho.more hmr).farC (b := g5) (hBg.apart ho (by decide)) 0 (stCells T')
    have hs6 := (HS.out.on hg).farC (show gs ≠ g5 by omega) 0 (stCells T')
    have hk6 := (HK.out.on hg).farC (show gm ≠ g5 by omega) 0 (stCells T')
    have hl6 := (HLW.out.below hg (by omega)).farC (show w.heap.size ≤ g5 by omega) 0 (stCells T')
    have hb6 := bSetCells hg hge 0 (stCells T')
    obtain ⟨w6, hw6⟩ : ∃ w6, V.setCells g5 0 (stCells T') = w6 := ⟨_, rfl⟩
    rw [hw6] at hn6 ho6 hs6 hk6 hl6 hb6
    first | rw [hw6] | (show Exit.then _ _ _ _ (V.setCells g5 0 (stCells T')); rw [hw6])
    have HG8 := Lib.hid hn6
    have HO8 := Lib.hid ho6
    have HS8 := Lib.hid hs6
    have HK8 := Lib.hid hk6
    have HL8 := Lib.hid hl6
    have HJ8 := Lib.hid (HJ.out m pre wr w6 none HJK.out (grown_of hb6) (fun r e => by cases e))
    have hmr6 : m ≤ w6.heap.size := Nat.le_trans hmr (Below.size hb6)
    have hgm8 : m ≤ g5 := by omega
    have hgsm : gs < m := hgs5
    clear hw6 hn6 ho6 hs6 hk6 hl6 hb6 hg hge hBg hR1 hR2 ho hKp hKp2 hKp3 hKp4 HIN HST HS HK HJK HLW hlg hlm hmr
    have hl8 := HG8.out.lt
    obtain ⟨fn, tmps, assign, body, hy, hR⟩ := HY.out m pre ⟨T', L', AN, cN⟩ w6 hWm HJ8.out ⟨HO8.out, HL22.out, by rw [hpl]; exact hlt⟩
    unfold TrR.encs at hy
    dsimp only at hy
    go_upto_region 5 with fail
    refine (wpIn_wide (n := n)).1 ?_
    apply wpIn_region_lit
    refine wpListIn_runs (.int .i64 0) rfl (by intro c h; cases h) rfl rfl ?_
    simp only [Act.put, List.setIfInBounds_toArray, List.set_cons_zero, List.set_cons_succ]
    refine wpListIn_runs (.bool false) rfl (by intro c h; cases h) rfl rfl ?_
    simp only [Act.put, List.setIfInBounds_toArray, List.set_cons_zero, List.set_cons_succ]
    refine wpListIn_runs (.bool false) rfl (by intro c h; cases h) rfl rfl ?_
    simp only [Act.put, List.setIfInBounds_toArray, List.set_cons_zero, List.set_cons_succ]
    refine wpListIn_runs (.func (.yield l) #[] #[]) rfl (by intro c h; cases h) rfl rfl ?_
    simp only [Act.put, List.setIfInBounds_toArray, List.set_cons_zero, List.set_cons_succ]
    refine wpListIn_runs (.slice AN L'.length cN) rfl (by intro c h; cases h) rfl rfl ?_
    simp only [Act.put, List.setIfInBounds_toArray, List.set_cons_zero, List.set_cons_succ]
    refine wpListIn_runs (.agg (stCells T').toArray) rfl (by intro c h; cases h) rfl (runs_load 33 (.tmp 5) rfl g5 0 rfl (stCells T') _ (Blk.range HG8.out) Try.underlying33 rfl (by kernel_rfl)) ?_
    simp only [Act.put, List.setIfInBounds_toArray, List.set_cons_zero, List.set_cons_succ]
    refine wpListIn_yield (l := l) (fn := fn) (tms := tmps) (assign := assign) (body := body) (v := .bool true) ?_ ?_ ?_ ?_ (fun _ => hn) hR ?_
    · rfl
    · intro c h; cases h
    · rfl
    · exact runs_yield (.tmp 28) [.tmp 29, .tmp 30] rfl rfl rfl rfl hy
    rintro w9 ⟨hJ9, hk9⟩
    simp only [Act.put, List.setIfInBounds_toArray, List.set_cons_zero, List.set_cons_succ]
    refine wpListIn_runs (.bool false) rfl (by intro c h; cases h) rfl rfl ?_
    simp only [Act.put, List.setIfInBounds_toArray, List.set_cons_zero, List.set_cons_succ]
    refine wpListIn_runs (.bool false) rfl (by intro c h; cases h) rfl rfl ?_
    simp only [Act.put, List.setIfInBounds_toArray, List.set_cons_zero, List.set_cons_succ]
    refine wpListIn_nil ?_
    go_upto_region 6 with fail
    obtain ⟨hz9, hlo9, hk9⟩ := hk9
    have hG9 := hk9 g5 _ _ HG8.out (by decide) (fun e => by have := (HX.out _ e).2.1; omega)
    have hS9 := hk9 gs _ _ HS8.out (by decide) (fun e => by have := (HX.out _ e).2.1; omega)
    have hK9 := hk9 gm _ _ HK8.out (by decide) (fun e => (HX.out _ e).2.2 rfl)
    have hL9 : LowK w.heap.size X w w9 := fun r hr hxr => (hlo9 r hr hxr).trans (HL8.out r hr hxr)
    have HI := Lib.hid (int_one T')
    obtain ⟨CL, hCL⟩ : ∃ CL, stCells T' = CL := ⟨_, rfl⟩
    have hlen : CL.length = 60 := by rw [← hCL, stCells_length]
    rw [hCL] at hG9 HI
    have hone := all_oneCell_toArray HI.out
    have hsz9 : (Try.prog.info? 33).map (·.size) = some CL.toArray.size := by rw [List.size_toArray, hlen]; kernel_rfl
    have hlg9 := hG9.lt
    have hls9 := hS9.lt
    apply wp_region_lit
    refine wpList_load_mid rfl 33 (.tmp 5) rfl g5 0 rfl CL _ (Blk.range hG9) Try.underlying33 rfl (by rw [hlen]; kernel_rfl) ?_
    simp only [Act.put, List.setIfInBounds_toArray, List.set_cons_zero, List.set_cons_succ]
    refine wpList_store_mid rfl 33 (.tmp 3) (.tmp 34) rfl gs 0 CL.toArray rfl rfl (Blk.there hS9 (by rw [List.size_toArray, List.size_toArray, stCells_length, hlen]; decide)) hsz9 hone ?_
    have hne9 : gm ≠ gs := fun e => by
      have h1 : w9.heap[gm]? = some (.cells #[.int .u32 s, .int .i64 d, .slice A a.length c, .slice B b.length c'] 124 (0, 0)) := hK9
      have h2 : w9.heap[gs]? = some (.cells (stCells S).toArray 33 (0, 0)) := hS9
      rw [e, h2] at h1
      cases h1
    have hS10 : Blk (w9.setCells gs 0 CL.toArray.toList) gs 33 CL.toArray := hS9.whole CL (by rw [List.size_toArray, stCells_length, hlen])
    have hK10 : Blk (w9.setCells gs 0 CL.toArray.toList) gm 124 #[.int .u32 s, .int .i64 d, .slice A a.length c, .slice B b.length c'] := hK9.farC hne9 0 CL
    have hL10 : LowK w.heap.size X w (w9.setCells gs 0 CL.toArray.toList) := hL9.farC (by omega) 0 CL
    have hJ10 := HJ.out m _ w9 (w9.setCells gs 0 CL.toArray.toList) (some gs) hJ9 (grownBy_setCells _ _ _ _) (fun r e => by cases e; exact ⟨hge4, hgsm, _, hS9, rfl⟩)
    have hz10 : m ≤ (w9.setCells gs 0 CL.toArray.toList).heap.size := by rw [setCells_size]; omega
    obtain ⟨w10, hw10⟩ : ∃ w10, w9.setCells gs 0 CL.toArray.toList = w10 := ⟨_, rfl⟩
    rw [hw10] at hS10 hK10 hJ10 hz10 hL10 ⊢
    simp only [Act.put, List.setIfInBounds_toArray, List.set_cons_zero, List.set_cons_succ]
    refine wpList_nil ?_
    clear hw10 hG9 hS9 hK9 hone hsz9 hlg9 hls9 HG8 HS8 HK8 HO8 hk9 hlo9 hL9
    go_wp2_with fail
    go_roundw
    · refine ⟨k + 1, pre ++ [⟨T', L', AN, cN⟩], by omega, by push_cast; rfl, Lib.hid ?_, Lib.hid hJ10, Lib.hid ?_, Lib.hid hK10, Lib.hid hL10, hz10⟩
      · rw [List.map_append, HP.out, HPN.out]; rfl
      · rw [HTN.out, hCL]; exact hS10
    · have e1 : intOf (Value.int .i64 ((k : Int) + 1)) = (k : Int) + 1 := rfl
      have e2 : intOf (Value.int .i64 (k : Int)) = (k : Int) := rfl
      rw [e1, e2]; omega
  · have hkN : k = N := by omega
    rw [hkN] at HP
    go_wp2_with fail
    go_end0
    exact ⟨⟨_, rfl⟩, m, pre, hWm, HP.out, HJK.out⟩
end Go.Proofs.Ytnaclkaapicelaa

namespace Go.Proofs.Ytnaclkaapicelaa
open Go.RowKit Go.Shelf
attribute [local go_sem] Oper.semAt_some
set_option maxRecDepth 100000
set_option linter.unusedSimpArgs false
def pgC (p : TrR × Nat) : List Value := [.int .i64 (p.2 : Nat), .slice p.1.A p.1.L.length p.1.c]
theorem pgC_length (p : TrR × Nat) : (pgC p).length = 2 := rfl
theorem infoPg : (Try.prog.info? 79).map (fun i => (i.zero, i.size, i.bytes)) = some (some (.agg #[.int .i64 0, .slice none 0 0]), 2, 32) := by kernel_rfl
theorem pgs_oneCell (l : List (TrR × Nat)) : ∀ u ∈ l.flatMap pgC, u.oneCell' = true := fun u hu => by
  obtain ⟨q, -, hq⟩ := List.mem_flatMap.1 hu
  simp only [pgC, List.mem_cons, List.not_mem_nil, or_false] at hq
  rcases hq with rfl | rfl <;> rfl
theorem goes_app_pg {W : World} {o : Oper} {a : Act} (s x : Operand) (ho : o.op = .call { callee := .builtin .append, args := #[s, x], argTypes := #[75, 75] }) (base : Nat) (u : Value) (L M : List (TrR × Nat)) (hown : OwnL W base 79 2 u pgC L) (hs : a.eval s = u)
    (B : Nat) (A : Option Addr) (m c : Nat) (hm : m = M.length) (hx : a.eval x = .slice A m c) (hr : Rd W B A (M.flatMap pgC)) (hn : L.length + M.length ≤ 1000000000) (hbase : base ≤ W.heap.size) :
    Oper.goes Try.prog o a W (fun v' W' => OwnL W' base 79 2 v' pgC (L ++ M) ∧ W.grownBy W' u.ownBlock) := by
  subst hm
  obtain ⟨i0, hi0, hz0, hz1, hz2⟩ := info_parts infoPg
  refine goes_mono (goes_app s x 75 ho base 79 i0 _ 2 32 Try.underlying75 hi0 hz0 hz1 hz2 rfl (by decide) u L.length (L.flatMap pgC) hs hown B A M.length c (M.flatMap pgC) hx (length_flatMap_const _ _ pgC_length _) hr (rd_none pgC_length (by decide) hr) (pgs_oneCell M) (by unfold maxLen; omega) (by omega) hbase) ?_
  rintro v' W' ⟨h2, h3⟩
  exact ⟨OwnL.app rfl h2, h3⟩
/-- An operation that is told what it does, in a fence of a round. -/
theorem wpListIn_goes {l n : Nat} {P : Program} {ops : Array Oper} {rest : List Oper} {o : Oper} {a : Act} {w : World} {Q : Exit → Act → World → Prop} {T : Value → World → Prop} (hw : Region.wanted o (yielded ops a.tmps) = true) (hd : ∀ c, o.op ≠ .defer c) (ha : o.about P w a.eval = none)
    (h : Oper.goes P o a w T) (k : ∀ v w', T v w' → wpListIn (Fence.wide.inRound l) n P ops Q rest (a.put o.dst v) w') : wpListIn (Fence.wide.inRound l) n P ops Q (o :: rest) a w := by
  unfold wpListIn
  rw [if_pos hw]
  refine ⟨fun f hf => (by rw [ha] at hf; cases hf), ?_⟩
  rw [Oper.semAt_plain _ _ _ hd]
  unfold Oper.goes at h
  generalize (execOp a.eval o).run P w = r at *
  cases r with
  | ok x w' =>
    cases x <;> simp only [Oper.goesUpon] at h
    case value u => exact k _ _ h
    case skip => exact k _ _ h
    case enter f args => exact ⟨fun e => (by cases e), callsIn_wide.2 (h.mono fun e w'' ⟨v, he, hh⟩ => by subst he; exact k _ _ hh)⟩
  | halt x w' => simp only [Oper.goesUpon] at h
/-- What is so between the rounds. -/
structure PI (w0 b10 : Nat) (w : World) (m : Nat) (pre : List TrR) (W : World) : Prop where
  below : Below w0 w W
  row : ∃ A1 c1, Blk W b10 75 #[.slice A1 pre.length c1] ∧ OwnL W m 79 2 (.slice A1 pre.length c1) pgC pre.zipIdx
  evs : ∀ r ∈ pre, OwnL W m 45 9 (.slice r.A r.L.length r.c) Ev.cells r.L ∧ r.L.length ≤ 22
  size : m ≤ W.heap.size
  low : b10 < m ∧ w0 ≤ m
theorem PI.keeps {w0 b10 : Nat} {w : World} {m : Nat} {pre : List TrR} {A A' : World} {row : Option Nat} {B : Nat} (h : PI w0 b10 w m pre A) (hg : A.grownBy A' row) (hB : w0 ≤ B ∧ b10 < B) (hw : w0 ≤ A.heap.size)
    (hr : ∀ r, row = some r → B ≤ r ∧ ((∃ o : Obj, A.heap[r]? = some o ∧ o.isCells = false) ∨ (r < m ∧ ∃ o : Obj, A.heap[r]? = some o ∧ o.isCells = true))) : PI w0 b10 w m pre A' := by
  have hne : ∀ b, b < B → row ≠ some b := fun b hb e => by have := (hr b e).1; omega
  obtain ⟨A1, c1, r1, r2⟩ := h.row
  exact ⟨h.below.grown hg hw (fun k e => by have := (hr k e).1; omega), ⟨A1, c1, r1.grown hg (hne _ hB.2), r2.away hg hr⟩, fun r hrr => ⟨(h.evs r hrr).1.away hg hr, (h.evs r hrr).2⟩, Nat.le_trans h.size hg.size, h.low⟩
theorem KpT.trans {B0 : Nat} {X : Nat → Prop} {A B C : World} (h : KpT B0 X A B) (k : KpT B0 X B C) : KpT B0 X A C := ⟨Nat.le_trans h.1 k.1, fun r hr hx => (k.2.1 r hr hx).trans (h.2.1 r hr hx), fun r t cs hr h1 hx => k.2.2 r t cs (h.2.2 r t cs hr h1 hx) h1 hx⟩
theorem KpT.put {B0 : Nat} {X : Nat → Prop} (W : World) (l : Nat) (o o' : Obj) (hB : B0 ≤ l) (ho : W.heap[l]? = some o) (hc : o.isCells = false) : KpT B0 X W (W.putObj l o') := ⟨(grownBy_putObj' W l o').size, fun r hr _ => World.putObj_heap_other (by omega), fun _ _ _ hr _ _ => hr.putObj ho hc⟩
theorem rows_len {xs : List TrR} {inp : Nat → Nat × Nat} {S : Nat → Int} {N : Nat} (h : xs.map TrR.core = preT inp S N) : xs.length = N := by
  have := congrArg List.length h
  rwa [List.length_map, preT_length] at this
set_option maxHeartbeats 8000000 in
theorem pages_good (s d x y : Int) (A B : Option Addr) (c c' : Nat) (a b : List Nat) (N : Nat) (w : World) (hs : U32 s) (hok : ofB d a b = false) (hN : (N : Int) = d + (min a.length b.length : Nat)) (ha : a.length ≤ 1000) (hb : b.length ≤ 1000) (ra : Rd w w.heap.size A (a.flatMap btC)) (rb : Rd w w.heap.size B (b.flatMap btC)) :
    Calls Try.prog 27 #[.agg #[.int .u32 s, .int .i64 d, .int .i64 x, .int .i64 y], .slice A a.length c, .slice B b.length c'] w fun e w' => ∃ (A' : Option Addr) (cp : Nat) (xs : List TrR), e = .returned (.tuple #[.slice A' xs.length cp, .int .i64 0]) ∧ xs.map TrR.core = preT (inpT d.toNat a b) (beginS s) N ∧
      OwnL w' w.heap.size 79 2 (.slice A' xs.length cp) pgC xs.zipIdx ∧ (∀ r ∈ xs, OwnL w' w.heap.size 45 9 (.slice r.A r.L.length r.c) Ev.cells r.L ∧ r.L.length ≤ 22) ∧ Below w.heap.size w w' := by
  have hof := fun (V : World) (hV : Below w.heap.size w V) => of_good s d x y A B c c' a b V ha hb ((ra.below hV (Nat.le_refl _)).more hV.size) ((rb.below hV (Nat.le_refl _)).more hV.size) hok
  unfold ofB badB at hok
  simp only [Bool.or_eq_false_iff, decide_eq_false_iff_not, List.any_eq_false, decide_eq_true_eq] at hok
  obtain ⟨⟨⟨h1, h2⟩, h3⟩, h4⟩ := hok
  have hd : 0 ≤ d ∧ d ≤ 8 := by omega
  have H63A := Lib.hid (show ∀ x ∈ a, x < 64 from fun x hx => by have := h3 x hx; omega)
  have H63B := Lib.hid (show ∀ x ∈ b, x < 64 from fun x hx => by have := h4 x hx; omega)
  have HOF := Lib.hid hof
  have HRA := Lib.hid ra
  have HRB := Lib.hid rb
  have HN := Lib.hid hN
  clear hof h1 h2 h3 h4 ra rb hN
  refine (callsIn_wide (n := 3)).1 ?_
  refine callsIn_of_wp_marks Try.func27 rfl trivial ?_ rfl
  simp only [Try.ntmps27, List.size_toArray, List.length_cons, List.length_nil, Nat.reduceAdd, Nat.reduceSub, Array.replicate_succ, Array.replicate_zero, List.push_toArray, List.append_toArray, List.nil_append, List.cons_append]
  refine wpIn_wide.2 ?_
  go_upto_region 1 with fail
  refine named1 (F := fun W => Code.wp _ _ _ _ W) ?_
  intro w1 k3 hb1 hz1
  have r0a := (k3).cell 0; have r0b := (k3).cell 1; have r0c := (k3).cell 2; have r0d := (k3).cell 3; have r0e := (k3).frozen 0; have r0f := (k3).frozen 1; have r0g := (k3).frozen 2; have r0h := (k3).frozen 3; have r0l := (k3).lt; simp only [List.getElem?_toArray, List.getElem?_cons_zero, List.getElem?_cons_succ] at r0a r0b r0c r0d
  clear k3
  go_upto_region 2 with (first
    | (go_at_call 68; refine (HOF.out _ hb1).mono ?_; rintro e w2 ⟨rfl, hb2⟩; have HB2 := Lib.hid hb2; clear hb2))
  obtain ⟨w3, hw3⟩ : ∃ w3, w3 = (w2.alloc (.cells #[.int .u32 s, .int .i64 d, .slice A a.length c, .slice B b.length c'] 124)) := ⟨_, rfl⟩
  have hb13 : Below w.heap.size w w3 := by rw [hw3]; exact bAlloc (bTrans hb1 HB2.out) _
  have k8 : Blk w3 w2.heap.size 124 #[.int .u32 s, .int .i64 d, .slice A a.length c, .slice B b.length c'] := by rw [hw3]; exact Blk.new _ _ _
  rw [← hw3]
  clear hw3
  have K8 := Lib.hid k8
  have HB13 := Lib.hid hb13
  have h23 : w2.heap.size < w3.heap.size := k8.lt
  clear r0a r0b r0c r0d r0e r0f r0g r0h r0l k8 hb13 hb1 hz1 HB2 HOF
  go_upto_region 5 with fail
  refine named1 (F := fun W => Code.wp _ _ _ _ W) ?_
  intro w4 k10 hb4 hz4
  obtain ⟨b10, hb10⟩ : ∃ b10, w3.heap.size = b10 := ⟨_, rfl⟩
  rw [hb10] at k10 hz4 h23 ⊢
  have K10 := Lib.hid k10
  have K84 := Lib.hid (K8.out.on hb4)
  have HB4 := Lib.hid (bTrans HB13.out hb4)
  have hw10 : w.heap.size ≤ b10 := by rw [← hb10]; exact HB13.out.size
  have HZ4 := Lib.hid hz4
  have r8a := (K84.out).cell 0; have r8b := (K84.out).cell 1; have r8c := (K84.out).cell 2; have r8d := (K84.out).cell 3; have r8e := (K84.out).frozen 0; have r8f := (K84.out).frozen 1; have r8g := (K84.out).frozen 2; have r8h := (K84.out).frozen 3; have r8l := (K84.out).lt; simp only [List.getElem?_toArray, List.getElem?_cons_zero, List.getElem?_cons_succ] at r8a r8b r8c r8d
  clear k10 hb4 hz4 hb10 K8 HB13
  have HFR := Lib.hid (fun V => frames_any s d A B a.length c b.length c' V)
  go_wp2_with (first
    | (go_at_call 69; refine (HFR.out _).mono ?_; rintro e w6 ⟨rfl, kgm, hb6⟩; have KGM := Lib.hid kgm; have HB6 := Lib.hid hb6; clear kgm hb6))
  have h46 : b10 + 1 ≤ w6.heap.size := by have := HB6.out.size; have := HZ4.out; omega
  have h0 : w.heap.size ≤ w6.heap.size := by omega
  have hN2 : N ≤ 20000 := by have := HN.out; omega
  have hgm : w4.heap.size < w6.heap.size := KGM.out.lt
  have hz4 : b10 < w4.heap.size := by have := HZ4.out; omega
  refine (wpIn_wide (n := 3)).1 ?_
  have hlow : Below w.heap.size w w6 := bTrans HB4.out HB6.out
  refine wpIn_rangeFunc_st (by decide) (gf := 110) (lb := #[.pointer (some ⟨w4.heap.size, 0, none⟩)]) rfl (enters_of Try.func110 (by kernel_rfl) rfl)
    (frames_seq 2 (by decide) s d A B c c' a b N w.heap.size (fun k => k = b10) w6 w4.heap.size hs hd HN.out ha hb H63A.out H63B.out (HRA.out.below hlow (Nat.le_refl _)) (HRB.out.below hlow (Nat.le_refl _)) h0 KGM.out (fun r e => by subst e; exact ⟨hw10, by omega, by omega⟩)) (fun _ => rfl) (fun h k => KpT.trans h k) (fun W l o o' hl ho hc => KpT.put W l o o' hl ho hc)
    (fun m pre W => PI w.heap.size b10 w m pre W) (fun m pre A A' row h hg hr => h.keeps hg (B := w6.heap.size) ⟨h0, by omega⟩ h.below.size hr)
    (fun V hg => ?start) (fun r a' V => a' = { tmps := #[.agg #[.int .u32 s, .int .i64 d, .int .i64 x, .int .i64 y], .slice A a.length c, .slice B b.length c', .pointer (some ⟨w.heap.size, 0, none⟩), undef, undef, .slice none 0 0, .int .i64 0, .pointer (some ⟨w2.heap.size, 0, none⟩), .int .i64 0, .pointer (some ⟨b10, 0, none⟩), .slice r.A r.L.length r.c, .tuple #[.agg #[.int .u32 s, .int .i64 d, .slice A a.length c, .slice B b.length c'], .int .i64 0], .agg #[.int .u32 s, .int .i64 d, .int .i64 x, .int .i64 y], .slice A a.length c, .slice B b.length c', .tuple #[.agg #[.int .u32 s, .int .i64 d, .slice A a.length c, .slice B b.length c'], .int .i64 0], .agg #[.int .u32 s, .int .i64 d, .slice A a.length c, .slice B b.length c'], .int .i64 0, .int .i64 0, .bool false, undef, .agg #[.int .u32 s, .int .i64 d, .slice A a.length c, .slice B b.length c'], .func (.func 110) #[] #[.pointer (some ⟨w4.heap.size, 0, none⟩)], .slice r.A r.L.length r.c, .agg (stCells r.T).toArray, undef, undef, undef, undef, undef, undef, undef, undef], defers := [] }) (fun r a' V l o o' h _ _ _ => h)
    ?assign (fun m pre x A l o o' h hl ho hc => ⟨h.1.putObj ho hc, h.2⟩) ?body ?done
  case start =>
    have hbA : Below w6.heap.size w6 V := ⟨hg.os, hg.tape, hg.output, hg.size, fun k hk => hg.block k hk (by simp)⟩
    exact ⟨bTrans hlow hbA, ⟨none, 0, (K10.out.on HB6.out).on hbA, OwnL.nil⟩, fun r hr => by simp at hr, Nat.le_refl _, by have := hg.size; omega, by have := hg.size; omega⟩
  case assign =>
    rintro l m pre r W K hm hI hY hK
    unfold TrR.encs
    obtain ⟨CR, hCR⟩ : ∃ CR, (stCells r.T).toArray = CR := ⟨_, rfl⟩
    rw [hCR] at hK ⊢
    have HK := Lib.hid hK
    have HI := Lib.hid hI
    have HY := Lib.hid hY
    clear hK hI hY
    gi_wp2_with fail
    exact HK.out _ W ⟨Nat.le_refl _, fun k o _ hk _ => hk⟩ ⟨Nat.le_refl _, fun _ _ _ => rfl, fun _ _ _ h _ _ => h⟩ HI.out HY.out rfl
  case body =>
    rintro l m pre r a' W hm hI ⟨hO, hl22, hlt⟩ rfl
    obtain ⟨A1, c1, r1, r2⟩ := hI.row
    have hBW : w6.heap.size ≤ W.heap.size := Nat.le_trans hm hI.size
    obtain ⟨n1, hn1⟩ : ∃ n1, pre.length = n1 := ⟨_, rfl⟩
    obtain ⟨j, hj⟩ : ∃ j, r.L.length = j := ⟨_, rfl⟩
    rw [hn1] at r1 r2
    have c10 := r1.cell 0
    have f10 := r1.frozen 0
    have l10 := r1.lt
    simp only [List.getElem?_toArray, List.getElem?_cons_zero] at c10
    obtain ⟨CR, hCR⟩ : ∃ CR, (stCells r.T).toArray = CR := ⟨_, rfl⟩
    have R1 := Lib.hid r1
    have R2 := Lib.hid r2
    have HI := Lib.hid hI
    have HO := Lib.hid hO
    have HJ := Lib.hid hj
    have hln : pre.zipIdx.length = n1 := by rw [List.length_zipIdx, hn1]
    have HLN := Lib.hid hln
    have HLN2 := Lib.hid hn1
    have hpc : pgC (r, n1) = [.int .i64 (n1 : Nat), .slice r.A j r.c] := by unfold pgC; rw [hj]
    have HPC := Lib.hid hpc
    rw [hCR, hj]
    clear r1 r2 hI hO hj hln hpc
    gi_wp2_with (first
      | (refine wpListIn_goes rfl (by intro c h; cases h) rfl (goes_app_pg (.tmp 26) (.tmp 31) rfl m (.slice A1 n1 c1) pre.zipIdx [(r, n1)] (R2.out.alloc _) rfl (W.heap.size + 1) (some ⟨W.heap.size, 0, none⟩) 1 1 rfl rfl ?_ ?_ ?_) ?_
         · have := rd_new W #[.int .i64 (n1 : Nat), .slice r.A j r.c] 79 W.heap.size rfl (W.heap.size + 1) (by omega)
           simp only [List.flatMap_cons, List.flatMap_nil, List.append_nil]
           rw [HPC.out]
           exact this
         · rw [HLN.out, List.length_singleton]; omega
         · rw [World.size_alloc]; exact Nat.le_succ_of_le HI.out.size
         rintro v7 w7 ⟨ho7, hg7⟩
         obtain ⟨A7, c7, e7⟩ := ho7.shape
         rw [List.length_append, HLN.out, List.length_singleton] at e7
         subst e7
         have hne : ∀ b, b < m → (Value.slice A1 n1 c1).ownBlock ≠ some b := fun b hb => R2.out.ne_low hb
         have k10 : Blk w7 b10 75 #[.slice A1 n1 c1] := (R1.out.alloc _).grown hg7 (hne _ HI.out.low.1)
         have q10 := k10.cell 0
         have p10 := k10.frozen 0
         have ql10 := k10.lt
         simp only [List.getElem?_toArray, List.getElem?_cons_zero] at q10
         have HO7 := Lib.hid ho7
         have HG7 := Lib.hid hg7
         have K10' := Lib.hid k10
         clear ho7 hg7 k10 hne))
    have hb10m := HI.out.low.1
    have hwm := HI.out.low.2
    have hlow7 : ∀ k, k < W.heap.size → (Value.slice A1 n1 c1).ownBlock ≠ some k → k ≠ b10 → (w7.setCell ⟨b10, 0, none⟩ (.slice A7 (n1 + 1) c7)).heap[k]? = W.heap[k]? := fun k hk h1 h2 =>
      (Below.heap_setCell w7 _ _ k h2).trans ((HG7.out.block k (by rw [World.size_alloc]; omega) (fun e => h1 e.symm)).trans (Below.heap_alloc W _ k hk))
    have hz7 : W.heap.size ≤ (w7.setCell ⟨b10, 0, none⟩ (.slice A7 (n1 + 1) c7)).heap.size := by
      have := HG7.out.size
      rw [World.size_alloc] at this
      simp only [World.size_setCell]; omega
    have hown : ∀ (E : TypeId) (A3 : Option Addr) (n3 c3 : Nat) (L3 : List Ev), E ≠ 79 → OwnL W m E 9 (.slice A3 n3 c3) Ev.cells L3 → OwnL (w7.setCell ⟨b10, 0, none⟩ (.slice A7 (n1 + 1) c7)) m E 9 (.slice A3 n3 c3) Ev.cells L3 := fun E A3 n3 c3 L3 hE h3 => by
      refine (OwnL.kept (h3.alloc _) HG7.out ?_).farG (OwnL.ne_low (OwnL.kept (h3.alloc _) HG7.out ?_) hb10m) 0 _
      all_goals
        cases hb : (Value.slice A1 n1 c1).ownBlock with
        | none => cases hb3 : (Value.slice A3 n3 c3).ownBlock with
          | none => exact .inl rfl
          | some q => exact .inr (by simp)
        | some q => exact .inr (OwnL.apart h3 R2.out hE hb)
    refine ⟨⟨hz7, fun k o hk ho hc => ?_⟩, ⟨hz7, fun k hk hx => ?_, fun k t cs hk ht hx => ?_⟩, ?_⟩
    · refine (hlow7 k (Array.getElem?_eq_some_iff.1 ho).1 (fun e => ?_) (fun e => by omega)).trans ho
      obtain ⟨-, cur, fz, q⟩ := R2.out.isRow e
      rw [q] at ho; cases ho; cases hc
    · exact hlow7 k (by omega) (R2.out.ne_low (by omega)) hx
    · refine (hlow7 k hk.lt (fun e => ?_) hx).trans hk
      obtain ⟨-, cur, fz, q⟩ := R2.out.isRow e
      have h' : W.heap[k]? = some (.cells cs t (0, 0)) := hk
      rw [h'] at q; cases q
      exact ht rfl
    · refine ⟨?_, ⟨A7, c7, ?_, ?_⟩, fun r' hr' => ?_, Nat.le_trans HI.out.size hz7, HI.out.low⟩
      · exact bSetG ((bAlloc HI.out.below _).grown HG7.out (by rw [World.size_alloc]; have := HI.out.below.size; omega) (fun k e => Nat.le_trans hwm (R2.out.base_le k e))) hw10 _ _
      · rw [List.length_append, HLN2.out, List.length_singleton]
        exact K10'.out.set 0 _
      · rw [List.length_append, HLN2.out, List.length_singleton, List.zipIdx_append, HLN2.out]
        refine OwnL.farG ?_ (HO7.out.ne_low hb10m) 0 _
        simpa using HO7.out
      · rcases List.mem_append.1 hr' with hr' | hr'
        · exact ⟨hown _ _ _ _ _ (by decide) (HI.out.evs r' hr').1, (HI.out.evs r' hr').2⟩
        · rw [List.mem_singleton.1 hr']
          refine ⟨?_, hl22⟩
          exact hown _ _ _ _ _ (by decide) HO.out
  case done =>
    rintro D m xs W hD hS hI hK
    obtain ⟨A1, c1, r1, r2⟩ := hI.row
    have hB := hI.below
    have hev := hI.evs
    obtain ⟨hm, hm0⟩ := hI.low
    obtain ⟨n1, hn1⟩ : ∃ n1, xs.length = n1 := ⟨_, rfl⟩
    rw [hn1] at r1 r2
    have l10 := r1.lt
    have c10 := r1.cell 0
    simp only [List.getElem?_toArray, List.getElem?_cons_zero] at c10
    have HEV := Lib.hid hev
    have HR2 := Lib.hid r2
    have HN1 := Lib.hid hn1
    have HS := Lib.hid hS
    have HBB := Lib.hid hB
    have HKK := Lib.hid hK
    clear hI r1 r2 hS hB hev hn1 hK
    go_wp2_with fail
    refine ⟨by simp, .inl ⟨_, _, rfl, run_takeDeferred HKK.out, ?_⟩⟩
    have hD9 : w.heap.size ≤ D := Nat.le_trans h0 hD
    refine ⟨.tuple #[.slice A1 n1 c1, .int .i64 0], ?_, ⟨A1, c1, xs, by rw [HN1.out], HS.out, ?_, fun r hr => ⟨(OwnL.putObj (HEV.out r hr).1 HKK.out rfl).more hm0, (HEV.out r hr).2⟩, ?_⟩⟩
    · simp [results, Try.results27, go_sem]
    · rw [HN1.out]
      exact (HR2.out.putObj HKK.out rfl).more hm0
    · exact HBB.out.grown (grownBy_putObj' W D (.deferred none)) HBB.out.size (fun k e => by cases e; exact hD9)
end Go.Proofs.Ytnaclkaapicelaa

namespace Go.Proofs.Ytnaclkaapicelaa
open Go.RowKit Go.WideShapes Go.ChangeShapes
set_option maxRecDepth 100000
set_option linter.unusedSimpArgs false
set_option maxHeartbeats 2000000 in
theorem pages_bad (s d x y : Int) (A B : Option Addr) (c c' : Nat) (a b : List Nat) (w : World) (hok : ofB d a b = true) (ha : a.length ≤ 1000) (hb : b.length ≤ 1000) (ra : Rd w w.heap.size A (a.flatMap btC)) (rb : Rd w w.heap.size B (b.flatMap btC)) :
    Calls Try.prog 27 #[.agg #[.int .u32 s, .int .i64 d, .int .i64 x, .int .i64 y], .slice A a.length c, .slice B b.length c'] w fun e w' => e = .returned (.tuple #[.slice none 0 0, .int .i64 1]) ∧ Below w.heap.size w w' := by
  have HOF := Lib.hid (fun (V : World) (hV : Below w.heap.size w V) => of_bad s d x y A B c c' a b V ha hb ((ra.below hV (Nat.le_refl _)).more hV.size) ((rb.below hV (Nat.le_refl _)).more hV.size) hok)
  clear ra rb hok
  refine (callsIn_wide (n := 3)).1 ?_
  refine callsIn_of_wp_marks Try.func27 rfl trivial ?_ rfl
  simp only [Try.ntmps27, List.size_toArray, List.length_cons, List.length_nil, Nat.reduceAdd, Nat.reduceSub, Array.replicate_succ, Array.replicate_zero, List.push_toArray, List.append_toArray, List.nil_append, List.cons_append]
  refine wpIn_wide.2 ?_
  go_upto_region 1 with fail
  refine named1 (F := fun W => Code.wp _ _ _ _ W) ?_
  intro w1 k3 hb1 hz1
  have r0a := (k3).cell 0; have r0b := (k3).cell 1; have r0c := (k3).cell 2; have r0d := (k3).cell 3; have r0e := (k3).frozen 0; have r0f := (k3).frozen 1; have r0g := (k3).frozen 2; have r0h := (k3).frozen 3; have r0l := (k3).lt; simp only [List.getElem?_toArray, List.getElem?_cons_zero, List.getElem?_cons_succ] at r0a r0b r0c r0d
  clear k3
  go_wp2_with (first
    | (go_at_call 68; refine (HOF.out _ hb1).mono ?_; rintro e w2 ⟨rfl, hb2⟩; have HB2 := Lib.hid hb2; clear hb2))
  have hb9 : Below w.heap.size w (w2.alloc (.cells #[.int .u32 0, .int .i64 0, .slice none 0 0, .slice none 0 0] 124)) := bAlloc (bTrans hb1 HB2.out) _
  refine ⟨.tuple #[.slice none 0 0, .int .i64 1], by simp [results, Try.results27, go_sem], rfl, hb9⟩
set_option maxHeartbeats 2000000 in
theorem awake26_any (w : World) : Calls Try.prog 26 #[] w fun e w' => e = .returned (.bool true) ∧ Below w.heap.size w w' := by
  have hp := fun (V : World) => pages_good 0 2 0 0 none none 0 0 [] [] 2 V (by unfold U32; omega) rfl rfl (by simp) (by simp) (Rd.nil _ _ _) (Rd.nil _ _ _)
  have HP := Lib.hid hp
  clear hp
  go_enter Try.func26, Try.ntmps26
  go_upto_region 2 with (first
    | (go_at_call 27; refine (HP.out _).mono ?_; rintro e w2 ⟨A', cp, xs, rfl, hc, ho, -, hb2⟩; have HO := Lib.hid ho; have hl2 := rows_len hc; clear ho hc))
  obtain ⟨g, rfl, -, -, hlt⟩ := HO.out.formA (by rw [List.length_zipIdx, hl2]; decide)
  rw [hl2] at HO
  have hcell := HO.out.cell pgC_length (k := 1) (j := 0) (u := .int .i64 1) (by rw [List.length_zipIdx, hl2]; decide) (by simp [pgC])
  simp only [Nat.one_mul, Nat.add_zero] at hcell
  clear HO
  go_wp2
  go_ret
  exact ⟨rfl, hb2⟩
section
variable {H : Type} {enc : TypeId × Value → H} {w : World} {held : Bool} {r : Reach} {b0 : Nat} {v : Value} {d : DataW H} {p : List MemPlace}
theorem byte_kinds : kindsOf Try.prog 100 5 = some [.u8] := by kernel_rfl
theorem cellsByte : Try.prog.cellsOf 5 = 1 := by kernel_rfl
theorem cfg_kinds : kindsOf Try.prog 100 73 = some [.u32, .i64, .i64, .i64] := by kernel_rfl
theorem cellsCfg : Try.prog.cellsOf 73 = 4 := by kernel_rfl
theorem open_bytes (hv : Value.okWide Try.prog w r b0 74 v) (h : DataW.Trod enc Try.prog w 0 (fun _ => true) held 74 v d p) :
    ∃ (A : Option Addr) (c : Nat) (l : List Nat), v = .slice A l.length c ∧ (l.length ≤ c ∧ c ≤ maxLen) ∧ Rd w w.heap.size A (l.flatMap btC) ∧ ∀ q ∈ l, q < 256 := by
  obtain ⟨A, n, c, css, rfl, rfl, hn, hm, hr, hall⟩ := open_rows Try.underlying74 cellsByte (by omega) hv h
  obtain ⟨l, rfl, hfit⟩ := list_of_forms (f := btC) (p := fun q => q < 256) (l := css) (fun cs hcs => by
    obtain ⟨-, fuel, y, hy⟩ := hall cs hcs
    obtain ⟨X, e1, e2, e3⟩ := trod_ints 100 5 _ byte_kinds (by rw [cellsByte]; rfl) fuel _ _ hy
    match X, e2 with
    | [a], _ =>
      have ha := bounds_u8 (e3 0 .u8 a rfl rfl)
      refine ⟨a.toNat, ?_, by omega⟩
      rw [e1]
      unfold btC ivals
      simp only [List.zipWith_cons_cons, List.zipWith_nil_left]
      rw [Int.toNat_of_nonneg ha.1])
  refine ⟨A, c, l, by rw [List.length_map], ⟨by rw [List.length_map] at hn; omega, hm⟩, ?_, hfit⟩
  rw [List.flatMap_def]; exact hr
theorem open_cfg (hv : Value.okWide Try.prog w r b0 73 v) (h : DataW.Trod enc Try.prog w 0 (fun _ => true) held 73 v d p) : ∃ s d' x y : Int, v = .agg #[.int .u32 s, .int .i64 d', .int .i64 x, .int .i64 y] ∧ U32 s ∧ I64 d' := by
  obtain ⟨cs, rfl, -⟩ := okWide_struct Try.underlying73 hv
  obtain ⟨fuel, hf⟩ := h
  obtain ⟨X, e1, e2, e3⟩ := trod_ints 100 73 _ cfg_kinds (by rw [cellsCfg]; rfl) fuel _ _ hf
  match X, e2 with
  | [a, b, c, e], _ =>
    refine ⟨a, b, c, e, ?_, bounds_u32 (e3 0 .u32 a rfl rfl), bounds_i64 (e3 1 .i64 b rfl rfl)⟩
    have : cs = #[.int .u32 a, .int .i64 b, .int .i64 c, .int .i64 e] := by
      apply Array.ext'
      rw [show (Value.agg cs).cells.toList = cs.toList from rfl] at e1
      rw [e1]
      rfl
    rw [this]
end
end Go.Proofs.Ytnaclkaapicelaa

namespace Go.Proofs.Ytnaclkaapicelaa
open Go.RowKit
set_option maxRecDepth 100000
set_option linter.unusedSimpArgs false
theorem cut_of (z : Int) (n : Nat) (hn : n ≤ 250) : ∃ i : Nat, wrap64 ((IntKind.u64.wrap z).tmod ((n : Int) + 1)) = i ∧ i ≤ n := by
  obtain ⟨u, hu⟩ : ∃ u, IntKind.u64.wrap z = u := ⟨_, rfl⟩
  have h0 : 0 ≤ u := by
    rw [← hu]
    simp [IntKind.wrap, IntKind.signed, IntKind.bits]
    omega
  rw [hu, Int.tmod_eq_emod_of_nonneg h0]
  have q1 := Int.emod_nonneg u (show (n : Int) + 1 ≠ 0 by omega)
  have q2 := Int.emod_lt_of_pos u (show (0 : Int) < (n : Int) + 1 by omega)
  exact ⟨(u % (n + 1)).toNat, by unfold wrap64; omega, by omega⟩
theorem Rd.pre {w : World} {B : Nat} {A : Option Addr} {xs ys : List Value} (h : Rd w B A (xs ++ ys)) : Rd w B A xs := fun hn => by
  obtain ⟨b, off, e, hb, hc⟩ := h (by simp [hn])
  exact ⟨b, off, e, hb, fun i u hu => hc i u (by rw [List.getElem?_append_left (List.getElem?_eq_some_iff.1 hu).1]; exact hu)⟩
theorem Rd.takeB {w : World} {B : Nat} {A : Option Addr} {l : List Nat} (h : Rd w B A (l.flatMap btC)) (i : Nat) : Rd w B A ((l.take i).flatMap btC) := by
  have e : l.flatMap btC = (l.take i).flatMap btC ++ (l.drop i).flatMap btC := by rw [← List.flatMap_append, List.take_append_drop]
  rw [e] at h
  exact h.pre
theorem badB_take {l : List Nat} (h : badB l = false) (i : Nat) : badB (l.take i) = false := by
  unfold badB at *
  rw [List.any_eq_false] at *
  exact fun x hx => h x (List.mem_of_mem_take hx)
theorem ofB_take {d : Int} {a b : List Nat} (h : ofB d a b = false) (i k : Nat) : ofB d (a.take i) (b.take k) = false := by
  unfold ofB at *
  simp only [Bool.or_eq_false_iff] at *
  exact ⟨⟨h.1.1, badB_take h.1.2 i⟩, badB_take h.2 k⟩
/-- What Pages answers, told ahead. -/
def pgTold (w : World) (inp : Nat → Nat × Nat) (S : Nat → Int) (N : Nat) : Told :=
  ⟨fun v => ∃ A c, v = .tuple #[.slice A N c, .int .i64 0], fun v W => ∀ A c, v = .tuple #[.slice A N c, .int .i64 0] → ∃ xs : List TrR, xs.map TrR.core = preT inp S N ∧ OwnL W w.heap.size 79 2 (.slice A N c) pgC xs.zipIdx ∧ ∀ r ∈ xs, OwnL W w.heap.size 45 9 (.slice r.A r.L.length r.c) Ev.cells r.L ∧ r.L.length ≤ 22⟩
theorem pgTold_st {w : World} {inp : Nat → Nat × Nat} {S : Nat → Int} {N : Nat} : ∀ v W U, (pgTold w inp S N).R v W → Grown W U → (pgTold w inp S N).R v U := fun _ _ _ h k A c hv => by
  obtain ⟨xs, h1, h2, h3⟩ := h A c hv
  exact ⟨xs, h1, h2.below k, fun r hr => ⟨(h3 r hr).1.below k, (h3 r hr).2⟩⟩
section
variable {s d x y cut other : Int} {A B : Option Addr} {c c' : Nat} {a b : List Nat} {w : World}
set_option maxHeartbeats 2000000 in
theorem grows_1 (h : 250 < a.length ∨ 250 < b.length) : Calls Try.prog 8 #[.agg #[.int .u32 s, .int .i64 d, .int .i64 x, .int .i64 y], .slice A a.length c, .slice B b.length c', .int .i64 cut, .int .i64 other] w fun e w' => e = .returned (.bool true) ∧ Below w.heap.size w w' := by
  obtain ⟨n, hn⟩ : ∃ n, a.length = n := ⟨_, rfl⟩
  obtain ⟨m, hm⟩ : ∃ m, b.length = m := ⟨_, rfl⟩
  rw [hn, hm] at h ⊢
  by_cases h1 : 250 < n
  · clear h hn hm
    go_enter Try.func8, Try.ntmps8
    go_upto_region 1 with fail
    refine named1 (F := fun W => Code.wp _ _ _ _ W) ?_
    intro w1 k5 hb1 hz1
    have K5 := Lib.hid k5
    clear k5 hz1
    go_upto_region 3 with (first | (go_at_call 26; refine (awake26_any _).mono ?_; rintro e w2 ⟨rfl, hb2⟩))
    have hbb := bTrans hb1 hb2
    have K52 := Lib.hid (K5.out.on hb2)
    clear hb1 hb2 K5
    go_wp2
    go_ret
    exact ⟨rfl, hbb⟩
  · have h2 : 250 < m := by omega
    clear h hn hm
    go_enter Try.func8, Try.ntmps8
    go_upto_region 1 with fail
    refine named1 (F := fun W => Code.wp _ _ _ _ W) ?_
    intro w1 k5 hb1 hz1
    have K5 := Lib.hid k5
    clear k5 hz1
    go_upto_region 3 with (first | (go_at_call 26; refine (awake26_any _).mono ?_; rintro e w2 ⟨rfl, hb2⟩))
    have hbb := bTrans hb1 hb2
    have K52 := Lib.hid (K5.out.on hb2)
    clear hb1 hb2 K5
    go_wp2
    go_ret
    exact ⟨rfl, hbb⟩
set_option maxHeartbeats 2000000 in
theorem grows_2 (ha : a.length ≤ 250) (hb : b.length ≤ 250) (ra : Rd w w.heap.size A (a.flatMap btC)) (rb : Rd w w.heap.size B (b.flatMap btC)) (hok : ofB d a b = true) : Calls Try.prog 8 #[.agg #[.int .u32 s, .int .i64 d, .int .i64 x, .int .i64 y], .slice A a.length c, .slice B b.length c', .int .i64 cut, .int .i64 other] w fun e w' => e = .returned (.bool true) ∧ Below w.heap.size w w' := by
  have HP := Lib.hid (fun V (hV : Below w.heap.size w V) => pages_bad s d x y A B c c' a b V hok (by omega) (by omega) ((ra.below hV (Nat.le_refl _)).more hV.size) ((rb.below hV (Nat.le_refl _)).more hV.size))
  obtain ⟨n, hn⟩ : ∃ n, a.length = n := ⟨_, rfl⟩
  obtain ⟨m, hm⟩ : ∃ m, b.length = m := ⟨_, rfl⟩
  rw [hn] at ha HP ⊢
  rw [hm] at hb HP ⊢
  clear ra rb hok hn hm
  go_enter Try.func8, Try.ntmps8
  go_upto_region 1 with fail
  refine named1 (F := fun W => Code.wp _ _ _ _ W) ?_
  intro w1 k5 hb1 hz1
  have K5 := Lib.hid k5
  clear k5 hz1
  go_upto_region 3 with (first | (go_at_call 26; refine (awake26_any _).mono ?_; rintro e w2 ⟨rfl, hb2⟩))
  have hbb := bTrans hb1 hb2
  have K52 := Lib.hid (K5.out.on hb2)
  clear hb1 hb2 K5
  have r5a := (K52.out).cell 0; have r5b := (K52.out).cell 1; have r5c := (K52.out).cell 2; have r5d := (K52.out).cell 3; have r5e := (K52.out).frozen 0; have r5f := (K52.out).frozen 1; have r5g := (K52.out).frozen 2; have r5h := (K52.out).frozen 3; have r5l := (K52.out).lt; simp only [List.getElem?_toArray, List.getElem?_cons_zero, List.getElem?_cons_succ] at r5a r5b r5c r5d
  go_wp2_with (first | (go_at_call 27; refine (HP.out _ hbb).mono ?_; rintro e w3 ⟨rfl, hb3⟩))
  go_ret
  exact ⟨rfl, bTrans hbb hb3⟩
set_option maxHeartbeats 4000000 in
theorem grows_3 (hs : U32 s) (ha : a.length ≤ 250) (hb : b.length ≤ 250) (hc : a.length ≤ c) (hc' : b.length ≤ c') (ra : Rd w w.heap.size A (a.flatMap btC)) (rb : Rd w w.heap.size B (b.flatMap btC)) (hok : ofB d a b = false) : Calls Try.prog 8 #[.agg #[.int .u32 s, .int .i64 d, .int .i64 x, .int .i64 y], .slice A a.length c, .slice B b.length c', .int .i64 cut, .int .i64 other] w fun e w' => e = .returned (.bool true) ∧ Below w.heap.size w w' := by
  have hd : 0 ≤ d ∧ d ≤ 8 := by
    unfold ofB at hok
    simp only [Bool.or_eq_false_iff, decide_eq_false_iff_not] at hok
    omega
  obtain ⟨N, hN⟩ : ∃ N : Nat, (N : Int) = d + (min a.length b.length : Nat) := ⟨(d + (min a.length b.length : Nat)).toNat, by omega⟩
  have HP := Lib.hid (fun V (hV : Below w.heap.size w V) => pages_good s d x y A B c c' a b N V hs hok hN (by omega) (by omega) ((ra.below hV (Nat.le_refl _)).more hV.size) ((rb.below hV (Nat.le_refl _)).more hV.size))
  have HRA := Lib.hid ra
  have HRB := Lib.hid rb
  have HOK := Lib.hid hok
  have HN := Lib.hid hN
  obtain ⟨n, hn⟩ : ∃ n, a.length = n := ⟨_, rfl⟩
  obtain ⟨m, hm⟩ : ∃ m, b.length = m := ⟨_, rfl⟩
  rw [hn] at ha HP HN hc ⊢
  rw [hm] at hb HP HN hc' ⊢
  obtain ⟨i, hic, hin⟩ := cut_of cut n ha
  obtain ⟨k, hkc, hkm⟩ := cut_of other m hb
  obtain ⟨N2, hN2⟩ : ∃ N2 : Nat, (N2 : Int) = d + (min i k : Nat) := ⟨(d + (min i k : Nat)).toNat, by omega⟩
  have hP2 := fun V (hV : Below w.heap.size w V) => pages_good s d x y A B c c' (a.take i) (b.take k) N2 V hs (ofB_take HOK.out i k) (by rw [List.length_take, List.length_take, hn, hm]; omega) (by rw [List.length_take]; omega) (by rw [List.length_take]; omega) (((HRA.out.takeB i).below hV (Nat.le_refl _)).more hV.size) (((HRB.out.takeB k).below hV (Nat.le_refl _)).more hV.size)
  rw [show (a.take i).length = i from by rw [List.length_take]; omega, show (b.take k).length = k from by rw [List.length_take]; omega] at hP2
  have HP2 : Hid (∀ W V, Below w.heap.size w V → Grown W V → Calls Try.prog 27 #[.agg #[.int .u32 s, .int .i64 d, .int .i64 x, .int .i64 y], .slice A i c, .slice B k c'] V fun e w' => ∃ v, e = .returned v ∧ ((pgTold W (inpT d.toNat (a.take i) (b.take k)) (beginS s) N2).S v ∧ (pgTold W (inpT d.toNat (a.take i) (b.take k)) (beginS s) N2).R v w') ∧ Grown V w') := Lib.hid (fun W V hV hg => (hP2 V hV).mono (by
    rintro e w' ⟨A', cp, xs, rfl, hc, ho, he, hb⟩
    rw [rows_len hc] at ho ⊢
    refine ⟨_, rfl, ⟨⟨A', cp, rfl⟩, fun A'' c'' hv => ?_⟩, hb⟩
    simp only [Value.tuple.injEq, Array.mk.injEq, List.cons.injEq, Value.slice.injEq, true_and, and_true] at hv
    obtain ⟨rfl, rfl⟩ := hv
    exact ⟨xs, hc, ho.more hg.size, fun r hr => ⟨(he r hr).1.more hg.size, (he r hr).2⟩⟩))
  have HN22 := Lib.hid hN2
  have HNN := Lib.hid hn
  have HMM := Lib.hid hm
  clear ra rb hok hn hm hN hN2 hP2
  go_enter Try.func8, Try.ntmps8
  go_upto_region 1 with fail
  refine named1 (F := fun W => Code.wp _ _ _ _ W) ?_
  intro w1 k5 hb1 hz1
  have K5 := Lib.hid k5
  clear k5 hz1
  go_upto_region 3 with (first | (go_at_call 26; refine (awake26_any _).mono ?_; rintro e w2 ⟨rfl, hb2⟩))
  have hbb := bTrans hb1 hb2
  have K52 := Lib.hid (K5.out.on hb2)
  clear hb1 hb2 K5
  have r5a := (K52.out).cell 0; have r5b := (K52.out).cell 1; have r5c := (K52.out).cell 2; have r5d := (K52.out).cell 3; have r5e := (K52.out).frozen 0; have r5f := (K52.out).frozen 1; have r5g := (K52.out).frozen 2; have r5h := (K52.out).frozen 3; have r5l := (K52.out).lt; simp only [List.getElem?_toArray, List.getElem?_cons_zero, List.getElem?_cons_succ] at r5a r5b r5c r5d
  go_upto_region 8 with (first | (go_at_call 27; refine (HP.out _ hbb).mono ?_; rintro e w3 ⟨A1, c1, xs, rfl, hcore, ho, hev, hb3⟩; have HC := Lib.hid hcore; have HO := Lib.hid ho; have HE := Lib.hid hev; have hlx := Lib.hid (rows_len hcore); clear hcore ho hev))
  refine wp_region_mild (by kernel_rfl) (by kernel_rfl) ?_
  repeat (go_big_quiet_step (fail))
  refine wpQuiet_nil ?_
  intro w4 hw'
  obtain ⟨⟨wq, k4⟩, hw''⟩ := hw'
  subst hw''
  simp only [hic, hkc]
  rw [hlx.out] at HO
  obtain ⟨W4, hW4⟩ : ∃ W4, w4 = W4 := ⟨_, rfl⟩
  have hb34 := bTrans hbb (bTrans hb3 k4)
  have K54 := Lib.hid (K52.out.on (bTrans hb3 k4))
  have HO4 := Lib.hid (HO.out.below k4)
  have HE4 := Lib.hid (fun r hr => (⟨(HE.out r hr).1.below k4, (HE.out r hr).2⟩ : OwnL w4 _ 45 9 (.slice r.A r.L.length r.c) Ev.cells r.L ∧ r.L.length ≤ 22))
  rw [hW4] at hb34 K54 HO4 HE4
  first | rw [hW4] | (show Exit.then _ _ _ _ w4; rw [hW4])
  clear r5a r5b r5c r5d r5e r5f r5g r5h r5l
  have r5a := (K54.out).cell 0; have r5b := (K54.out).cell 1; have r5c := (K54.out).cell 2; have r5d := (K54.out).cell 3; have r5e := (K54.out).frozen 0; have r5f := (K54.out).frozen 1; have r5g := (K54.out).frozen 2; have r5h := (K54.out).frozen 3; have r5l := (K54.out).lt; simp only [List.getElem?_toArray, List.getElem?_cons_zero, List.getElem?_cons_succ] at r5a r5b r5c r5d
  clear hW4 k4 hb3 HO HE K52 HP hic hkc
  have hnc : i ≤ c := by omega
  have hmc : k ≤ c' := by omega
  go_upto_region 9 with fail
  have hKp := Keeps.base W4
  refine wp_region_mixedT [.held, .pure, .pure, .pure, .pure, .pure, .pure, .make, .pure, .pure, .pure, .pure, .pure] (fun _ => pgTold W4 (inpT d.toNat (a.take i) (b.take k)) (beginS s) N2) (by kernel_rfl) (by kernel_rfl) ?_
  repeat (first | (refine mix_pure rfl rfl rfl (fun K hK => ?_); go_big_quiet_op; refine hK _ ?_; clear hK K) | (refine mix_held rfl rfl rfl (by assumption) (fun K hK => ?_); go_big_quiet_op; refine hK _ ?_; clear hK K))
  refine mix_make rfl rfl (by assumption) pgTold_st (fun V hV => ?_) ?_
  · have HS2 := Lib.hid (HP2.out W4 V (bTrans hb34 hV) hV)
    go_simp
    exact HS2.out
  rintro v ⟨A2, c2, rfl⟩ hKp2
  simp only [Act.put, List.setIfInBounds_toArray, List.set_cons_zero, List.set_cons_succ]
  repeat (first | (refine mix_pure rfl rfl rfl (fun K hK => ?_); go_big_quiet_op; refine hK _ ?_; clear hK K) | (refine mix_held rfl rfl rfl (by assumption) (fun K hK => ?_); go_big_quiet_op; refine hK _ ?_; clear hK K))
  refine mix_nil ?_
  rintro W5 ⟨hg5, hR⟩
  obtain ⟨ys, hcy, hoy, hey⟩ := hR A2 c2 rfl
  have hg5 : Grown W4 W5 := hg5
  have HO5 := Lib.hid (HO4.out.below hg5)
  have HE5 := Lib.hid (fun r hr => (⟨(HE4.out r hr).1.below hg5, (HE4.out r hr).2⟩ : OwnL W5 _ 45 9 (.slice r.A r.L.length r.c) Ev.cells r.L ∧ r.L.length ≤ 22))
  have HY := Lib.hid hoy
  have HF := Lib.hid hey
  have hb5 := bTrans hb34 hg5
  have hN2N : N2 ≤ N := by have := HN.out; have := HN22.out; omega
  have hsame : ∀ j (h1 : j < ys.length) (h2 : j < xs.length), ys[j].L = xs[j].L := fun j h1 h2 => by
    have hy2 := rows_len hcy
    have e1 : (ys.map TrR.core)[j]? = some (rdT (inpT d.toNat (a.take i) (b.take k)) (beginS s) j) := by rw [hcy]; exact preT_get _ _ _ _ (by omega)
    have e2 : (xs.map TrR.core)[j]? = some (rdT (inpT d.toNat a b) (beginS s) j) := by rw [HC.out]; exact preT_get _ _ _ _ (by rw [← hlx.out]; exact h2)
    have e3 : rdT (inpT d.toNat (a.take i) (b.take k)) (beginS s) j = rdT (inpT d.toNat a b) (beginS s) j := rdT_same j (fun q hq => inpT_cut (by have := HN22.out; omega))
    rw [e3, ← e2, List.getElem?_map, List.getElem?_map, List.getElem?_eq_getElem h1, List.getElem?_eq_getElem h2] at e1
    simp only [Option.map_some, Option.some.injEq] at e1
    exact congrArg Prod.snd e1
  have HSM := Lib.hid hsame
  have hly := Lib.hid (rows_len hcy)
  clear hg5 hR hcy hoy hey hKp hKp2 HO4 HE4 hb34 K54 HP2 r5a r5b r5c r5d r5e r5f r5g r5h r5l hsame HC
  rw [hlx.out]
  go_upto_region 12 with fail
  have hN2b : N2 ≤ 1000 := by have := HN22.out; omega
  clear HNN HMM HN HN22 HRA HRB HOK hnc hmc hin hkm ha hb hc hc' hs hd
  go_wp2_with fail
  go_loopw [17] (fun v wr => ∃ j : Nat, j ≤ N2 ∧ v = .int .i64 j ∧ Below W5.heap.size W5 wr) (fun v _ => N2 - (intOf v).toNat)
  case atStart => exact ⟨0, Nat.zero_le _, rfl, Below.refl _ _⟩
  case round =>
    obtain ⟨j, hj, rfl, hbw⟩ := hrel
    by_cases hlt : j < N2
    · have hjy : j < ys.length := by have := hly.out; omega
      have hjx : j < xs.length := by have := hlx.out; omega
      have oy := HY.out.below hbw
      have ox := HO5.out.below hbw
      obtain ⟨g2, rfl, -, -, hg2⟩ := oy.formA (by rw [List.length_zipIdx]; omega)
      obtain ⟨g1, rfl, -, -, hg1⟩ := ox.formA (by rw [List.length_zipIdx]; omega)
      have y0 := oy.cell pgC_length (k := j) (j := 0) (u := .int .i64 j) (by rw [List.length_zipIdx]; exact hjy) (by simp [pgC])
      have y1 := oy.cell pgC_length (k := j) (j := 1) (u := .slice ys[j].A ys[j].L.length ys[j].c) (by rw [List.length_zipIdx]; exact hjy) (by simp [pgC])
      have x0 := ox.cell pgC_length (k := j) (j := 0) (u := .int .i64 j) (by rw [List.length_zipIdx]; exact hjx) (by simp [pgC])
      have x1 := ox.cell pgC_length (k := j) (j := 1) (u := .slice xs[j].A xs[j].L.length xs[j].c) (by rw [List.length_zipIdx]; exact hjx) (by simp [pgC])
      simp only [Nat.add_zero] at y0 x0
      have ey := HF.out ys[j] (List.getElem_mem hjy)
      have ex := HE5.out xs[j] (List.getElem_mem hjx)
      have heq := HSM.out j hjy hjx
      have hsame : ∀ z : Ext wr, Calls Try.prog 14 #[.slice ys[j].A ys[j].L.length ys[j].c, .slice xs[j].A xs[j].L.length xs[j].c] z.world fun e w' => e = .returned (.bool true) ∧ Below z.world.heap.size z.world w' := fun z => by
        have := same_any ys[j].A xs[j].A ys[j].c xs[j].c ys[j].L xs[j].L z.world (by omega) (((ey.1.below hbw).below z.below).rd) (((ex.1.below hbw).below z.below).rd)
        rw [show decide (ys[j].L = xs[j].L) = true from decide_eq_true heq] at this
        exact this
      obtain ⟨ya, hya⟩ : ∃ ya, ys[j].A = ya := ⟨_, rfl⟩
      obtain ⟨yn, hyn⟩ : ∃ yn, ys[j].L.length = yn := ⟨_, rfl⟩
      obtain ⟨yc, hyc⟩ : ∃ yc, ys[j].c = yc := ⟨_, rfl⟩
      obtain ⟨xa, hxa⟩ : ∃ xa, xs[j].A = xa := ⟨_, rfl⟩
      obtain ⟨xn, hxn⟩ : ∃ xn, xs[j].L.length = xn := ⟨_, rfl⟩
      obtain ⟨xc, hxc⟩ : ∃ xc, xs[j].c = xc := ⟨_, rfl⟩
      rw [hya, hyn, hyc] at hsame y1
      rw [hxa, hxn, hxc] at hsame x1
      have HSAME := Lib.hid hsame
      clear hsame hya hyn hyc hxa hxn hxc ey ex heq oy ox
      go_upto_region 15 with fail
      refine wp_region_mild (by kernel_rfl) (by kernel_rfl) ?_
      repeat (go_big_quiet_step ((go_at_call 14; exact mild_of (HSAME.out _))))
      refine wpQuiet_nil ?_
      intro w6 hw'
      obtain ⟨⟨wq, k6⟩, hw''⟩ := hw'
      subst hw''
      obtain ⟨W6, hW6⟩ : ∃ W6, w6 = W6 := ⟨_, rfl⟩
      have hb6 := bTrans hbw k6
      rw [hW6] at hb6
      first | rw [hW6] | (show Exit.then _ _ _ _ w6; rw [hW6])
      clear hW6 k6
      go_wp2_with fail
      go_roundw
      case rel => exact ⟨j + 1, by omega, by go_num, hb6⟩
      case measure => simp [intOf]; omega
    · go_wp2_with fail
      go_ret
      exact ⟨rfl, bTrans hb5 hbw⟩
theorem grows_any (hs : U32 s) (hc : a.length ≤ c) (hc' : b.length ≤ c') (ra : Rd w w.heap.size A (a.flatMap btC)) (rb : Rd w w.heap.size B (b.flatMap btC)) : Calls Try.prog 8 #[.agg #[.int .u32 s, .int .i64 d, .int .i64 x, .int .i64 y], .slice A a.length c, .slice B b.length c', .int .i64 cut, .int .i64 other] w fun e w' => e = .returned (.bool true) ∧ Below w.heap.size w w' := by
  by_cases h : 250 < a.length ∨ 250 < b.length
  · exact grows_1 h
  · cases hok : ofB d a b with
    | true => exact grows_2 (by omega) (by omega) ra rb hok
    | false => exact grows_3 hs (by omega) (by omega) hc hc' ra rb hok
end
end Go.Proofs.Ytnaclkaapicelaa
