/-
  The walks of the wave's functions.
-/
import Derived.Test.YtmggnadhjgadnaaWaveLeaf
namespace Go.Proofs.Ytmggnadhjgadnaa
open Go.RowKit

theorem str_append (a b : List UInt8) : (⟨a.toArray⟩ : ByteArray) ++ ⟨b.toArray⟩ = ⟨(a ++ b).toArray⟩ := by
  apply ByteArray.ext; simp
theorem le_length (n : Int) (s : Nat) : (le n s).length = s := rowOf_length _ _
structure Pr where
  x : Int
  y : Int
def Pr.cells (p : Pr) : List Value := [.int .i64 p.x, .int .i64 p.y]
theorem Pr.cells_length (p : Pr) : p.cells.length = 2 := rfl
def Pr.val (p : Pr) : Value := .agg #[.int .i64 p.x, .int .i64 p.y]
def sampB (p : Pr) : Bool := decide (-32768 ≤ p.x ∧ p.x ≤ 32767 ∧ -32768 ≤ p.y ∧ p.y ≤ 32767)

set_option maxRecDepth 100000 in
set_option maxHeartbeats 1000000 in
theorem word_any (n : Int) (w : World) : Calls Try.prog 28 #[.int .i64 n] w fun e w' => e = .returned (str (le n 4)) ∧ Below w.heap.size w w' := by
  go_enter Try.func28, Try.ntmps28
  go_wp2_with (go_at_call 29; refine (number_any n 4 _ (by decide) (by decide)).mono ?_)
  rintro e w1 ⟨rfl, hb⟩
  go_wp2
  go_ret
  exact ⟨rfl, hb⟩
set_option maxRecDepth 100000 in
set_option maxHeartbeats 1000000 in
theorem half_any (n : Int) (w : World) : Calls Try.prog 20 #[.int .i64 n] w fun e w' => e = .returned (str (le n 2)) ∧ Below w.heap.size w w' := by
  go_enter Try.func20, Try.ntmps20
  go_wp2_with (go_at_call 29; refine (number_any n 2 _ (by decide) (by decide)).mono ?_)
  rintro e w1 ⟨rfl, hb⟩
  go_wp2
  go_ret
  exact ⟨rfl, hb⟩

def headL (count rate : Int) : List UInt8 :=
  [82, 73, 70, 70] ++ le (36 + 4 * count) 4 ++ [87, 65, 86, 69, 102, 109, 116, 32] ++ le 16 4 ++ le 1 2 ++ le 2 2 ++ le rate 4 ++ le (4 * rate) 4 ++ le 4 2 ++ le 16 2 ++ [100, 97, 116, 97] ++ le (4 * count) 4
theorem headL_length (c r : Int) : (headL c r).length = 44 := by simp [headL, le_length]

set_option maxRecDepth 100000 in
set_option maxHeartbeats 2000000 in
theorem head_any (c r : Int) (w : World) (h0 : 0 ≤ c) (h1 : c ≤ 1000000000000) (r0 : 0 ≤ r) (r1 : r ≤ 1000000000000) : Calls Try.prog 19 #[.int .i64 c, .int .i64 r] w fun e w' => e = .returned (str (headL c r)) ∧ Below w.heap.size w w' := by
  have l4 := fun n => le_length n 4
  have l2 := fun n => le_length n 2
  go_enter Try.func19, Try.ntmps19
  go_wp2_with fail
  refine (word_any _ _).mono ?_
  rintro e w1 ⟨rfl, hb1⟩
  unfold str
  go_wp2_with fail
  refine (word_any _ _).mono ?_
  rintro e w2 ⟨rfl, hb2⟩
  unfold str
  go_wp2_with fail
  refine (half_any _ _).mono ?_
  rintro e w3 ⟨rfl, hb3⟩
  unfold str
  go_wp2_with fail
  refine (half_any _ _).mono ?_
  rintro e w4 ⟨rfl, hb4⟩
  unfold str
  go_wp2_with fail
  refine (word_any _ _).mono ?_
  rintro e w5 ⟨rfl, hb5⟩
  unfold str
  go_wp2_with fail
  refine (word_any _ _).mono ?_
  rintro e w6 ⟨rfl, hb6⟩
  unfold str
  go_wp2_with fail
  refine (half_any _ _).mono ?_
  rintro e w7 ⟨rfl, hb7⟩
  unfold str
  go_wp2_with fail
  refine (half_any _ _).mono ?_
  rintro e w8 ⟨rfl, hb8⟩
  unfold str
  go_wp2_with fail
  refine (word_any _ _).mono ?_
  rintro e w9 ⟨rfl, hb9⟩
  unfold str
  go_wp2
  go_ret
  refine ⟨?_, bTrans (bTrans (bTrans (bTrans (bTrans (bTrans (bTrans (bTrans hb1 hb2) hb3) hb4) hb5) hb6) hb7) hb8) hb9⟩
  simp only [str_append, headL]
  rfl

set_option maxRecDepth 100000 in
set_option maxHeartbeats 1000000 in
theorem sample_any (p : Pr) (w : World) : Calls Try.prog 16 #[p.val] w fun e w' => e = .returned (.bool (sampB p)) ∧ Below w.heap.size w w' := by
  unfold Pr.val
  go_enter Try.func16, Try.ntmps16
  go_wp2
  all_goals
    go_ret
    refine ⟨ret_bool ?_, (by repeat (first | exact Below.refl _ _ | (with_reducible assumption) | apply bAlloc | apply below_drewN | apply Below.drew))⟩
    unfold sampB
    first | (rw [decide_eq_decide]; omega) | (rw [eq_comm, decide_eq_false_iff_not]; omega)

set_option maxRecDepth 100000 in
set_option maxHeartbeats 1000000 in
theorem wrong_any (p : Pr) (w : World) : Calls Try.prog 15 #[p.val] w fun e w' => e = .returned (.bool (!sampB p)) ∧ Below w.heap.size w w' := by
  have h := fun w => sample_any p w
  unfold Pr.val at h ⊢
  go_enter Try.func15, Try.ntmps15
  go_wp2_with fail
  refine (h _).mono ?_
  rintro e w1 ⟨rfl, hb1⟩
  go_wp2
  go_ret
  exact ⟨rfl, bTrans (bAlloc (Below.refl _ _) _) hb1⟩

def idxP {α : Type} (q : α → Bool) : Nat → List α → Int
  | _, [] => -1
  | k, a :: l => if q a then (k : Int) else idxP q (k + 1) l
theorem idxP_neg {α : Type} (q : α → Bool) : ∀ (l : List α) (k : Nat), decide (idxP q k l ≥ 0) = l.any q
  | [], k => by simp [idxP]
  | a :: l, k => by
    rw [idxP, List.any_cons]
    cases h : q a with
    | true => simp
    | false => simpa using idxP_neg q l (k + 1)

set_option maxRecDepth 100000 in
set_option maxHeartbeats 400000 in
theorem IFsamp_any (A : Option Addr) (c : Nat) (L : List Pr) (w : World) (hn : L.length ≤ 1000000) (hr : Rd w w.heap.size A (L.flatMap Pr.cells)) :
    Calls Try.prog 26 #[.slice A L.length c, .func (.func 15) #[] #[]] w fun e w' => e = .returned (.int .i64 (idxP (fun p => !sampB p) 0 L)) ∧ Below w.heap.size w w' := by
  have HR := Lib.hid hr
  clear hr
  go_enter Try.func26, Try.ntmps26
  go_wp2
  go_loopw [8] (fun i wr => ∃ k : Nat, k ≤ L.length ∧ i = .int .i64 k ∧ Hid (idxP (fun p => !sampB p) 0 L = idxP (fun p => !sampB p) k (L.drop k)) ∧ Below w.heap.size w wr) (fun i _ => L.length - (intOf i).toNat)
  case atStart => exact ⟨0, Nat.zero_le _, rfl, rfl, Below.refl _ _⟩
  case round =>
    obtain ⟨k, hk, rfl, hi, hb⟩ := hrel
    by_cases hlt : k < L.length
    · obtain ⟨b, off, rfl, hB, hc⟩ := (HR.out.below hb (Nat.le_refl _)).at_ Pr.cells_length (by omega) hlt
      have c0 := hc 0 _ rfl
      have c1 := hc 1 _ rfl
      rw [Nat.add_zero] at c0
      clear hc
      have hst : idxP (fun p => !sampB p) k (L.drop k) = if !sampB L[k] then (k : Int) else idxP (fun p => !sampB p) (k + 1) (L.drop (k + 1)) := by
        rw [List.drop_eq_getElem_cons hlt, idxP]
      have HS := Lib.hid hst
      clear hst
      go_wp2_with fail
      refine (wrong_any L[k] _).mono ?_
      rintro e w1 ⟨rfl, hb1⟩
      cases hin : sampB L[k] with
      | false =>
        have HI := Lib.hid hin
        clear hin
        go_wp2
        go_ret
        exact ⟨ret_int (by rw [hi.out, HS.out, HI.out]; rfl), bTrans hb hb1⟩
      | true =>
        have HI := Lib.hid hin
        clear hin
        go_wp2
        go_roundw
        case rel => exact ⟨k + 1, by omega, by go_num, (show _ = _ by rw [hi.out, HS.out, HI.out]; rfl), bTrans hb hb1⟩
        case measure => simp [intOf]; omega
    · have e0 : idxP (fun p => !sampB p) 0 L = -1 := by rw [hi.out, List.drop_of_length_le (by omega), idxP]
      have E0 := Lib.hid e0
      clear e0
      go_wp2
      go_ret
      exact ⟨ret_int E0.out.symm, hb⟩

set_option maxRecDepth 100000 in
set_option maxHeartbeats 400000 in
theorem CFsamp_any (A : Option Addr) (c : Nat) (L : List Pr) (w : World) (hn : L.length ≤ 1000000) (hr : Rd w w.heap.size A (L.flatMap Pr.cells)) :
    Calls Try.prog 17 #[.slice A L.length c, .func (.func 15) #[] #[]] w fun e w' => e = .returned (.bool (L.any fun p => !sampB p)) ∧ Below w.heap.size w w' := by
  have HR := Lib.hid hr
  have HX := Lib.hid (idxP_neg (fun p => !sampB p) L 0)
  clear hr
  go_enter Try.func17, Try.ntmps17
  go_wp2_with fail
  refine (IFsamp_any A c L _ hn HR.out).mono ?_
  rintro e w1 ⟨rfl, hb1⟩
  go_wp2
  go_ret
  exact ⟨ret_bool HX.out, hb1⟩

/-- A file's bytes. -/
def bodyL (L : List Pr) : List UInt8 := L.flatMap fun p => le p.x 2 ++ le p.y 2
def fileL (L : List Pr) (r : Int) : List UInt8 := headL L.length r ++ bodyL L
theorem bodyL_length (L : List Pr) : (bodyL L).length = L.length * 4 := length_flatMap_const _ 4 (by simp [le_length]) L
theorem bodyL_snoc (L : List Pr) (k : Nat) (h : k < L.length) : bodyL (L.take (k + 1)) = bodyL (L.take k) ++ (le L[k].x 2 ++ le L[k].y 2) := by
  rw [List.take_succ_eq_append_getElem h, bodyL, List.flatMap_append]; simp [bodyL]

def rateB (r : Int) : Bool := decide (1 ≤ r ∧ r ≤ 192000)
def fitB (L : List Pr) (r : Int) : Bool := rateB r && L.all sampB

set_option maxRecDepth 100000 in
set_option maxHeartbeats 1000000 in
theorem write_no (A : Option Addr) (c : Nat) (L : List Pr) (r : Int) (w : World) (hn : L.length ≤ 1000000) (hr : Rd w w.heap.size A (L.flatMap Pr.cells)) (hno : fitB L r = false) :
    Calls Try.prog 9 #[.slice A L.length c, .int .i64 r] w fun e w' => e = .returned (.tuple #[str [], .int .i64 1]) ∧ Below w.heap.size w w' := by
  have HR := Lib.hid hr
  by_cases h1 : r < 1
  · clear hr hno
    go_enter Try.func9, Try.ntmps9
    go_wp2
    go_ret2
    exact ⟨rfl, Below.refl _ _⟩
  · by_cases h2 : 192000 < r
    · clear hr hno
      go_enter Try.func9, Try.ntmps9
      go_wp2
      go_ret2
      exact ⟨rfl, Below.refl _ _⟩
    · have hany : (L.any fun p => !sampB p) = true := by
        have hr' : rateB r = true := by unfold rateB; simp; omega
        rw [fitB, hr', Bool.true_and] at hno
        rw [← Bool.not_eq_false, ← List.not_all_eq_any_not] at *
        simp [hno]
      have HA := Lib.hid hany
      clear hr hno hany
      go_enter Try.func9, Try.ntmps9
      go_wp2_with fail
      refine (CFsamp_any A c L _ hn HR.out).mono ?_
      rintro e w1 ⟨rfl, hb1⟩
      rw [HA.out]
      go_wp2
      go_ret2
      exact ⟨rfl, hb1⟩
end Go.Proofs.Ytmggnadhjgadnaa
