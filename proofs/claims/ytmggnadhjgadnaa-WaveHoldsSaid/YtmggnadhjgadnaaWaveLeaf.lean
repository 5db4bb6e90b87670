/-
  Numbers of a file: their bytes.
-/
import Derived.Test.YtmggnadhjgadnaaOwn
import Derived.Test.YtmggnadhjgadnaaBuild
import Derived.Laws.IdiomStrings
import Derived.Maps.OwnIn
namespace Go.Proofs.Ytmggnadhjgadnaa
open Go.RowKit

def str (l : List UInt8) : Value := .string ⟨l.toArray⟩
/-- Byte i of a number. -/
def leB (n : Int) (i : Nat) : UInt8 := UInt8.ofNat (n / 2 ^ (8 * i) % 256).toNat
theorem leB_val (n : Int) (i : Nat) : ((leB n i).toNat : Int) = n / 2 ^ (8 * i) % 256 := by
  have h1 := Int.emod_nonneg (n / 2 ^ (8 * i)) (show (256 : Int) ≠ 0 by decide)
  have h2 := Int.emod_lt_of_pos (n / 2 ^ (8 * i)) (show (0 : Int) < 256 by decide)
  unfold leB
  rw [UInt8.toNat_ofNat', Nat.mod_eq_of_lt (by omega)]
  omega
def le (n : Int) (size : Nat) : List UInt8 := rowOf size (leB n)
def bc (b : UInt8) : List Value := [.int .u8 (b.toNat : Int)]
def upto (n : Int) (size j : Nat) : List UInt8 := rowOf size fun i => if i < j then leB n i else 0
theorem upto_length (n : Int) (size j : Nat) : (upto n size j).length = size := rowOf_length _ _
theorem upto_zero (n : Int) (size : Nat) : upto n size 0 = List.replicate size 0 := by
  rw [← rowOf_const]; exact rowOf_congr fun j _ => by simp
theorem upto_all (n : Int) (size : Nat) : upto n size size = le n size := rowOf_congr fun j hj => by simp [hj]
theorem upto_set (n : Int) (size j : Nat) (hj : j < size) : (upto n size j).set j (leB n j) = upto n size (j + 1) := by
  unfold upto
  rw [rowOf_set]
  refine rowOf_congr fun i _ => ?_
  by_cases h : i = j
  · subst h; simp
  · rw [if_neg h]
    have : (i < j + 1) = (i < j) := by simp; omega
    simp only [this]


set_option maxRecDepth 100000 in
set_option maxHeartbeats 1000000 in
theorem number_any (n : Int) (size : Nat) (w : World) (h1 : 1 ≤ size) (h8 : size ≤ 8) :
    Calls Try.prog 29 #[.int .i64 n, .int .i64 size] w fun e w' => e = .returned (str (le n size)) ∧ Below w.heap.size w w' := by
  obtain ⟨ib, hib, hbz, hb1, hb2⟩ := info_parts Try.infoByte
  go_enter Try.func29, Try.ntmps29
  go_wp2_with (refine wpList_make_full _ rfl (.tmp 7) (.tmp 7) 40 rfl w.heap.size 5 ib _ 1 Try.underlying40 hib hbz hb1 .i64 .i64 _ _ size rfl rfl (by omega) (by omega) ?m1 ?m2 ?m3 ?_)
  case m1 => rw [hb2]; omega
  case m2 => simp [maxLen]; omega
  case m3 => exact Nat.le_refl _
  intro w1 hown1 hg1
  have hin : OwnL w1 w.heap.size 5 1 (.slice (some ⟨w.heap.size, 0, none⟩) size size) bc (upto n size 0) := by
    unfold OwnL
    rw [upto_zero, List.length_replicate]
    have e2 : (List.replicate size (0 : UInt8)).flatMap bc = List.replicate size (Value.int .u8 0) := by
      rw [List.flatMap_def, List.map_replicate]; simp [bc, List.flatten_replicate_singleton]
    rw [e2]
    simpa [toList_madeCells_one, Value.cells] using hown1
  have hbw1 : Below w.heap.size w w1 := (Below.refl _ _).grown hg1 (Nat.le_refl _) (by simp)
  have HI := Lib.hid hin
  clear hin hown1 hg1
  go_wp2
  go_loopw [11] (fun i wr => ∃ j : Nat, j ≤ size ∧ i = .int .i64 j ∧ OwnL wr w.heap.size 5 1 (.slice (some ⟨w.heap.size, 0, none⟩) size size) bc (upto n size j) ∧ Below w.heap.size w wr) (fun i _ => size - (intOf i).toNat)
  case atStart => exact ⟨0, Nat.zero_le _, rfl, HI.out, hbw1⟩
  case round =>
    clear HI hbw1
    obtain ⟨j, hj, rfl, hown, hb⟩ := hrel
    by_cases hlt : j < size
    · have hc := hown.one (h := fun b : UInt8 => Value.int .u8 (b.toNat : Int)) (fun _ => rfl) (k := j) (by rw [upto_length]; omega)
      have hf := hown.frozen j
      have HO := Lib.hid hown
      clear hown
      go_wp2
      go_roundw
      case rel =>
        refine ⟨j + 1, by omega, rfl, ?_, bSetG hb (Nat.le_refl _) _ _⟩
        have h := HO.out.set1 (h := fun b : UInt8 => Value.int .u8 (b.toNat : Int)) (fun _ => rfl) (k := j) (by rw [upto_length]; omega) (leB n j)
        rw [upto_set n size j hlt, leB_val] at h
        exact h
      case measure => simp [intOf]; omega
    · obtain rfl : j = size := by omega
      have hl : (upto n j j).length = j := upto_length _ _ _
      have hcv : (convert 40 9 (.slice (some ⟨w.heap.size, 0, none⟩) j j)).run Try.prog wr = .ok (str (le n j)) wr := by
        have h := run_convert_bytes_back (P := Try.prog) wr 40 9 5 ⟨w.heap.size, 0, none⟩ j (upto n j j) Try.underlying40 Try.underlying5 Try.underlying9 (fun k hk => by
          rw [Go.WideShapes.add_plain, Nat.zero_add]
          exact hown.one (h := fun b : UInt8 => Value.int .u8 (b.toNat : Int)) (fun _ => rfl) hk)
        rw [hl, upto_all] at h
        exact h
      clear hown
      go_wp2
      go_ret
      exact ⟨rfl, hb⟩
end Go.Proofs.Ytmggnadhjgadnaa
