/-
  A number in decimal: the reference's Digits and strconv.Itoa give the same text.
-/
import Derived.Test.YtlonefjbcooaaaaDoorOwn
import Derived.Test.YtlonefjbcooaaaaDoorShelf
import Derived.Lib.ItoaLen
import Derived.Lib.ItoaMem
import Derived.Laws.IdiomStrings
namespace Go.Proofs.YtlonefjbcooaaaaDoor
open Go.RowKit Go.Sort
set_option maxRecDepth 100000

def str (l : List UInt8) : Value := .string ⟨l.toArray⟩
theorem str_append (a b : List UInt8) : (⟨a.toArray⟩ : ByteArray) ++ ⟨b.toArray⟩ = ⟨(a ++ b).toArray⟩ := by
  apply ByteArray.ext; simp
theorem dec_len (u : Nat) (h : u ≤ 9223372036854775807) : (Lib.decDigits u).length ≤ 21 := by
  have := Lib.itoa_length_le (u : Int) (by omega) (by omega)
  rwa [Lib.itoa_nonneg] at this
theorem dec_big (u : Nat) (h : ¬ u < 10) : Lib.decDigits u = Lib.decDigits (u / 10) ++ [UInt8.ofNat (48 + u % 10)] := by rw [Lib.decDigits, dif_neg h]

set_option maxHeartbeats 1000000 in
theorem digits_any (u : Nat) (w : World) (hu : u ≤ 9223372036854775807) : Calls Tryd.prog 28 #[.int .i64 u] w fun e w' => e = .returned (str (Lib.decDigits u)) ∧ Below w.heap.size w w' := by
  have hlen := dec_len u hu
  go_enter Tryd.func28, Tryd.ntmps28
  go_wp2
  go_loopw [0, 3] (fun n s wr => ∃ m : Nat, m ≤ 9223372036854775807 ∧ n = .int .i64 m ∧ ∃ l : List UInt8, s = .string ⟨l.toArray⟩ ∧ Hid (Lib.decDigits u = Lib.decDigits m ++ l) ∧ l.length ≤ 21 ∧ Below w.heap.size w wr) (fun n _ _ => (intOf n).toNat)
  case atStart => exact ⟨u, hu, rfl, [], rfl, Lib.hid (by simp), by decide, Below.refl _ _⟩
  case round =>
    obtain ⟨m, hm, rfl, l, rfl, hd, hl, hb⟩ := hrel
    have hmod : (m : Int) % 10 = ((m % 10 : Nat) : Int) := by omega
    obtain ⟨r, hr⟩ : ∃ r, m % 10 = r := ⟨_, rfl⟩
    have hr10 : r < 10 := by omega
    have hmod2 : (m : Int) % 10 = (r : Int) := by omega
    obtain ⟨bb, hbb⟩ : ∃ bb, UInt8.ofNat (48 + r) = bb := ⟨_, rfl⟩
    have hbv : ((bb.toNat : Nat) : Int) = 48 + (r : Int) := by
      rw [← hbb, UInt8.toNat_ofNat', Nat.mod_eq_of_lt (by omega)]; omega
    have hcv : (convert 61 9 (.slice (some ⟨wr.heap.size, 0, none⟩) 1 1)).run Tryd.prog (wr.alloc (.cells #[.int .u8 (48 + (r : Int))] 5)) = .ok (.string ⟨[bb].toArray⟩) (wr.alloc (.cells #[.int .u8 (48 + (r : Int))] 5)) := by
      refine run_convert_bytes_back (P := Tryd.prog) _ 61 9 5 ⟨wr.heap.size, 0, none⟩ 1 [bb] Tryd.underlying61 Tryd.underlying5 Tryd.underlying9 (fun j hj => ?_)
      obtain rfl : j = 0 := by simp at hj; omega
      have := cell_new_row wr #[.int .u8 (48 + (r : Int))] 5 _ rfl 0 _ rfl
      rw [this]
      simp only [List.getElem_cons_zero]
      rw [hbv]
    have HR := Lib.hid hr
    have HBB := Lib.hid hbb
    clear hmod hr hbv hbb
    by_cases h10 : m < 10
    · have h0 : (m : Int) / 10 = 0 := by omega
      have hfin : Lib.decDigits u = [bb] ++ l := by rw [hd.out, Lib.decDigits_one h10, ← HBB.out]; have := HR.out; rw [show m = r by omega]
      have HFIN := Lib.hid hfin
      clear hfin
      go_wp2
      go_ret
      refine ⟨?_, bAlloc hb _⟩
      rw [HFIN.out]
      unfold str
      rw [← str_append]
      rfl
    · have hq : (m : Int) / 10 = ((m / 10 : Nat) : Int) := by omega
      obtain ⟨q, hq2⟩ : ∃ q, m / 10 = q := ⟨_, rfl⟩
      have hq3 : (m : Int) / 10 = (q : Int) := by omega
      have hne : ((q : Int) == 0) = false := by simp; omega
      have hbig := dec_big m h10
      rw [hq2, HR.out, HBB.out] at hbig
      have hlm : l.length + 1 ≤ 21 := by
        have h1 := congrArg List.length hd.out
        rw [List.length_append, hbig, List.length_append, List.length_singleton] at h1
        omega
      have HB := Lib.hid hbig
      have hqm : q < m := by omega
      clear hq hq2 hbig h10
      go_wp2
      go_roundw
      case rel =>
        refine ⟨q, by omega, rfl, [bb] ++ l, ?_, Lib.hid (by rw [hd.out, HB.out, List.append_assoc]), by simp; omega, bAlloc hb _⟩
        rw [← str_append]
      case measure => simp [intOf]; omega
theorem grow_below {w : World} (k : Nat) (os : Array Obj) : Below w.heap.size w (grow (w.drewN k) os) :=
  ⟨rfl, rfl, rfl, by simp [grow], fun j hj => by simp only [grow]; rw [Array.getElem?_append_left (by simpa using hj)]; rfl⟩
set_option maxHeartbeats 1000000 in
theorem itoa_any (u : Nat) (w : World) (hu : u ≤ 9223372036854775807) (htab : Lib.TabIs Tryd.prog w "internal/strconv.uint64pow10" .u64 Lib.pow10Tab) : Calls Tryd.prog 39 #[.int .i64 u] w fun e w' => e = .returned (str (Lib.decDigits u)) ∧ Below w.heap.size w w' := by
  refine (Tryd.strconv_Itoa (u : Int) (by omega) (by omega) w htab).mono ?_
  rintro e w' ⟨rfl, k, os, rfl⟩
  rw [Lib.itoa_nonneg]
  exact ⟨rfl, grow_below k os⟩
end Go.Proofs.YtlonefjbcooaaaaDoor
