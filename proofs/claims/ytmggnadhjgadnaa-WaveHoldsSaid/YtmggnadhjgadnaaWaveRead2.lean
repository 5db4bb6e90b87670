/-
  The walk of wave.Read.
-/
import Derived.Test.YtmggnadhjgadnaaWaveRead
import Derived.Lib.PathFns
namespace Go.Proofs.Ytmggnadhjgadnaa
open Go.RowKit

theorem extract_mid (s : ByteArray) (a b : Nat) : (s.extract a b).data.toList = (s.data.toList.take b).drop a := by
  have : (s.extract a b).data = s.data.extract a b := by simp
  rw [this, Array.toList_extract, List.extract_eq_take_drop, ← List.drop_take]
theorem str_neq (a : ByteArray) (l : List UInt8) (w : World) : (binOp .neq 9 (.string a) (str l)).run Try.prog w = .ok (.bool (!decide (a.data.toList = l))) w := by
  unfold str
  simp [go_sem, ByteArray.toList_eq]
  exact Bool.beq_eq_decide_eq _ _
theorem size_list (s : ByteArray) : s.data.toList.length = s.size := rfl
theorem extract_end (s : ByteArray) (a : Nat) : s.extract a s.size = ⟨(s.data.toList.drop a).toArray⟩ := Lib.Pa.extract_from s a

set_option maxRecDepth 100000 in
set_option maxHeartbeats 1000000 in
theorem read_short (s : ByteArray) (w : World) (h : s.size < 44) : Calls Try.prog 11 #[.string s] w fun e w' => e = .returned (.tuple #[.slice none 0 0, .int .i64 0, .int .i64 3]) ∧ w = w' := by
  go_enter Try.func11, Try.ntmps11
  go_wp2
  go_ret3
  exact ⟨rfl, rfl⟩

set_option maxRecDepth 100000 in
set_option maxHeartbeats 1000000 in
theorem read_form (s : ByteArray) (w : World) (h : 44 ≤ s.size) (hm : s.size ≤ 100000) (hf : formB s.data.toList = false) : Calls Try.prog 11 #[.string s] w fun e w' => e = .returned (.tuple #[.slice none 0 0, .int .i64 0, .int .i64 4]) ∧ Below w.heap.size w w' := by
  have hrt : toldL (s.extract 24 28).data.toList = rateOf s.data.toList := by rw [extract_mid]; rfl
  have HRT := Lib.hid hrt
  have HF := Lib.hid hf
  have HSZ := Lib.hid (extract_end s 44)
  have hbd := rateOf_lt s.data.toList
  obtain ⟨R, hR⟩ : ∃ R, rateOf s.data.toList = R := ⟨_, rfl⟩
  have HR := Lib.hid hR
  rw [hR] at hbd
  clear hrt hf hR
  have hlen : (s.data.toList.drop 44).length = s.size - 44 := by rw [List.length_drop, size_list]
  obtain ⟨m, hm'⟩ : ∃ m, s.size - 44 = m := ⟨_, rfl⟩
  rw [hm'] at hlen
  have HL := Lib.hid hlen
  clear hlen
  go_enter Try.func11, Try.ntmps11
  go_wp2_with fail
  refine (told_any _ _ (by rw [extract_mid, List.length_drop, List.length_take, size_list]; omega)).mono ?_
  rintro e w1 ⟨rfl, rfl⟩
  rw [HRT.out, HR.out]
  have hcnt : cntOf s.data.toList = m / 4 := by unfold cntOf; rw [size_list, hm']
  have HC := Lib.hid hcnt
  have HM := Lib.hid hm'
  have hmb : m ≤ 100000 := by omega
  have htm : (m : Int).tmod 4 = (m : Int) % 4 := Int.tmod_eq_emod_of_nonneg (by omega)
  clear hcnt
  by_cases h1 : R < 1
  · have d1 : decide ((R : Int) < 1) = true := decide_eq_true (by omega)
    go_wp2
    go_quiet (fail)
    go_wp2
    go_ret3
    exact ⟨rfl, below_drewN (Below.refl _ _) _⟩
  · have d1 : decide ((R : Int) < 1) = false := decide_eq_false (by omega)
    by_cases h2 : 192000 < R
    · have d2 : decide ((192000 : Int) < (R : Int)) = true := decide_eq_true (by omega)
      go_wp2
      go_quiet (fail)
      go_wp2
      go_ret3
      exact ⟨rfl, below_drewN (Below.refl _ _) _⟩
    · have d2 : decide ((192000 : Int) < (R : Int)) = false := decide_eq_false (by omega)
      by_cases h3 : m % 4 = 0
      · have d3 : ((m : Int) % 4 != 0) = false := by simp; omega
        have d4 : decide ((200000 : Int) < (m : Int) / 4) = false := decide_eq_false (by omega)
        go_wp2
        have b0 : Below w.heap.size w w.drew := (Below.refl _ _).drew
        have z0 : (0 : Int) ≤ 44 := by omega
        have z1 : (44 : Int) ≤ (s.size : Int) := by omega
        have hq : (s.extract 0 44).data.toList ≠ headL ((m : Int) / 4) (R : Int) := by
          intro he
          have hF := HF.out
          have hx : s.data.toList.take 44 = headL ((cntOf s.data.toList : Nat) : Int) ((rateOf s.data.toList : Nat) : Int) := by
            rw [HC.out, HR.out]
            have : (s.extract 0 44).data.toList = s.data.toList.take 44 := by rw [extract_mid, List.drop_zero]
            rw [← this, he]
            rfl
          unfold formB rateB at hF
          rw [decide_eq_true hx, HC.out, HR.out, size_list, hm'] at hF
          simp at hF
          omega
        have kq := fun W => (str_neq (s.extract 0 44) (headL ((m : Int) / 4) (R : Int)) W).trans (by rw [decide_eq_false hq])
        go_region_held3 (fun w' => Below w.heap.size w w') (first | assumption | exact bTrans (by assumption) hb2) (first | (go_at_call 19; refine (head_any _ _ _ (by omega) (by omega) (by omega) (by omega)).mono ?_; rintro e w2 ⟨rfl, hb2⟩))
        go_wp2
        go_ret3
        exact ⟨rfl, (Below.refl _ _).drew.trans hb2⟩
      · have d3 : ((m : Int) % 4 != 0) = true := by simp; omega
        go_wp2
        have d5 : ((m : Int).tmod 4 != 0) = true := by rw [htm]; exact d3
        clear htm
        go_quiet (fail)
        go_wp2
        go_ret3
        exact ⟨rfl, below_drewN (Below.refl _ _) _⟩

end Go.Proofs.Ytmggnadhjgadnaa
