/-
  The walk of wave.Read, where there is a file.
-/
import Derived.Test.YtmggnadhjgadnaaWaveRead2
import Derived.Deep.RegionLaw
namespace Go.Proofs.Ytmggnadhjgadnaa
open Go.RowKit

theorem Try.infoPair : (Try.prog.info? 24).map (fun i => (i.zero, i.size, i.bytes)) = some (some (.agg #[.int .i64 0, .int .i64 0]), 2, 16) := by kernel_rfl
theorem chunks_take (B : List UInt8) (k : Nat) (h : 4 * k + 4 ≤ B.length) : (chunks B).take (k + 1) = (chunks B).take k ++ [⟨sg (toldL ((B.drop (4 * k)).take 2)), sg (toldL (((B.drop (4 * k)).take 4).drop 2))⟩] := by
  induction k generalizing B with
  | zero => rw [chunks_drop B (by omega)]; simp
  | succ k ih =>
    rw [chunks_drop B (by omega), List.take_succ_cons, List.take_succ_cons, List.cons_append, ih (B.drop 4) (by rw [List.length_drop]; omega), List.drop_drop]
    rw [show 4 + 4 * k = 4 * (k + 1) by omega]

set_option maxRecDepth 100000 in
set_option maxHeartbeats 2000000 in
theorem read_ok (s : ByteArray) (w : World) (h : 44 ≤ s.size) (hm : s.size ≤ 100000) (hf : formB s.data.toList = true) : Calls Try.prog 11 #[.string s] w fun e w' => ∃ A c, e = .returned (.tuple #[.slice A (chunks (s.data.toList.drop 44)).length c, .int .i64 (rateOf s.data.toList : Nat), .int .i64 0]) ∧ OwnL w' w.heap.size 24 2 (.slice A (chunks (s.data.toList.drop 44)).length c) Pr.cells (chunks (s.data.toList.drop 44)) ∧ Below w.heap.size w w' := by
  have hrt : toldL (s.extract 24 28).data.toList = rateOf s.data.toList := by rw [extract_mid]; rfl
  have HRT := Lib.hid hrt
  have HSZ := Lib.hid (extract_end s 44)
  obtain ⟨i0, hi0, hz0, hz1, hz2⟩ := info_parts Try.infoPair
  obtain ⟨R, hR⟩ : ∃ R, rateOf s.data.toList = R := ⟨_, rfl⟩
  obtain ⟨B, hB⟩ : ∃ B, s.data.toList.drop 44 = B := ⟨_, rfl⟩
  have hlen : B.length = s.size - 44 := by rw [← hB, List.length_drop, size_list]
  obtain ⟨m, hm'⟩ : ∃ m, s.size - 44 = m := ⟨_, rfl⟩
  have hcnt : cntOf s.data.toList = m / 4 := by unfold cntOf; rw [size_list, hm']
  have hp : (1 ≤ R ∧ R ≤ 192000) ∧ m % 4 = 0 ∧ (s.extract 0 44).data.toList = headL ((m : Int) / 4) (R : Int) := by
    unfold formB rateB at hf
    rw [hcnt, hR, size_list, hm'] at hf
    simp only [Bool.and_eq_true, decide_eq_true_eq] at hf
    refine ⟨by omega, hf.2.1, ?_⟩
    rw [extract_mid, List.drop_zero, hf.2.2.2]
    rfl
  obtain ⟨⟨r1, r2⟩, hm4, hq⟩ := hp
  have kq := fun W => (str_neq (s.extract 0 44) (headL ((m : Int) / 4) (R : Int)) W).trans (by rw [decide_eq_true hq])
  obtain ⟨n, hn⟩ : ∃ n, m = 4 * n := ⟨m / 4, by omega⟩
  have hcl : (chunks B).length = n := by rw [chunks_length _ _ (Nat.le_refl _)]; omega
  have HCL := Lib.hid hcl
  rw [hR, hB]
  have HR := Lib.hid hR
  have HBB := Lib.hid hB
  have hmb : m ≤ 100000 := by omega
  have htm : (m : Int).tmod 4 = (m : Int) % 4 := Int.tmod_eq_emod_of_nonneg (by omega)
  have d1 : decide ((R : Int) < 1) = false := decide_eq_false (by omega)
  have d2 : decide ((192000 : Int) < (R : Int)) = false := decide_eq_false (by omega)
  have d3 : ((m : Int) % 4 != 0) = false := by simp; omega
  have d4 : decide ((200000 : Int) < (m : Int) / 4) = false := decide_eq_false (by omega)
  have hnB : 4 * n = B.length := by omega
  have HNB := Lib.hid hnB
  have HN := Lib.hid hn
  have hnb : n ≤ 25000 := by omega
  clear hrt hf hR hB hq hlen hcnt hn hcl hm4 hnB
  go_enter Try.func11, Try.ntmps11
  go_wp2_with fail
  refine (told_any _ _ (by rw [extract_mid, List.length_drop, List.length_take, size_list]; omega)).mono ?_
  rintro e w1 ⟨rfl, rfl⟩
  rw [HRT.out, HR.out]
  have b0 : Below w.heap.size w w.drew := (Below.refl _ _).drew
  have z0 : (0 : Int) ≤ 44 := by omega
  have z1 : (44 : Int) ≤ (s.size : Int) := by omega
  go_wp2
  go_region_held3 (fun w' => Below w.heap.size w w') (first | assumption | exact bTrans (by assumption) hb2) (first | (go_at_call 19; refine (head_any _ _ _ (by omega) (by omega) (by omega) (by omega)).mono ?_; rintro e w2 ⟨rfl, hb2⟩))
  have hb02 : Below w.heap.size w w2 := (Below.refl _ _).drew.trans hb2
  clear kq d1 d2 d3 d4 hb2 b0 htm
  rw [HSZ.out, HBB.out]
  go_wp2
  go_loopw [6, 8] (fun b v wr => ∃ k : Nat, k ≤ n ∧ b = .string ⟨(B.drop (4 * k)).toArray⟩ ∧ ∃ A' cp, v = .slice A' k cp ∧ OwnL wr w.heap.size 24 2 (.slice A' k cp) Pr.cells ((chunks B).take k) ∧ Below w.heap.size w wr) (fun b _ _ => match b with | .string x => x.size | _ => 0)
  case atStart => exact ⟨0, Nat.zero_le _, rfl, none, 0, rfl, OwnL.nil, hb02⟩
  case round =>
    clear hb02
    obtain ⟨k, hk, rfl, A', cp, rfl, hown, hb⟩ := hrel
    have HO := Lib.hid hown
    have HBS := Lib.hid hown.base_le
    clear hown
    have hdl : (B.drop (4 * k)).length = 4 * (n - k) := by rw [List.length_drop]; have := HNB.out; omega
    obtain ⟨C, hC⟩ : ∃ C, B.drop (4 * k) = C := ⟨_, rfl⟩
    rw [hC] at hdl ⊢
    by_cases hlt : k < n
    · have hne : C.isEmpty = false := by cases C with | nil => simp at hdl; omega | cons => rfl
      have hne2 : ¬ C = [] := by intro h0; rw [h0] at hdl; simp at hdl; omega
      have hct := chunks_take B k (by have := HNB.out; omega)
      rw [hC] at hct
      have HCT := Lib.hid hct
      have HCC := Lib.hid hC
      have q1 : (0 : Int) ≤ 2 := by omega
      have q2 : (2 : Int) ≤ 4 := by omega
      have q4 : (4 : Int) ≤ (C.length : Int) := by omega
      have q5 : (2 : Int) ≤ (C.length : Int) := by omega
      have HDL := Lib.hid hdl
      clear hct hC hdl
      have hs1 : ∀ W, Calls Try.prog 23 #[.string (ByteArray.extract ⟨C.toArray⟩ 0 2)] W fun e w' => e = .returned (.int .i64 (sg (toldL (C.take 2)))) ∧ W = w' := fun W => by
        have e : (ByteArray.extract ⟨C.toArray⟩ 0 2).data.toList = C.take 2 := by rw [extract_mid, List.drop_zero]
        have := signed_any (ByteArray.extract ⟨C.toArray⟩ 0 2) W (by rw [e, List.length_take]; omega)
        rwa [e] at this
      have hs2 : ∀ W, Calls Try.prog 23 #[.string (ByteArray.extract ⟨C.toArray⟩ 2 4)] W fun e w' => e = .returned (.int .i64 (sg (toldL ((C.take 4).drop 2)))) ∧ W = w' := fun W => by
        have e : (ByteArray.extract ⟨C.toArray⟩ 2 4).data.toList = (C.take 4).drop 2 := by rw [extract_mid]
        have := signed_any (ByteArray.extract ⟨C.toArray⟩ 2 4) W (by rw [e, List.length_drop, List.length_take]; omega)
        rwa [e] at this
      have HS1 := Lib.hid hs1
      have HS2 := Lib.hid hs2
      have hbz := hb.size
      have hkl : ((chunks B).take k).length = k := by rw [List.length_take, HCL.out]; omega
      have HKL := Lib.hid hkl
      have HOW : Hid (∀ o, ((wr.alloc o).drew).ownsRow w.heap.size 24 2 (.slice A' k cp) k (((chunks B).take k).flatMap Pr.cells)) := by
        have h := HO.out
        unfold OwnL at h
        rw [HKL.out] at h
        exact Lib.hid fun o => World.ownsRow.alloc h o
      clear hs1 hs2 hkl
      go_wp2
      have hsz0 : wr.heap.size ≤ wr.drew.heap.size := Nat.le_refl _
      go_region_held3 (fun w' => wr.heap.size ≤ w'.heap.size) (first | assumption | (simp; done) | (have := hgrow.size; simp at this; omega)) (first
        | (go_at_call 23; (with_reducible refine (HS1.out _).mono ?_); rintro e w' ⟨rfl, rfl⟩)
        | (go_at_call 23; (with_reducible refine (HS2.out _).mono ?_); rintro e w' ⟨rfl, rfl⟩)
        | (refine step_append_lies _ (by rfl) _ _ _ (by rfl) w.heap.size 24 i0 _ 2 16 Try.underlying22 hi0 hz0 hz1 hz2 rfl (by omega) (.slice A' k cp) k (((chunks B).take k).flatMap Pr.cells) (by rfl) (HOW.out _)
            ⟨wr.heap.size, 0, none⟩ 1 1 [.int .i64 (sg (toldL (C.take 2))), .int .i64 (sg (toldL ((C.take 4).drop 2)))] (by rfl) (by rfl) (World.news_of_block (cs := #[.int .i64 (sg (toldL (C.take 2))), .int .i64 (sg (toldL ((C.take 4).drop 2)))]) (t := 24) (fr := (0, 0)) (heap_alloc_new wr _)) (by simp [Value.oneCell'])
            (by omega) (by simp [maxLen]; omega) (by omega) (by simp; omega) (wr.heap.size + 1) (by simp) ?_; intro gg cap w1 hown1 hgrow hat hlt1))
      go_wp2
      go_roundw
      case rel =>
        refine ⟨k + 1, by omega, ?_, some ⟨gg, 0, none⟩, cap, by go_num, ?_, ?_⟩
        · rw [show (ByteArray.extract ⟨C.toArray⟩ 4 C.length) = ⟨(C.drop 4).toArray⟩ from extract_end ⟨C.toArray⟩ 4, ← HCC.out, List.drop_drop, show 4 * k + 4 = 4 * (k + 1) by omega]
        · unfold OwnL
          rw [HCT.out, List.length_append, HKL.out, List.flatMap_append]
          simpa [Pr.cells] using hown1
        · exact Below.grown (bAlloc hb _).drew hgrow (by simp; omega) HBS.out
      case measure => simp [ByteArray.size]; omega
    · obtain rfl : k = n := by omega
      have hcn : C = [] := List.eq_nil_of_length_eq_zero (by omega)
      have hct : (chunks B).take k = chunks B := List.take_of_length_le (by rw [HCL.out]; exact Nat.le_refl _)
      rw [hct] at HO
      subst hcn
      go_wp2
      go_ret3
      rw [HCL.out]
      exact ⟨A', cp, rfl, HO.out, hb⟩
end Go.Proofs.Ytmggnadhjgadnaa
