/-
  Are they cuts: the program's and the document's answer, of any.
-/
import Derived.Test.YtaegekfdbhmcaaaDoorRbP
namespace Go.Proofs.YtaegekfdbhmcaaaDoor
open Go.RowKit
set_option maxRecDepth 100000
def okC (z : Int) (c : Cut) : Prop := z < c.frm ∧ c.frm < c.to_ ∧ c.to_ ≤ 1073741824 ∧ 0 ≤ c.weight ∧ c.weight ≤ 1073741824
instance (z : Int) (c : Cut) : Decidable (okC z c) := by unfold okC; infer_instance
def rightB : Int → List Cut → Bool
  | _, [] => true
  | z, c :: r => if okC z c then rightB c.to_ r else false
theorem rightB_iff : ∀ (L : List Cut) (z : Int), rightB z L = true ↔ RightL z L
  | [], z => by simp [rightB, RightL]
  | c :: L, z => by
    have ih := rightB_iff L c.to_
    show (if okC z c then rightB c.to_ L else false) = true ↔ z < c.frm ∧ c.frm < c.to_ ∧ c.to_ ≤ 1073741824 ∧ 0 ≤ c.weight ∧ c.weight ≤ 1073741824 ∧ RightL c.to_ L
    by_cases h : okC z c
    · rw [if_pos h, ih]
      exact ⟨fun k => ⟨h.1, h.2.1, h.2.2.1, h.2.2.2.1, h.2.2.2.2, k⟩, fun k => k.2.2.2.2.2⟩
    · rw [if_neg h]
      simp only [Bool.false_eq_true, false_iff]
      exact fun k => h ⟨k.1, k.2.1, k.2.2.1, k.2.2.2.1, k.2.2.2.2.1⟩
set_option maxHeartbeats 1000000 in
theorem right_all (A : Option Addr) (c : Nat) (L : List Cut) (w : World) (hn : L.length ≤ 1000) (hr : Rd w w.heap.size A (L.flatMap Cut.cells)) :
    Calls Tryd.prog 7 #[.slice A L.length c] w fun e w' => e = .returned (.bool (rightB (-1) L)) ∧ Below w.heap.size w w' := by
  have HR := Lib.hid hr
  clear hr
  go_enter Tryd.func7, Tryd.ntmps7
  go_wp2
  go_loopw [3, 8] (fun last i wr => ∃ k : Nat, k ≤ L.length ∧ i = .int .i64 k ∧ ∃ z, last = .int .i64 z ∧ Hid (rightB (-1) L = rightB z (L.drop k)) ∧ Below w.heap.size w wr) (fun _ i _ => L.length - (intOf i).toNat)
  case atStart => exact ⟨0, Nat.zero_le _, rfl, -1, rfl, rfl, Below.refl _ _⟩
  case round =>
    obtain ⟨k, hk, rfl, z, rfl, hz, hb⟩ := hrel
    by_cases hlt : k < L.length
    · obtain ⟨b, off, rfl, hB, hc⟩ := (HR.out.below hb (Nat.le_refl _)).at_ Cut.cells_length (by omega) hlt
      have c0 := hc 0 _ rfl
      have c1 := hc 1 _ rfl
      have c2 := hc 2 _ rfl
      rw [Nat.add_zero] at c0
      clear hc
      have hst : rightB (-1) L = if okC z L[k] then rightB L[k].to_ (L.drop (k + 1)) else false := by rw [hz.out, List.drop_eq_getElem_cons hlt]; rfl
      have HST := Lib.hid hst
      clear hz hst
      have HNO : Hid (¬ okC z L[k] → rightB (-1) L = false) := Lib.hid (fun h => by rw [HST.out, if_neg h])
      by_cases h1 : L[k].frm ≤ z
      · go_wp2
        go_ret
        exact ⟨ret_bool (HNO.out (fun h => by have := h.1; omega)).symm, bAlloc hb _⟩
      by_cases h2 : L[k].to_ ≤ L[k].frm
      · go_wp2
        go_ret
        exact ⟨ret_bool (HNO.out (fun h => by have := h.2.1; omega)).symm, bAlloc hb _⟩
      by_cases h3 : 1073741824 < L[k].to_
      · go_wp2
        go_ret
        exact ⟨ret_bool (HNO.out (fun h => by have := h.2.2.1; omega)).symm, bAlloc hb _⟩
      have r1 : z < L[k].frm := by omega
      have r2 : L[k].frm < L[k].to_ := by omega
      have r3 : L[k].to_ ≤ 1073741824 := by omega
      clear h1 h2 h3
      go_wp2_with fail
      refine (frame_any _ _).mono ?_
      rintro e w1 ⟨rfl, rfl⟩
      by_cases h4 : 0 ≤ L[k].weight ∧ L[k].weight ≤ 1073741824
      · rw [(show frameOk L[k].weight = true by simp [frameOk, h4])]
        have HT : Hid (rightB (-1) L = rightB L[k].to_ (L.drop (k + 1))) := Lib.hid (by rw [HST.out, if_pos ⟨r1, r2, r3, h4⟩])
        clear h4
        go_wp2
        go_roundw
        case rel => exact ⟨k + 1, by omega, by go_num, _, rfl, HT, bAlloc hb _⟩
        case measure => simp [intOf]; omega
      · rw [(show frameOk L[k].weight = false by unfold frameOk; rw [decide_eq_false_iff_not]; exact h4)]
        have HT : Hid (rightB (-1) L = false) := Lib.hid (HNO.out (fun h => h4 h.2.2.2))
        clear h4
        go_wp2
        go_ret
        exact ⟨ret_bool HT.out.symm, bAlloc hb _⟩
    · have e0 : rightB (-1) L = true := by rw [hz.out, List.drop_of_length_le (by omega)]; rfl
      have E0 := Lib.hid e0
      clear e0
      go_wp2
      go_ret
      exact ⟨ret_bool E0.out.symm, hb⟩
set_option maxHeartbeats 4000000 in
theorem rRight_all (A : Option Addr) (c : Nat) (L : List Cut) (w : World) (hn : L.length ≤ 1000) (hr : Rd w w.heap.size A (L.flatMap Cut.cells)) :
    Calls Tryd.prog 8 #[.slice A L.length c] w fun e w' => e = .returned (.bool (rightB (-1) L)) ∧ Below w.heap.size w w' := by
  have HR := Lib.hid hr
  clear hr
  go_enter Tryd.func8, Tryd.ntmps8
  go_wp2
  go_loopw [3] (fun i wr => ∃ k : Nat, k ≤ L.length ∧ i = .int .i64 k ∧ Hid (∃ z, (∀ (_ : 0 < k) (_ : k ≤ L.length), z = (L[k - 1]'(by omega)).to_) ∧ (k = 0 → z = -1) ∧ -1 ≤ z ∧ rightB (-1) L = rightB z (L.drop k)) ∧ Below w.heap.size w wr) (fun i _ => L.length - (intOf i).toNat)
  case atStart => exact ⟨0, Nat.zero_le _, rfl, ⟨-1, fun h => absurd h (by omega), fun _ => rfl, by omega, rfl⟩, Below.refl _ _⟩
  case round =>
    obtain ⟨k, hk, rfl, hz, hb⟩ := hrel
    by_cases hlt : k < L.length
    · obtain ⟨b, off, hA, hB, hc⟩ := (HR.out.below hb (Nat.le_refl _)).at_ Cut.cells_length (by omega) hlt
      subst hA
      have c0 := hc 0 _ rfl
      have c1 := hc 1 _ rfl
      have c2 := hc 2 _ rfl
      rw [Nat.add_zero] at c0
      clear hc
      obtain ⟨z, hz1, hz0, hz2, hz3⟩ := hz.out
      have hst : rightB (-1) L = if okC z L[k] then rightB L[k].to_ (L.drop (k + 1)) else false := by rw [hz3, List.drop_eq_getElem_cons hlt]; rfl
      have HST := Lib.hid hst
      have HZ1 := Lib.hid hz1
      have HZ0 := Lib.hid hz0
      have HZ2 := Lib.hid hz2
      have HNO : Hid (¬ okC z L[k] → rightB (-1) L = false) := Lib.hid (fun h => by rw [HST.out, if_neg h])
      clear hz hst hz0 hz1 hz2 hz3
      by_cases hk0 : k = 0
      · subst hk0
        have HZE := Lib.hid (HZ0.out rfl)
        simp only [Nat.zero_mul, Nat.add_zero] at c0 c1 c2
        obtain ⟨w1, hw1⟩ : ∃ w1, w1 = wr.alloc (.cells #[.int .i64 L[0].frm, .int .i64 L[0].to_, .int .i64 L[0].weight] 32) := ⟨_, rfl⟩
        have d0 : w1.cell? ⟨wr.heap.size, 0, none⟩ = some (.int .i64 L[0].frm) := by rw [hw1]; simp [go_sem]
        have d1 : w1.cell? ⟨wr.heap.size, 1, none⟩ = some (.int .i64 L[0].to_) := by rw [hw1]; simp [go_sem]
        have d2 : w1.cell? ⟨wr.heap.size, 2, none⟩ = some (.int .i64 L[0].weight) := by rw [hw1]; simp [go_sem]
        have hb1 : Below w.heap.size w w1 := by rw [hw1]; exact bAlloc hb _
        have HRES : Hid (rightB (-1) L = if okC z L[0] then rightB L[0].to_ (L.drop 1) else false) := HST
        clear HST
        go_wp2
        rw [← hw1]
        clear hw1 c0 c1 c2 hb
        by_cases hok : okC z L[0]
        · obtain ⟨r1, r2, r3, r4, r5⟩ := hok
          have HT : Hid (rightB (-1) L = rightB L[0].to_ (L.drop 1)) := Lib.hid (by rw [HRES.out, if_pos ⟨r1, r2, r3, r4, r5⟩])
          have r0 : 0 ≤ L[0].frm := by have := HZ2.out; omega
          have HZR := Lib.hid r1
          clear r1
          have e1 : decide (L[0].frm < 0) = false := by simpa using r0
          have e2 : decide (L[0].to_ ≤ L[0].frm) = false := by simpa using r2
          have e3 : decide ((1073741824 : Int) < L[0].to_) = false := by simpa using r3
          have e4 : decide (L[0].weight < 0) = false := by simpa using r4
          have e5 : decide ((1073741824 : Int) < L[0].weight) = false := by simpa using r5
          go_quiet (fail)
          go_wp2
          go_roundw
          case rel => exact ⟨1, by omega, rfl, ⟨_, fun _ _ => rfl, fun h => absurd h (by omega), by omega, HT.out⟩, below_drewN hb1 _⟩
          case measure => simp [intOf]; omega
        · have he : decide (L[0].frm < 0) = true ∨ (decide (L[0].frm < 0) = false ∧ decide (L[0].to_ ≤ L[0].frm) = true) ∨ (decide (L[0].frm < 0) = false ∧ decide (L[0].to_ ≤ L[0].frm) = false ∧ decide ((1073741824 : Int) < L[0].to_) = true) ∨ (decide (L[0].frm < 0) = false ∧ decide (L[0].to_ ≤ L[0].frm) = false ∧ decide ((1073741824 : Int) < L[0].to_) = false ∧ decide (L[0].weight < 0) = true) ∨ (decide (L[0].frm < 0) = false ∧ decide (L[0].to_ ≤ L[0].frm) = false ∧ decide ((1073741824 : Int) < L[0].to_) = false ∧ decide (L[0].weight < 0) = false ∧ decide ((1073741824 : Int) < L[0].weight) = true) := by
            simp only [decide_eq_true_eq, decide_eq_false_iff_not]
            have := HZE.out
            unfold okC at hok
            omega
          have HF := Lib.hid (HNO.out hok)
          clear hok
          rcases he with e1 | ⟨e1, e2⟩ | ⟨e1, e2, e3⟩ | ⟨e1, e2, e3, e4⟩ | ⟨e1, e2, e3, e4, e5⟩
          all_goals
            go_quiet (fail)
            go_wp2
            go_ret
            exact ⟨ret_bool HF.out.symm, below_drewN hb1 _⟩
      · obtain ⟨b', off', hA', -, hc'⟩ := (HR.out.below hb (Nat.le_refl _)).at_ Cut.cells_length (by omega) (show k - 1 < L.length by omega)
        simp only [Option.some.injEq, Addr.mk.injEq, and_true] at hA'
        obtain ⟨rfl, rfl⟩ := hA'
        have p1 := hc' 1 _ rfl
        clear hc'
        have HZE := Lib.hid (HZ1.out (by omega) hk)
        have hk2 : 0 < k := by omega
        obtain ⟨w1, hw1⟩ : ∃ w1, w1 = wr.alloc (.cells #[.int .i64 L[k].frm, .int .i64 L[k].to_, .int .i64 L[k].weight] 32) := ⟨_, rfl⟩
        have d0 : w1.cell? ⟨wr.heap.size, 0, none⟩ = some (.int .i64 L[k].frm) := by rw [hw1]; simp [go_sem]
        have d1 : w1.cell? ⟨wr.heap.size, 1, none⟩ = some (.int .i64 L[k].to_) := by rw [hw1]; simp [go_sem]
        have d2 : w1.cell? ⟨wr.heap.size, 2, none⟩ = some (.int .i64 L[k].weight) := by rw [hw1]; simp [go_sem]
        have hb1 : Below w.heap.size w w1 := by rw [hw1]; exact bAlloc hb _
        have p2 : w1.cell? ⟨b, off + (k - 1) * 3 + 1, none⟩ = some (.int .i64 (L[k - 1]'(by omega)).to_) := by rw [hw1]; exact (World.cell?_alloc_lt wr _ _ (Nat.lt_of_lt_of_le hB hb.size)).trans p1
        have e6 : decide (0 < (k : Int)) = true := by simpa using hk2
        have s1 : IntKind.i64.wrap ((k : Int) - 1) = (k : Int) - 1 := IntWalk.i64_in _ (by omega)
        have s2 : 0 ≤ (k : Int) - 1 := by omega
        have s3 : ((k : Int) - 1).toNat = k - 1 := by omega
        have s4 : (k : Int) - 1 < (L.length : Int) := by omega
        go_wp2
        rw [← hw1]
        clear hw1 c0 c1 c2 hb p1
        by_cases hok : okC z L[k]
        · obtain ⟨r1, r2, r3, r4, r5⟩ := hok
          have HT : Hid (rightB (-1) L = rightB L[k].to_ (L.drop (k + 1))) := Lib.hid (by rw [HST.out, if_pos ⟨r1, r2, r3, r4, r5⟩])
          have r0 : 0 ≤ L[k].frm := by have := HZ2.out; omega
          have r7 : (L[k - 1]'(by omega)).to_ < L[k].frm := by rw [← HZE.out]; exact r1
          have e7 : decide (L[k].frm ≤ (L[k - 1]'(by omega)).to_) = false := by simpa using r7
          have HZR := Lib.hid r1
          clear r1 r7
          have e1 : decide (L[k].frm < 0) = false := by simpa using r0
          have e2 : decide (L[k].to_ ≤ L[k].frm) = false := by simpa using r2
          have e3 : decide ((1073741824 : Int) < L[k].to_) = false := by simpa using r3
          have e4 : decide (L[k].weight < 0) = false := by simpa using r4
          have e5 : decide ((1073741824 : Int) < L[k].weight) = false := by simpa using r5
          go_quiet (fail)
          try clear s1 s2 s3 s4
          go_wp2
          go_roundw
          case rel => exact ⟨k + 1, by omega, by go_num, ⟨_, fun _ _ => rfl, fun h => absurd h (by omega), by omega, HT.out⟩, below_drewN hb1 _⟩
          case measure => simp [intOf]; omega
        · have he : decide (L[k].frm < 0) = true ∨ (decide (L[k].frm < 0) = false ∧ decide (L[k].to_ ≤ L[k].frm) = true) ∨ (decide (L[k].frm < 0) = false ∧ decide (L[k].to_ ≤ L[k].frm) = false ∧ decide ((1073741824 : Int) < L[k].to_) = true) ∨ (decide (L[k].frm < 0) = false ∧ decide (L[k].to_ ≤ L[k].frm) = false ∧ decide ((1073741824 : Int) < L[k].to_) = false ∧ decide (L[k].weight < 0) = true) ∨ (decide (L[k].frm < 0) = false ∧ decide (L[k].to_ ≤ L[k].frm) = false ∧ decide ((1073741824 : Int) < L[k].to_) = false ∧ decide (L[k].weight < 0) = false ∧ decide ((1073741824 : Int) < L[k].weight) = true) ∨ (decide (L[k].frm < 0) = false ∧ decide (L[k].to_ ≤ L[k].frm) = false ∧ decide ((1073741824 : Int) < L[k].to_) = false ∧ decide (L[k].weight < 0) = false ∧ decide ((1073741824 : Int) < L[k].weight) = false ∧ decide (L[k].frm ≤ (L[k - 1]'(by omega)).to_) = true) := by
            simp only [decide_eq_true_eq, decide_eq_false_iff_not]
            have := HZE.out
            unfold okC at hok
            omega
          have HF := Lib.hid (HNO.out hok)
          clear hok
          rcases he with e1 | ⟨e1, e2⟩ | ⟨e1, e2, e3⟩ | ⟨e1, e2, e3, e4⟩ | ⟨e1, e2, e3, e4, e5⟩ | ⟨e1, e2, e3, e4, e5, e7⟩
          all_goals
            go_quiet (fail)
            try clear s1 s2 s3 s4
            go_wp2
            go_ret
            exact ⟨ret_bool HF.out.symm, below_drewN hb1 _⟩
    · have e0 : rightB (-1) L = true := by
        obtain ⟨z, -, -, -, h⟩ := hz.out
        rw [h, List.drop_of_length_le (by omega)]; rfl
      have E0 := Lib.hid e0
      clear e0
      go_wp2
      go_ret
      exact ⟨ret_bool E0.out.symm, hb⟩
end Go.Proofs.YtaegekfdbhmcaaaDoor
