/-
  The walks of the reference's Fits and of Samples.
-/
import Derived.Test.YtmggnadhjgadnaaWaveRef2
import Derived.ChangeKeysEq
namespace Go.Proofs.Ytmggnadhjgadnaa
open Go.RowKit

theorem all_take_succ {α : Type} (q : α → Bool) (L : List α) (k : Nat) (h : k < L.length) : (L.take (k + 1)).all q = ((L.take k).all q && q L[k]) := by
  rw [List.take_succ_eq_append_getElem h, List.all_append]; simp
theorem all_false {α : Type} (q : α → Bool) (L : List α) (k : Nat) (h : k < L.length) (hq : q L[k] = false) : L.all q = false := by
  rw [← Bool.not_eq_true, List.all_eq_true]
  intro hall
  rw [hall _ (List.getElem_mem h)] at hq
  cases hq
def nth (p : Pr) (i : Nat) : Int := if i = 0 then p.x else p.y

set_option maxRecDepth 100000 in
set_option maxHeartbeats 1000000 in
theorem fits_any (A : Option Addr) (c : Nat) (L : List Pr) (r : Int) (w : World) (hn : L.length ≤ 200000) (hr : Rd w w.heap.size A (L.flatMap Pr.cells)) :
    Calls Try.prog 10 #[.slice A L.length c, .int .i64 r] w fun e w' => e = .returned (.bool (fitB L r)) ∧ w = w' := by
  have HR := Lib.hid hr
  clear hr
  go_enter Try.func10, Try.ntmps10
  go_wp2
  go_loop [5] (fun i => ∃ k : Nat, k ≤ L.length ∧ i = .int .i64 k ∧ Hid ((L.take k).all sampB = true)) (fun i => L.length - (intOf i).toNat)
  case atStart => exact ⟨0, Nat.zero_le _, rfl, Lib.hid (by simp)⟩
  case round =>
    obtain ⟨k, hk, rfl, hall⟩ := hrel
    by_cases hlt : k < L.length
    · obtain ⟨b, off, rfl, hB, hc⟩ := HR.out.at_ Pr.cells_length (by omega) hlt
      have c0 := hc 0 _ rfl
      have c1 := hc 1 _ rfl
      rw [Nat.add_zero] at c0
      have hst := all_take_succ sampB L k hlt
      have HST := Lib.hid hst
      have hf := all_false sampB L k hlt
      have HF := Lib.hid hf
      clear hc hst hf
      go_wp2
      go_loop [6] (fun j => ∃ i : Nat, i ≤ 2 ∧ j = .int .i64 i ∧ (1 ≤ i → -32768 ≤ L[k].x ∧ L[k].x ≤ 32767) ∧ (2 ≤ i → -32768 ≤ L[k].y ∧ L[k].y ≤ 32767)) (fun i => 2 - (intOf i).toNat)
      case atStart => exact ⟨0, by decide, rfl, fun h => absurd h (by decide), fun h => absurd h (by decide)⟩
      case round =>
        obtain ⟨i, hi, rfl, h1, h2⟩ := hrel
        match i, hi with
        | 0, _ =>
          clear h1 h2
          go_wp2
          all_goals first
            | (go_round
               case rel => exact ⟨1, by decide, rfl, fun _ => by omega, fun h => absurd h (by decide)⟩
               case measure => decide)
            | (go_ret
               refine ⟨ret_bool ?_, rfl⟩
               rw [fitB, HF.out (decide_eq_false (by omega)), Bool.and_false])
        | 1, _ =>
          have h3 := h1 (by decide)
          clear h1 h2
          go_wp2
          all_goals first
            | (go_round
               case rel => exact ⟨2, by decide, rfl, fun _ => h3, fun _ => by omega⟩
               case measure => decide)
            | (go_ret
               refine ⟨ret_bool ?_, rfl⟩
               rw [fitB, HF.out (decide_eq_false (by omega)), Bool.and_false])
        | 2, _ =>
          have h3 := h1 (by decide)
          have h4 := h2 (by decide)
          clear h1 h2
          go_wp2
          go_round
          case rel => exact ⟨k + 1, by omega, by go_num, Lib.hid (by rw [HST.out, hall.out, Bool.true_and]; exact decide_eq_true (by omega))⟩
          case measure => simp [intOf]; omega
    · have hkl : L.take k = L := List.take_of_length_le (by omega)
      rw [hkl] at hall
      clear hkl
      go_wp2
      all_goals
        go_ret
        refine ⟨ret_bool ?_, rfl⟩
        rw [fitB, hall.out, Bool.and_true, rateB]
        first | (rw [decide_eq_decide]; omega) | (rw [eq_comm, decide_eq_false_iff_not]; omega)

theorem Try.infoInt : (Try.prog.info? 3).map (fun i => (i.zero, i.size, i.bytes)) = some (some (.int .i64 0), 1, 8) := by kernel_rfl
theorem pr_eq (x y u v : Int) (w : World) : (binOp .neq 24 (.agg #[.int .i64 x, .int .i64 y]) (.agg #[.int .i64 u, .int .i64 v])).run Try.prog w = .ok (.bool (!decide (x = u ∧ y = v))) w := by
  obtain ⟨i0, hi0, -, -, -⟩ := info_parts Try.infoInt
  rw [run_neq_struct, run_equalIn_array (P := Try.prog) w 9999 _ _ Try.underlying24 hi0]
  have hc : Try.prog.cellsOf 3 = 1 := by kernel_rfl
  have hr : List.range 2 = [0, 1] := rfl
  rw [hc, hr]
  simp [Op.eqItems, part, go_sem]
  by_cases h1 : x = u <;> by_cases h2 : y = v <;> simp [h1, h2]
instance : DecidableEq Pr := fun p q => if h : p.x = q.x ∧ p.y = q.y then isTrue (by cases p; cases q; simp at h; simp [h]) else isFalse (by intro e; subst e; exact h ⟨rfl, rfl⟩)

set_option maxRecDepth 100000 in
set_option maxHeartbeats 1000000 in
theorem samples_any (A A' : Option Addr) (c c' : Nat) (L L' : List Pr) (w : World) (hn : L.length ≤ 200000) (hn' : L'.length ≤ 200000) (hr : Rd w w.heap.size A (L.flatMap Pr.cells)) (hr' : Rd w w.heap.size A' (L'.flatMap Pr.cells)) (he : L = L') :
    Calls Try.prog 13 #[.slice A L.length c, .slice A' L'.length c'] w fun e w' => e = .returned (.bool true) ∧ Below w.heap.size w w' := by
  subst he
  have HR := Lib.hid hr
  have HR' := Lib.hid hr'
  clear hr hr'
  go_enter Try.func13, Try.ntmps13
  go_wp2
  go_loopw [5] (fun i wr => ∃ k : Nat, k ≤ L.length ∧ i = .int .i64 k ∧ Below w.heap.size w wr) (fun i _ => L.length - (intOf i).toNat)
  case atStart => exact ⟨0, Nat.zero_le _, rfl, Below.refl _ _⟩
  case round =>
    obtain ⟨k, hk, rfl, hb⟩ := hrel
    by_cases hlt : k < L.length
    · obtain ⟨b, off, rfl, hB, hc⟩ := (HR.out.below hb (Nat.le_refl _)).at_ Pr.cells_length (by omega) hlt
      obtain ⟨b', off', rfl, hB', hc'⟩ := (HR'.out.below hb (Nat.le_refl _)).at_ Pr.cells_length (by omega) hlt
      have c0 := hc 0 _ rfl
      have c1 := hc 1 _ rfl
      have d0 := hc' 0 _ rfl
      have d1 := hc' 1 _ rfl
      rw [Nat.add_zero] at c0 d0
      have i1 : (0 : Int) ≤ (k : Int) := Int.natCast_nonneg _
      have i2 : (k : Int) < (L.length : Int) := by omega
      have kq := fun W => (pr_eq L[k].x L[k].y L[k].x L[k].y W).trans (by rw [decide_eq_true ⟨rfl, rfl⟩])
      clear hc hc'
      go_wp2
      go_quiet (fail)
      go_wp2
      go_roundw
      case rel => exact ⟨k + 1, by omega, by go_num, below_drewN hb _⟩
      case measure => simp [intOf]; omega
    · go_wp2
      go_ret
      exact ⟨rfl, hb⟩
end Go.Proofs.Ytmggnadhjgadnaa
