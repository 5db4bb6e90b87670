/-
  The walks of the reel's Inside, Right, Length, of the reference's Right, of the law's 'of'.
-/
import Derived.Test.YtaegekfdbhmcaaaDoorReelCut
namespace Go.Proofs.YtaegekfdbhmcaaaDoor
open Go.RowKit

def inOne (f : Int) (c : Cut) : Bool := decide (c.frm ≤ f) && decide (f < c.to_)
def idxFrom (f : Int) : Nat → List Cut → Int
  | _, [] => -1
  | k, c :: r => if inOne f c then (k : Int) else idxFrom f (k + 1) r
theorem idxFrom_bd (f : Int) : ∀ (L : List Cut) (k : Nat), idxFrom f k L = -1 ∨ ∃ j : Nat, idxFrom f k L = (k + j : Nat) ∧ ∃ h : j < L.length, inOne f L[j] = true
  | [], _ => .inl rfl
  | c :: r, k => by
    rw [idxFrom]
    split
    · exact .inr ⟨0, rfl, by simp, by simpa⟩
    · rcases idxFrom_bd f r (k + 1) with h | ⟨j, h, hj, hi⟩
      · exact .inl h
      · exact .inr ⟨j + 1, by rw [h]; congr 1; omega, by simpa using hj, by simpa using hi⟩
theorem idxFrom_some (f : Int) : ∀ (L : List Cut) (k : Nat), (∃ c ∈ L, inOne f c = true) → idxFrom f k L ≠ -1
  | [], _, h => by obtain ⟨c, hc, _⟩ := h; simp at hc
  | c :: r, k, h => by
    rw [idxFrom]
    split
    · omega
    · rename_i hn
      obtain ⟨x, hx, hp⟩ := h
      rcases List.mem_cons.1 hx with rfl | hx
      · exact absurd hp hn
      · exact idxFrom_some f r (k + 1) ⟨x, hx, hp⟩

set_option maxHeartbeats 400000 in
theorem closure_any (c : Cut) (f : Int) (p : Addr) (w : World) (hp : w.cell? p = some (.int .i64 f)) (hlt : p.block < w.heap.size) :
    Calls Tryd.prog 24 #[c.val, .pointer (some p)] w fun e w' => e = .returned (.bool (inOne f c)) ∧ Below w.heap.size w w' := by
  unfold Cut.val inOne
  obtain ⟨b, o, sp⟩ := p
  obtain rfl : sp = none := World.cell?_spot hp
  have hlt' : b < w.heap.size := hlt
  clear hlt
  by_cases h1 : c.frm ≤ f
  · have HD := Lib.hid (show decide (c.frm ≤ f) = true by simpa using h1)
    go_enter Tryd.func24, Tryd.ntmps24
    go_wp2
    all_goals
      go_ret
      refine ⟨ret_bool ?_, (by repeat (first | exact Below.refl _ _ | (with_reducible assumption) | apply bAlloc | apply below_drewN | apply Below.drew))⟩
      simp [*]
  · have hd : decide (c.frm ≤ f) = false := by simpa using h1
    go_enter Tryd.func24, Tryd.ntmps24
    go_wp2
    all_goals
      go_ret
      refine ⟨ret_bool ?_, (by repeat (first | exact Below.refl _ _ | (with_reducible assumption) | apply bAlloc | apply below_drewN | apply Below.drew))⟩
      simp

set_option maxHeartbeats 400000 in
theorem indexFunc_any (A : Option Addr) (c : Nat) (L : List Cut) (f : Int) (p : Addr) (w : World) (hn : L.length ≤ 1000) (hr : Rd w w.heap.size A (L.flatMap Cut.cells)) (hp : w.cell? p = some (.int .i64 f)) (hlt : p.block < w.heap.size) :
    Calls Tryd.prog 23 #[.slice A L.length c, .func (.func 24) #[] #[.pointer (some p)]] w fun e w' => e = .returned (.int .i64 (idxFrom f 0 L)) ∧ Below w.heap.size w w' := by
  have HR := Lib.hid hr
  have HP := Lib.hid hp
  clear hr hp
  go_enter Tryd.func23, Tryd.ntmps23
  go_wp2
  go_loopw [8] (fun i wr => ∃ k : Nat, k ≤ L.length ∧ i = .int .i64 k ∧ Hid (idxFrom f 0 L = idxFrom f k (L.drop k)) ∧ Below w.heap.size w wr) (fun i _ => L.length - (intOf i).toNat)
  case atStart => exact ⟨0, Nat.zero_le _, rfl, rfl, Below.refl _ _⟩
  case round =>
    obtain ⟨k, hk, rfl, hi, hb⟩ := hrel
    by_cases hlt : k < L.length
    · obtain ⟨b, off, rfl, hB, hc⟩ := (HR.out.below hb (Nat.le_refl _)).at_ Cut.cells_length (by omega) hlt
      have c0 := hc 0 _ rfl
      have c1 := hc 1 _ rfl
      have c2 := hc 2 _ rfl
      rw [Nat.add_zero] at c0
      clear hc
      have hst : idxFrom f k (L.drop k) = if inOne f L[k] then (k : Int) else idxFrom f (k + 1) (L.drop (k + 1)) := by
        rw [List.drop_eq_getElem_cons hlt, idxFrom]
      have HS := Lib.hid hst
      clear hst
      go_wp2_with fail
      refine (closure_any L[k] f p _ ((hb.cell (p := p) (by assumption)).trans HP.out) (Nat.lt_of_lt_of_le (by assumption) hb.size)).mono ?_
      rintro e w1 ⟨rfl, hb1⟩
      cases hin : inOne f L[k] with
      | true =>
        have HI := Lib.hid hin
        clear hin
        go_wp2
        go_ret
        exact ⟨ret_int (by rw [hi.out, HS.out, if_pos HI.out]), bTrans hb hb1⟩
      | false =>
        have HI := Lib.hid hin
        clear hin
        go_wp2
        go_roundw
        case rel => exact ⟨k + 1, by omega, by go_num, (show _ = _ by rw [hi.out, HS.out, if_neg (by rw [HI.out]; simp)]), bTrans hb hb1⟩
        case measure => simp [intOf]; omega
    · have e0 : idxFrom f 0 L = -1 := by rw [hi.out, List.drop_of_length_le (by omega), idxFrom]
      have E0 := Lib.hid e0
      clear e0
      go_wp2
      go_ret
      exact ⟨ret_int E0.out.symm, hb⟩

def insK (f : Int) (L : List Cut) : Int := if idxFrom f 0 L < 0 then 0 else idxFrom f 0 L
def insB (f : Int) (L : List Cut) : Bool := decide (0 ≤ idxFrom f 0 L)
theorem ret_ib {a b : Int} {c d : Bool} (h : a = b) (k : c = d) : Ending.returned (.tuple #[.int .i64 a, .bool c]) = .returned (.tuple #[.int .i64 b, .bool d]) := by rw [h, k]

set_option maxHeartbeats 400000 in
theorem inside_any (A : Option Addr) (c : Nat) (L : List Cut) (f : Int) (w : World) (hn : L.length ≤ 1000) (hr : Rd w w.heap.size A (L.flatMap Cut.cells)) :
    Calls Tryd.prog 9 #[.slice A L.length c, .int .i64 f] w fun e w' => e = .returned (.tuple #[.int .i64 (insK f L), .bool (insB f L)]) ∧ Below w.heap.size w w' := by
  have HR := Lib.hid hr
  clear hr
  have hmf : ∀ (fn : Fn) (first cap : Array Value) (w : World), (Instr.makeFunc fn first cap).run Tryd.prog w = .ok (.func fn first cap) w := fun _ _ _ _ => rfl
  by_cases hneg : idxFrom f 0 L < 0
  · have h1 := Lib.hid (show insB f L = false by unfold insB; simpa using hneg)
    have h2 := Lib.hid (show insK f L = 0 by unfold insK; rw [if_pos hneg])
    go_enter Tryd.func9, Tryd.ntmps9
    go_wp2_with fail
    refine (indexFunc_any _ _ _ f ⟨w.heap.size, 0, none⟩ _ (by omega) ((HR.out.below (w' := w.alloc (.cells #[.int .i64 f] 3)) (by repeat (first | exact Below.refl _ _ | (with_reducible assumption) | apply bAlloc | apply below_drewN | apply Below.drew)) (Nat.le_refl _)).more (by simp)) (by simp [go_sem]) (by simp)).mono ?_
    rintro e w1 ⟨rfl, hb1⟩
    go_wp2
    go_ret2
    exact ⟨ret_ib h2.out.symm h1.out.symm, bTrans (by repeat (first | exact Below.refl _ _ | (with_reducible assumption) | apply bAlloc | apply below_drewN | apply Below.drew)) hb1⟩
  · have h1 := Lib.hid (show insB f L = true by unfold insB; simpa using hneg)
    have h2 := Lib.hid (show insK f L = idxFrom f 0 L by unfold insK; rw [if_neg hneg])
    go_enter Tryd.func9, Tryd.ntmps9
    go_wp2_with fail
    refine (indexFunc_any _ _ _ f ⟨w.heap.size, 0, none⟩ _ (by omega) ((HR.out.below (w' := w.alloc (.cells #[.int .i64 f] 3)) (by repeat (first | exact Below.refl _ _ | (with_reducible assumption) | apply bAlloc | apply below_drewN | apply Below.drew)) (Nat.le_refl _)).more (by simp)) (by simp [go_sem]) (by simp)).mono ?_
    rintro e w1 ⟨rfl, hb1⟩
    go_wp2
    go_ret2
    exact ⟨ret_ib h2.out.symm h1.out.symm, bTrans (by repeat (first | exact Below.refl _ _ | (with_reducible assumption) | apply bAlloc | apply below_drewN | apply Below.drew)) hb1⟩

def RightL : Int → List Cut → Prop
  | _, [] => True
  | z, c :: r => z < c.frm ∧ c.frm < c.to_ ∧ c.to_ ≤ 1073741824 ∧ 0 ≤ c.weight ∧ c.weight ≤ 1073741824 ∧ RightL c.to_ r
theorem RightL.cons {z : Int} {L : List Cut} {k : Nat} (h : RightL z (L.drop k)) (hk : k < L.length) : z < L[k].frm ∧ L[k].frm < L[k].to_ ∧ L[k].to_ ≤ 1073741824 ∧ 0 ≤ L[k].weight ∧ L[k].weight ≤ 1073741824 ∧ RightL L[k].to_ (L.drop (k + 1)) := by
  rw [List.drop_eq_getElem_cons hk] at h; exact h

set_option maxHeartbeats 400000 in
theorem right_yes (A : Option Addr) (c : Nat) (L : List Cut) (w : World) (hn : L.length ≤ 1000) (hr : Rd w w.heap.size A (L.flatMap Cut.cells)) (hR : RightL (-1) L) :
    Calls Tryd.prog 7 #[.slice A L.length c] w fun e w' => e = .returned (.bool true) ∧ Below w.heap.size w w' := by
  have HR := Lib.hid hr
  have HG := Lib.hid hR
  clear hr hR
  go_enter Tryd.func7, Tryd.ntmps7
  go_wp2
  go_loopw [3, 8] (fun last i wr => ∃ k : Nat, k ≤ L.length ∧ i = .int .i64 k ∧ ∃ z, last = .int .i64 z ∧ Hid (RightL z (L.drop k)) ∧ Below w.heap.size w wr) (fun _ i _ => L.length - (intOf i).toNat)
  case atStart => exact ⟨0, Nat.zero_le _, rfl, -1, rfl, HG.out, Below.refl _ _⟩
  case round =>
    obtain ⟨k, hk, rfl, z, rfl, hz, hb⟩ := hrel
    by_cases hlt : k < L.length
    · obtain ⟨b, off, rfl, hB, hc⟩ := (HR.out.below hb (Nat.le_refl _)).at_ Cut.cells_length (by omega) hlt
      have c0 := hc 0 _ rfl
      have c1 := hc 1 _ rfl
      have c2 := hc 2 _ rfl
      rw [Nat.add_zero] at c0
      clear hc
      obtain ⟨r1, r2, r3, r4, r5, r6⟩ := hz.out.cons hlt
      have HZ := Lib.hid r6
      clear r6
      go_wp2_with fail
      refine (frame_any _ _).mono ?_
      rintro e w1 ⟨rfl, rfl⟩
      rw [(show frameOk L[k].weight = true by simp [frameOk, r4, r5])]
      go_wp2
      go_roundw
      case rel => exact ⟨k + 1, by omega, by go_num, _, rfl, HZ.out, bAlloc hb _⟩
      case measure => simp [intOf]; omega
    · go_wp2
      go_ret
      exact ⟨rfl, hb⟩

set_option maxHeartbeats 400000 in
theorem size_any (c : Cut) (w : World) (h0 : 0 ≤ c.frm) (h1 : c.frm ≤ c.to_) (h2 : c.to_ ≤ 1073741824) :
    Calls Tryd.prog 19 #[c.val] w fun e w' => e = .returned (.int .i64 (c.to_ - c.frm)) ∧ Below w.heap.size w w' := by
  unfold Cut.val
  go_enter Tryd.func19, Tryd.ntmps19
  go_wp2
  go_ret
  exact ⟨rfl, (by repeat (first | exact Below.refl _ _ | (with_reducible assumption) | apply bAlloc | apply below_drewN | apply Below.drew))⟩

def lengthOf (L : List Cut) : Int := (L.map fun c => c.to_ - c.frm).sum
theorem lengthOf_take (L : List Cut) (k : Nat) (h : k < L.length) : lengthOf (L.take (k + 1)) = lengthOf (L.take k) + (L[k].to_ - L[k].frm) := by
  unfold lengthOf
  rw [List.take_succ_eq_append_getElem h, List.map_append, List.sum_append]
  simp

set_option maxHeartbeats 400000 in
theorem length_any (A : Option Addr) (c : Nat) (L : List Cut) (w : World) (hn : L.length ≤ 1000) (hr : Rd w w.heap.size A (L.flatMap Cut.cells)) (hc : ∀ c ∈ L, 0 ≤ c.frm ∧ c.frm ≤ c.to_ ∧ c.to_ ≤ 1073741824) :
    Calls Tryd.prog 12 #[.slice A L.length c] w fun e w' => e = .returned (.int .i64 (lengthOf L)) ∧ Below w.heap.size w w' := by
  have HR := Lib.hid hr
  have HG := Lib.hid hc
  clear hr hc
  go_enter Tryd.func12, Tryd.ntmps12
  go_wp2
  go_loopw [3, 8] (fun last i wr => ∃ k : Nat, k ≤ L.length ∧ i = .int .i64 k ∧ ∃ z, last = .int .i64 z ∧ Hid (z = lengthOf (L.take k)) ∧ 0 ≤ z ∧ z ≤ k * 1073741824 ∧ Below w.heap.size w wr) (fun _ i _ => L.length - (intOf i).toNat)
  case atStart => exact ⟨0, Nat.zero_le _, rfl, 0, rfl, rfl, by omega, by omega, Below.refl _ _⟩
  case round =>
    obtain ⟨k, hk, rfl, z, rfl, hz, z0, z1, hb⟩ := hrel
    by_cases hlt : k < L.length
    · obtain ⟨b, off, rfl, hB, hc⟩ := (HR.out.below hb (Nat.le_refl _)).at_ Cut.cells_length (by omega) hlt
      have c0 := hc 0 _ rfl
      have c1 := hc 1 _ rfl
      have c2 := hc 2 _ rfl
      rw [Nat.add_zero] at c0
      clear hc
      obtain ⟨r1, r2, r3⟩ := HG.out L[k] (List.getElem_mem hlt)
      go_wp2_with fail
      refine (size_any L[k] _ r1 r2 r3).mono ?_
      rintro e w1 ⟨rfl, hb1⟩
      go_wp2
      go_roundw
      case rel => exact ⟨k + 1, by omega, by go_num, _, rfl, (show _ = _ by rw [lengthOf_take L k hlt, ← hz.out]), by omega, by omega, bTrans (bAlloc hb _) hb1⟩
      case measure => simp [intOf]; omega
    · have e1 : z = lengthOf L := by rw [hz.out, List.take_of_length_le (by omega)]
      have E1 := Lib.hid e1
      clear e1
      go_wp2
      go_ret
      exact ⟨ret_int E1.out, hb⟩

set_option maxRecDepth 100000 in
set_option maxHeartbeats 1000000 in
theorem rRight_yes (A : Option Addr) (c : Nat) (L : List Cut) (w : World) (hn : L.length ≤ 1000) (hr : Rd w w.heap.size A (L.flatMap Cut.cells)) (hR : RightL (-1) L) :
    Calls Tryd.prog 8 #[.slice A L.length c] w fun e w' => e = .returned (.bool true) ∧ Below w.heap.size w w' := by
  have HR := Lib.hid hr
  have HG := Lib.hid hR
  clear hr hR
  go_enter Tryd.func8, Tryd.ntmps8
  go_wp2
  go_loopw [3] (fun i wr => ∃ k : Nat, k ≤ L.length ∧ i = .int .i64 k ∧ Hid (∃ z, (∀ (_ : 0 < k) (_ : k ≤ L.length), z = (L[k - 1]'(by omega)).to_) ∧ -1 ≤ z ∧ RightL z (L.drop k)) ∧ Below w.heap.size w wr) (fun i _ => L.length - (intOf i).toNat)
  case atStart => exact ⟨0, Nat.zero_le _, rfl, ⟨-1, fun h => absurd h (by omega), by omega, HG.out⟩, Below.refl _ _⟩
  case round =>
    obtain ⟨k, hk, rfl, hz, hb⟩ := hrel
    by_cases hlt : k < L.length
    · obtain ⟨b, off, hA, hB, hc⟩ := (HR.out.below hb (Nat.le_refl _)).at_ Cut.cells_length (by omega) hlt
      subst hA
      have c0 := hc 0 _ rfl
      have c1 := hc 1 _ rfl
      have c2 := hc 2 _ rfl
      rw [Nat.add_zero] at c0
      clear hc
      obtain ⟨z, hz1, hz2, hz3⟩ := hz.out
      obtain ⟨r1, r2, r3, r4, r5, r6⟩ := hz3.cons hlt
      have HZ := Lib.hid r6
      have HZ1 := Lib.hid hz1
      clear r6 hz1 hz3 hz
      have r0 : 0 ≤ L[k].frm := by omega
      have hzr := Lib.hid r1
      clear r1 hz2
      by_cases hk0 : k = 0
      · subst hk0
        simp only [Nat.zero_mul, Nat.add_zero] at c0 c1 c2
        obtain ⟨w1, hw1⟩ : ∃ w1, w1 = wr.alloc (.cells #[.int .i64 L[0].frm, .int .i64 L[0].to_, .int .i64 L[0].weight] 32) := ⟨_, rfl⟩
        have d0 : w1.cell? ⟨wr.heap.size, 0, none⟩ = some (.int .i64 L[0].frm) := by rw [hw1]; simp [go_sem]
        have d1 : w1.cell? ⟨wr.heap.size, 1, none⟩ = some (.int .i64 L[0].to_) := by rw [hw1]; simp [go_sem]
        have d2 : w1.cell? ⟨wr.heap.size, 2, none⟩ = some (.int .i64 L[0].weight) := by rw [hw1]; simp [go_sem]
        have hb1 : Below w.heap.size w w1 := by rw [hw1]; exact bAlloc hb _
        go_wp2
        rw [← hw1]
        clear hw1 c0 c1 c2 hb
        have e1 : decide (L[0].frm < 0) = false := by simpa using r0
        have e2 : decide (L[0].to_ ≤ L[0].frm) = false := by simpa using r2
        have e3 : decide ((1073741824 : Int) < L[0].to_) = false := by simpa using r3
        have e4 : decide (L[0].weight < 0) = false := by simpa using r4
        have e5 : decide ((1073741824 : Int) < L[0].weight) = false := by simpa using r5
        go_quiet (fail)
        go_wp2
        go_roundw
        case rel => exact ⟨1, by omega, rfl, ⟨_, fun _ _ => rfl, by omega, HZ.out⟩, below_drewN hb1 _⟩
        case measure => simp [intOf]; omega
      · obtain ⟨b', off', hA', -, hc'⟩ := (HR.out.below hb (Nat.le_refl _)).at_ Cut.cells_length (by omega) (show k - 1 < L.length by omega)
        simp only [Option.some.injEq, Addr.mk.injEq, and_true] at hA'
        obtain ⟨rfl, rfl⟩ := hA'
        have p1 := hc' 1 _ rfl
        clear hc'
        have hk1 : 1 ≤ k := by omega
        have r7 : (L[k - 1]'(by omega)).to_ < L[k].frm := by rw [← HZ1.out (by omega) hk]; exact hzr.out
        have hk2 : 0 < k := by omega
        obtain ⟨w1, hw1⟩ : ∃ w1, w1 = wr.alloc (.cells #[.int .i64 L[k].frm, .int .i64 L[k].to_, .int .i64 L[k].weight] 32) := ⟨_, rfl⟩
        have d0 : w1.cell? ⟨wr.heap.size, 0, none⟩ = some (.int .i64 L[k].frm) := by rw [hw1]; simp [go_sem]
        have d1 : w1.cell? ⟨wr.heap.size, 1, none⟩ = some (.int .i64 L[k].to_) := by rw [hw1]; simp [go_sem]
        have d2 : w1.cell? ⟨wr.heap.size, 2, none⟩ = some (.int .i64 L[k].weight) := by rw [hw1]; simp [go_sem]
        have hb1 : Below w.heap.size w w1 := by rw [hw1]; exact bAlloc hb _
        have p2 : w1.cell? ⟨b, off + (k - 1) * 3 + 1, none⟩ = some (.int .i64 (L[k - 1]'(by omega)).to_) := by rw [hw1]; exact (World.cell?_alloc_lt wr _ _ (Nat.lt_of_lt_of_le hB hb.size)).trans p1
        go_wp2
        rw [← hw1]
        clear hw1 c0 c1 c2 hb p1
        have e1 : decide (L[k].frm < 0) = false := by simpa using r0
        have e2 : decide (L[k].to_ ≤ L[k].frm) = false := by simpa using r2
        have e3 : decide ((1073741824 : Int) < L[k].to_) = false := by simpa using r3
        have e4 : decide (L[k].weight < 0) = false := by simpa using r4
        have e5 : decide ((1073741824 : Int) < L[k].weight) = false := by simpa using r5
        have e7 : decide (L[k].frm ≤ (L[k - 1]'(by omega)).to_) = false := by simpa using r7
        have e6 : decide (0 < (k : Int)) = true := by simpa using hk2
        have s1 : IntKind.i64.wrap ((k : Int) - 1) = (k : Int) - 1 := IntWalk.i64_in _ (by omega)
        have s2 : 0 ≤ (k : Int) - 1 := by omega
        have s3 : ((k : Int) - 1).toNat = k - 1 := by omega
        have s4 : (k : Int) - 1 < (L.length : Int) := by omega
        go_quiet (fail)
        clear s1 s2 s3 s4
        go_wp2
        go_roundw
        case rel => exact ⟨k + 1, by omega, by go_num, ⟨_, fun _ _ => rfl, by omega, HZ.out⟩, below_drewN hb1 _⟩
        case measure => simp [intOf]; omega
    · go_wp2
      go_ret
      exact ⟨rfl, hb⟩
end Go.Proofs.YtaegekfdbhmcaaaDoor
