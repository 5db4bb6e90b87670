/-
  What a meter answers, and what the reference counts anew.
-/
import Derived.Test.YtnepjdpifbjiiaaDoorMeterLaw
namespace Go.Proofs.YtnepjdpifbjiiaaDoor
open Go.RowKit
set_option maxRecDepth 100000

set_option maxHeartbeats 400000 in
theorem outs_any (g : Nat) (f : Nat → Int) (w : World) (hf : IBlk w g 53 74 f) : Calls Tryd.prog 13 #[.pointer (some ⟨g, 0, none⟩)] w fun e w' => e = .returned (.tuple #[.int .i64 (f 0), .int .i64 (f 1)]) ∧ Below w.heap.size w w' := by
  have c0 := hf.cell 0 (by decide)
  have c1 := hf.cell 1 (by decide)
  clear hf
  go_enter Tryd.func13, Tryd.ntmps13
  go_wp2
  go_quiet (fail)
  go_wp2
  go_ret2
  exact ⟨rfl, below_drewN (Below.refl _ _) _⟩
set_option maxHeartbeats 400000 in
theorem sent_any (g : Nat) (f : Nat → Int) (w : World) (hf : IBlk w g 53 74 f) : Calls Tryd.prog 14 #[.pointer (some ⟨g, 0, none⟩)] w fun e w' => e = .returned (.tuple #[.int .i64 (f 2), .int .i64 (f 3)]) ∧ Below w.heap.size w w' := by
  have c0 := hf.cell 2 (by decide)
  have c1 := hf.cell 3 (by decide)
  clear hf
  go_enter Tryd.func14, Tryd.ntmps14
  go_wp2
  go_quiet (fail)
  go_wp2
  go_ret2
  exact ⟨rfl, below_drewN (Below.refl _ _) _⟩
set_option maxHeartbeats 400000 in
theorem played_any (g : Nat) (f : Nat → Int) (w : World) (hf : IBlk w g 53 74 f) : Calls Tryd.prog 16 #[.pointer (some ⟨g, 0, none⟩)] w fun e w' => e = .returned (.int .i64 (f 4)) ∧ w = w' := by
  have c0 := hf.cell 4 (by decide)
  clear hf
  go_enter Tryd.func16, Tryd.ntmps16
  go_wp2
  go_ret
  exact ⟨rfl, rfl⟩
def kindF (f : Nat → Int) (k : Int) : Int := if 1 ≤ k ∧ k ≤ 4 then f (5 + k.toNat) else 0
set_option maxHeartbeats 400000 in
theorem cmds_any (g : Nat) (f : Nat → Int) (k : Int) (w : World) (hf : IBlk w g 53 74 f) : Calls Tryd.prog 15 #[.pointer (some ⟨g, 0, none⟩), .int .i64 k] w fun e w' => e = .returned (.int .i64 (kindF f k)) ∧ w = w' := by
  by_cases h : 1 ≤ k ∧ k ≤ 4
  · obtain ⟨n, rfl⟩ : ∃ n : Nat, k = n := ⟨k.toNat, by omega⟩
    have c0 := hf.cell (5 + n) (by omega)
    have hr : kindF f n = f (5 + n) := by unfold kindF; rw [if_pos h]; simp
    have h5 : (n : Int) < 5 := by omega
    rw [hr]
    clear hf hr
    go_enter Tryd.func15, Tryd.ntmps15
    go_wp2
    go_ret
    exact ⟨rfl, rfl⟩
  · have hr : kindF f k = 0 := by unfold kindF; rw [if_neg h]
    rw [hr]
    clear hf hr
    by_cases h1 : k < 1
    · clear h
      go_enter Tryd.func15, Tryd.ntmps15
      go_wp2
      go_ret
      exact ⟨rfl, rfl⟩
    · have h2 : 4 < k := by omega
      clear h
      go_enter Tryd.func15, Tryd.ntmps15
      go_wp2
      go_ret
      exact ⟨rfl, rfl⟩
def smoothF (f : Nat → Int) : Int := if f 6 = 0 then 1000 else f 10 * 1000 / f 6
set_option maxHeartbeats 400000 in
theorem smooth_any (g : Nat) (f : Nat → Int) (w : World) (hf : IBlk w g 53 74 f) (hs : Sm f 1000000) : Calls Tryd.prog 20 #[.pointer (some ⟨g, 0, none⟩)] w fun e w' => e = .returned (.int .i64 (smoothF f)) ∧ Below w.heap.size w w' := by
  have c6 := hf.cell 6 (by decide)
  have c10 := hf.cell 10 (by decide)
  have b6 := hs 6 (by decide)
  have b10 := hs 10 (by decide)
  by_cases h6 : f 6 = 0
  · have hr : smoothF f = 1000 := by unfold smoothF; rw [if_pos h6]
    rw [hr]
    rw [h6] at c6
    clear hf hr h6 hs
    go_enter Tryd.func20, Tryd.ntmps20
    go_wp2
    go_ret
    exact ⟨rfl, Below.refl _ _⟩
  · have hr : smoothF f = f 10 * 1000 / f 6 := by unfold smoothF; rw [if_neg h6]
    have hd : (f 6 == 0) = false := by simpa using h6
    have hpos : 0 < f 6 := by omega
    rw [hr]
    have hwr : IntKind.i64.wrap (f 10 * 1000) = f 10 * 1000 := by rw [IntKind.wrap_i64]; omega
    have hnn : 0 ≤ f 10 * 1000 := by omega
    have htd : (f 10 * 1000).tdiv (f 6) = f 10 * 1000 / f 6 := Int.tdiv_eq_ediv_of_nonneg hnn
    have hq : 0 ≤ f 10 * 1000 / f 6 ∧ f 10 * 1000 / f 6 ≤ f 10 * 1000 := ⟨Int.ediv_nonneg hnn (by omega), Int.ediv_le_self _ hnn⟩
    have hwq : IntKind.i64.wrap (f 10 * 1000 / f 6) = f 10 * 1000 / f 6 := by rw [IntKind.wrap_i64]; omega
    clear hf hr h6 hs
    go_enter Tryd.func20, Tryd.ntmps20
    go_wp2
    go_quiet (fail)
    go_wp2
    go_ret
    exact ⟨rfl, below_drewN (Below.refl _ _) _⟩

/-! The reference. -/
def movedOf (l : List OutP) : Int := ((l.filter OutP.moved).length : Nat)
theorem movedOf_take (l : List OutP) (k : Nat) (h : k < l.length) : movedOf (l.take (k + 1)) = movedOf (l.take k) + if l[k].moved then 1 else 0 := by
  unfold movedOf
  rw [List.take_succ_eq_append_getElem h, List.filter_append, List.length_append]
  cases hm : l[k].moved <;> simp [hm]
theorem movedOf_bd (l : List OutP) : 0 ≤ movedOf l ∧ movedOf l ≤ l.length := by
  unfold movedOf
  have := List.length_filter_le OutP.moved l
  omega
set_option maxHeartbeats 400000 in
theorem rMoved_any (A : Option Addr) (c : Nat) (l : List OutP) (w : World) (hn : l.length ≤ 1000) (hr : Rd w w.heap.size A (l.flatMap OutP.cells)) :
    Calls Tryd.prog 23 #[.slice A l.length c] w fun e w' => e = .returned (.int .i64 (movedOf l)) ∧ w = w' := by
  have HR := Lib.hid hr
  clear hr
  go_enter Tryd.func23, Tryd.ntmps23
  go_wp2
  go_loop [3, 4] (fun n i => ∃ k : Nat, k ≤ l.length ∧ i = .int .i64 k ∧ n = .int .i64 (movedOf (l.take k))) (fun _ i => l.length - (intOf i).toNat)
  case atStart => exact ⟨0, Nat.zero_le _, rfl, rfl⟩
  case round =>
    obtain ⟨k, hk, rfl, rfl⟩ := hrel
    by_cases hlt : k < l.length
    · obtain ⟨b, off, rfl, hB, hc⟩ := HR.out.at_ OutP.cells_length (by decide) hlt
      have c2 := hc 2 _ rfl
      have hst := movedOf_take l k hlt
      have HST := Lib.hid hst
      have hbd := movedOf_bd (l.take k)
      rw [List.length_take] at hbd
      clear hc hst
      cases hm : l[k].moved
      all_goals
        have HM := Lib.hid hm
        rw [hm] at c2
        clear hm
        go_wp2
        go_round
        case rel => exact ⟨k + 1, by omega, by go_num, by rw [HST.out, HM.out]; simp⟩
        case measure => simp [intOf]; omega
    · rw [List.take_of_length_le (by omega)]
      go_wp2
      go_ret
      exact ⟨rfl, rfl⟩

/-- All commands of a kind. -/
def cmdsOf (l : List OutP) (k : Int) : List CmdP := if 1 ≤ k ∧ k ≤ 4 then (l.flatMap OutP.cmds).filter fun c => decide (c.kind = k) else []
def kindOk (k : Int) (c : CmdP) : Bool := decide (c.kind = k) && decide (1 ≤ k ∧ k ≤ 4)
theorem cmdsOf_eq (l : List OutP) (k : Int) : cmdsOf l k = (l.flatMap OutP.cmds).filter (kindOk k) := by
  unfold cmdsOf
  split
  · rename_i h
    congr 1
    funext c
    unfold kindOk
    rw [decide_eq_true h, Bool.and_true]
  · rename_i h
    rw [eq_comm, List.filter_eq_nil_iff]
    intro c _
    unfold kindOk
    rw [decide_eq_false h, Bool.and_false]; decide
theorem flat_take (l : List OutP) (k : Nat) (h : k < l.length) : (l.take (k + 1)).flatMap OutP.cmds = (l.take k).flatMap OutP.cmds ++ l[k].cmds := by
  rw [List.take_succ_eq_append_getElem h, List.flatMap_append]; simp
theorem Tryd.infoCmd : (Tryd.prog.info? 47).map (fun i => (i.zero, i.size, i.bytes)) = some (some (.agg #[.int .i64 0, .int .i64 0, .int .i64 0, .int .i64 0, .int .i64 0, .int .i64 0, .int .i64 0, .int .i64 0, .int .i64 0, .int .i64 0, .int .i64 0, .bool false]), 12, 96) := by kernel_rfl
theorem cmd_oneCell (x : CmdP) : ∀ u ∈ x.cells, u.oneCell' = true := by
  intro u hu
  simp only [CmdP.cells, List.mem_cons, List.not_mem_nil, or_false] at hu
  rcases hu with rfl | rfl | rfl | rfl | rfl | rfl | rfl | rfl | rfl | rfl | rfl | rfl <;> rfl
theorem cmdsOf_len (l : List OutP) (k : Int) (hl : l.length ≤ 200) (hc : ∀ o ∈ l, o.cmds.length ≤ 60) : (cmdsOf l k).length ≤ 12000 := by
  rw [cmdsOf_eq]
  refine Nat.le_trans (List.length_filter_le _ _) ?_
  have h : ∀ m : List OutP, (∀ o ∈ m, o.cmds.length ≤ 60) → (m.flatMap OutP.cmds).length ≤ 60 * m.length := fun m => by
    induction m with
    | nil => simp
    | cons o m ih =>
      intro h
      rw [List.flatMap_cons, List.length_append, List.length_cons]
      have h1 := h o (by simp)
      have h2 := ih fun x hx => h x (by simp [hx])
      omega
  have := h l hc
  omega
end Go.Proofs.YtnepjdpifbjiiaaDoor
