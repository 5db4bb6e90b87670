/-
  A meter as a block of numbers: nothing was, one command, what a peer does.
-/
import Derived.Test.YtnepjdpifbjiiaaDoorInts
import Derived.Test.YtnepjdpifbjiiaaDoorEv0
import Derived.Deep.RegionLaw
import Derived.Deep.RegionHeld3
namespace Go.Proofs.YtnepjdpifbjiiaaDoor
open Go.RowKit
set_option maxRecDepth 100000

structure CmdP where
  kind : Int
  ev : Ev
  late : Int
  played : Bool
def CmdP.cells (c : CmdP) : List Value := [.int .i64 c.kind, .int .i64 c.ev.frame, .int .i64 c.ev.emitter, .int .i64 c.ev.kind, .int .i64 c.ev.ord, .int .i64 c.ev.asset, .int .i64 c.ev.gain, .int .i64 c.ev.pan, .int .i64 c.ev.prio, .int .i64 c.ev.len, .int .i64 c.late, .bool c.played]
theorem CmdP.cells_length (c : CmdP) : c.cells.length = 12 := rfl
def CmdP.val (c : CmdP) : Value := .agg #[.int .i64 c.kind, .int .i64 c.ev.frame, .int .i64 c.ev.emitter, .int .i64 c.ev.kind, .int .i64 c.ev.ord, .int .i64 c.ev.asset, .int .i64 c.ev.gain, .int .i64 c.ev.pan, .int .i64 c.ev.prio, .int .i64 c.ev.len, .int .i64 c.late, .bool c.played]
def clamp (n : Int) : Nat := (max 0 (min n 63)).toNat
theorem clamp_cast (n : Int) : ((clamp n : Nat) : Int) = max 0 (min n 63) := by unfold clamp; omega
theorem clamp_le (n : Int) : clamp n ≤ 63 := by unfold clamp; omega
def cmdF (f : Nat → Int) (c : CmdP) : Nat → Int :=
  if c.kind = 1 then upd (upd f 6 (f 6 + 1)) (10 + clamp c.late) (f (10 + clamp c.late) + 1)
  else if c.kind = 2 then upd f 7 (f 7 + 1)
  else if c.kind = 3 then upd f 8 (f 8 + 1)
  else if c.kind = 4 then (if c.played then upd (upd f 9 (f 9 + 1)) 4 (f 4 + 1) else upd f 9 (f 9 + 1))
  else f
/-- All counts but the bytes' are small. -/
def Sm (f : Nat → Int) (B : Int) : Prop := ∀ j, j ≠ 3 → 0 ≤ f j ∧ f j ≤ B
theorem Sm.upd {f : Nat → Int} {B : Int} (h : Sm f B) (i : Nat) (v : Int) (hv : 0 ≤ v ∧ v ≤ B + 1) : Sm (upd f i v) (B + 1) := by
  intro j hj
  unfold Go.Proofs.YtnepjdpifbjiiaaDoor.upd
  split
  · exact hv
  · have := h j hj; omega
theorem Sm.more {f : Nat → Int} {B B' : Int} (h : Sm f B) (hb : B ≤ B') : Sm f B' := fun j hj => by have := h j hj; omega
theorem Sm.cmd {f : Nat → Int} {B : Int} (h : Sm f B) (c : CmdP) : Sm (cmdF f c) (B + 1) := by
  have hl := clamp_le c.late
  unfold cmdF
  split
  · intro j hj
    unfold Go.Proofs.YtnepjdpifbjiiaaDoor.upd
    split
    · have := h (10 + clamp c.late) (by omega); omega
    · split
      · have := h 6 (by omega); omega
      · have := h j hj; omega
  · split
    · exact h.upd _ _ (by have := h 7 (by omega); omega)
    · split
      · exact h.upd _ _ (by have := h 8 (by omega); omega)
      · split
        · split
          · intro j hj
            unfold Go.Proofs.YtnepjdpifbjiiaaDoor.upd
            split
            · have := h 4 (by omega); omega
            · split
              · have := h 9 (by omega); omega
              · have := h j hj; omega
          · exact h.upd _ _ (by have := h 9 (by omega); omega)
        · exact h.more (by omega)

set_option maxHeartbeats 1000000 in
theorem mwithin_any (a b c : Int) (w : World) : Calls Tryd.prog 30 #[.int .i64 a, .int .i64 b, .int .i64 c] w fun e w' => e = .returned (.int .i64 (max b (min a c))) ∧ w = w' := by
  go_enter Tryd.func30, Tryd.ntmps30
  go_wp2
  all_goals
    go_ret
    exact ⟨ret_int (by omega), rfl⟩

theorem Tryd.zeroMeter (w : World) : (zeroValue 53).run Tryd.prog w = .ok (.agg (rowOf 74 fun _ => Value.int .i64 0).toArray) w := by kernel_rfl
set_option maxHeartbeats 1000000 in
theorem new_any (w : World) : Calls Tryd.prog 8 #[] w fun e w' => e = .returned (.pointer (some ⟨w.heap.size, 0, none⟩)) ∧ IBlk w' w.heap.size 53 74 (fun _ => 0) ∧ Below w.heap.size w w' := by
  have hz := Tryd.zeroMeter
  go_enter Tryd.func8, Tryd.ntmps8
  go_wp2
  go_ret
  refine ⟨rfl, ?_, bAlloc (Below.refl _ _) _⟩
  have := Blk.new w 53 (rowOf 74 fun _ => Value.int .i64 0).toArray
  exact this

set_option maxHeartbeats 2000000 in
theorem cmd_any (g : Nat) (f : Nat → Int) (c : CmdP) (w : World) (hf : IBlk w g 53 74 f) (hs : Sm f 1000000) :
    Calls Tryd.prog 21 #[.pointer (some ⟨g, 0, none⟩), c.val] w fun e w' => e = .returned (.tuple #[]) ∧ IBlk w' g 53 74 (cmdF f c) ∧ w.grownBy w' (some g) := by
  have HF := Lib.hid hf
  have hlt := hf.lt
  unfold CmdP.val
  by_cases h1 : c.kind = 1
  · have hcc := clamp_cast c.late
    obtain ⟨n, hn⟩ : ∃ n, clamp c.late = n := ⟨_, rfl⟩
    have hn2 := clamp_le c.late
    rw [hn] at hcc hn2
    have e : cmdF f c = upd (upd f 6 (f 6 + 1)) (10 + n) (f (10 + n) + 1) := by unfold cmdF; rw [if_pos h1, hn]
    have HE := Lib.hid e
    have c6 := hf.cell 6 (by decide)
    have f6 := hf.frozen 6
    have cn := hf.cell (10 + n) (by omega)
    have fn := hf.frozen (10 + n)
    have b6 := hs 6 (by decide)
    have bn := hs (10 + n) (by omega)
    have HCC := Lib.hid hcc
    have hcc' : max 0 (min c.late 63) = (n : Int) := hcc.symm
    have HMW := Lib.hid (fun W : World => (show Calls Tryd.prog 30 #[.int .i64 c.late, .int .i64 0, .int .i64 63] W fun e w' => e = .returned (.int .i64 (n : Int)) ∧ W = w' by rw [hcc]; exact mwithin_any _ _ _ _))
    rw [h1]
    have hwr : IntKind.i64.wrap (f (10 + n) + 1) = f (10 + n) + 1 := by rw [IntKind.wrap_i64]; omega
    have hn64 : (n : Int) < 64 := by omega
    clear e hf hs h1 hn hcc
    go_enter Tryd.func21, Tryd.ntmps21
    go_wp2
    go_region
    all_goals
      go_wp2
      go_region_law (first | (go_simp; go_at_call 30; refine (HMW.out _).mono ?_; rintro e w' ⟨rfl, rfl⟩; dsimp only))
      all_goals
        go_wp2
        go_end0
        refine ⟨rfl, ?_, oDrew (oDrew (oAlloc (oSet (oSet (oRefl _ _) _ _) _ _) _))⟩
        rw [HE.out]
        exact (((HF.out.set 6 _).set (10 + n) _).alloc _).drew.drew
  · by_cases h2 : c.kind = 2
    · have e : cmdF f c = upd f 7 (f 7 + 1) := by unfold cmdF; rw [if_neg h1, if_pos h2]
      have HE := Lib.hid e
      have c6 := hf.cell 7 (by decide)
      have f6 := hf.frozen 7
      have b6 := hs 7 (by decide)
      rw [h2]
      clear e hf hs h1 h2
      go_enter Tryd.func21, Tryd.ntmps21
      go_wp2
      go_region
      all_goals
        go_wp2
        go_end0
        refine ⟨rfl, ?_, oDrew (oAlloc (oSet (oRefl _ _) _ _) _)⟩
        rw [HE.out]
        exact ((HF.out.set 7 _).alloc _).drew
    · by_cases h3 : c.kind = 3
      · have e : cmdF f c = upd f 8 (f 8 + 1) := by unfold cmdF; rw [if_neg h1, if_neg h2, if_pos h3]
        have HE := Lib.hid e
        have c6 := hf.cell 8 (by decide)
        have f6 := hf.frozen 8
        have b6 := hs 8 (by decide)
        rw [h3]
        clear e hf hs h1 h2 h3
        go_enter Tryd.func21, Tryd.ntmps21
        go_wp2
        go_region
        all_goals
          go_wp2
          go_end0
          refine ⟨rfl, ?_, oDrew (oAlloc (oSet (oRefl _ _) _ _) _)⟩
          rw [HE.out]
          exact ((HF.out.set 8 _).alloc _).drew
      · by_cases h4 : c.kind = 4
        · have c6 := hf.cell 9 (by decide)
          have f6 := hf.frozen 9
          have b6 := hs 9 (by decide)
          have c4 := hf.cell 4 (by decide)
          have f4 := hf.frozen 4
          have b4 := hs 4 (by decide)
          cases hp : c.played with
          | true =>
            have e : cmdF f c = upd (upd f 9 (f 9 + 1)) 4 (f 4 + 1) := by unfold cmdF; rw [if_neg h1, if_neg h2, if_neg h3, if_pos h4, if_pos hp]
            have HE := Lib.hid e
            rw [h4]
            clear e hf hs h1 h2 h3 h4 hp
            go_enter Tryd.func21, Tryd.ntmps21
            go_wp2
            go_region
            all_goals
              go_wp2
              go_end0
              refine ⟨rfl, ?_, ?_⟩
              · rw [HE.out]
                first | exact (((HF.out.set 9 _).alloc _).drew).set 4 _ | exact (((HF.out.set 9 _).set 4 _).alloc _).drew
              · first | exact oSet (oDrew (oAlloc (oSet (oRefl _ _) _ _) _)) _ _ | exact oDrew (oAlloc (oSet (oSet (oRefl _ _) _ _) _ _) _)
          | false =>
            have e : cmdF f c = upd f 9 (f 9 + 1) := by unfold cmdF; rw [if_neg h1, if_neg h2, if_neg h3, if_pos h4, if_neg (by rw [hp]; decide)]
            have HE := Lib.hid e
            rw [h4]
            clear e hf hs h1 h2 h3 h4 hp
            go_enter Tryd.func21, Tryd.ntmps21
            go_wp2
            go_region
            all_goals
              go_wp2
              go_end0
              refine ⟨rfl, ?_, oDrew (oAlloc (oSet (oRefl _ _) _ _) _)⟩
              rw [HE.out]
              exact ((HF.out.set 9 _).alloc _).drew
        · have e : cmdF f c = f := by unfold cmdF; rw [if_neg h1, if_neg h2, if_neg h3, if_neg h4]
          have HE := Lib.hid e
          clear e hf hs
          by_cases h5 : c.kind < 1
          · clear h1 h2 h3 h4
            go_enter Tryd.func21, Tryd.ntmps21
            go_wp2
            refine bodyPost_ret (results_none rfl _ _ _) rfl ?_
            refine ⟨rfl, ?_, oAlloc (oRefl _ _) _⟩
            rw [HE.out]
            exact HF.out.alloc _
          · have h6 : 4 < c.kind := by omega
            clear h1 h2 h3 h4
            go_enter Tryd.func21, Tryd.ntmps21
            go_wp2
            refine bodyPost_ret (results_none rfl _ _ _) rfl ?_
            refine ⟨rfl, ?_, oAlloc (oRefl _ _) _⟩
            rw [HE.out]
            exact HF.out.alloc _
end Go.Proofs.YtnepjdpifbjiiaaDoor
