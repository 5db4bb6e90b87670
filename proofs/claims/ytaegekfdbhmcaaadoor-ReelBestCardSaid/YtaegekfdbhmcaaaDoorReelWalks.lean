/-
  The walks of the reel's functions.
-/
import Derived.Test.YtaegekfdbhmcaaaDoorReelPlain
namespace Go.Proofs.YtaegekfdbhmcaaaDoor
open Go.RowKit

/-- The table of weights lies in its block. -/
def Weights (w : World) : Prop := 0 < w.heap.size ∧ w.cell? ⟨0, 0, none⟩ = some (.int .i64 0) ∧ w.cell? ⟨0, 1, none⟩ = some (.int .i64 0) ∧ w.cell? ⟨0, 2, none⟩ = some (.int .i64 3) ∧
  w.cell? ⟨0, 3, none⟩ = some (.int .i64 0) ∧ w.cell? ⟨0, 4, none⟩ = some (.int .i64 2) ∧ w.cell? ⟨0, 5, none⟩ = some (.int .i64 10) ∧ w.cell? ⟨0, 6, none⟩ = some (.int .i64 0) ∧
  w.cell? ⟨0, 7, none⟩ = some (.int .i64 8) ∧ w.cell? ⟨0, 8, none⟩ = some (.int .i64 0) ∧ w.cell? ⟨0, 9, none⟩ = some (.int .i64 0)

theorem Weights.below {w w' : World} {B : Nat} (h : Weights w) (hb : Below B w w') (hB : 0 < B) : Weights w' := by
  obtain ⟨hs, c0, c1, c2, c3, c4, c5, c6, c7, c8, c9⟩ := h
  have hc : ∀ o, w'.cell? ⟨0, o, none⟩ = w.cell? ⟨0, o, none⟩ := fun o => hb.cell (p := ⟨0, o, none⟩) hB
  exact ⟨Nat.lt_of_lt_of_le hs hb.size, (hc _).trans c0, (hc _).trans c1, (hc _).trans c2, (hc _).trans c3, (hc _).trans c4, (hc _).trans c5, (hc _).trans c6, (hc _).trans c7, (hc _).trans c8, (hc _).trans c9⟩
theorem Weights.on {w w' : World} (h : Weights w) (hb : Below w.heap.size w w') : Weights w' := h.below hb h.1

set_option maxHeartbeats 400000 in
theorem weight_any (k : Int) (w : World) (hw : Weights w) : Calls Tryd.prog 40 #[.int .i64 k] w fun e w' => e = .returned (.int .i64 (weightOf k)) ∧ w = w' := by
  obtain ⟨-, c0, c1, c2, c3, c4, c5, c6, c7, c8, c9⟩ := hw
  by_cases hlo : k < 0
  · have hz : weightOf k = 0 := by unfold weightOf; rw [if_neg (by omega), if_neg (by omega), if_neg (by omega), if_neg (by omega)]
    have HZ := Lib.hid hz
    clear hz
    go_enter Tryd.func40, Tryd.ntmps40
    go_wp2
    go_ret
    exact ⟨ret_int HZ.out.symm, rfl⟩
  by_cases hhi : 10 ≤ k
  · have hz : weightOf k = 0 := by unfold weightOf; rw [if_neg (by omega), if_neg (by omega), if_neg (by omega), if_neg (by omega)]
    have HZ := Lib.hid hz
    clear hz
    go_enter Tryd.func40, Tryd.ntmps40
    go_wp2
    go_ret
    exact ⟨ret_int HZ.out.symm, rfl⟩
  have hk : k = 0 ∨ k = 1 ∨ k = 2 ∨ k = 3 ∨ k = 4 ∨ k = 5 ∨ k = 6 ∨ k = 7 ∨ k = 8 ∨ k = 9 := by omega
  clear hlo hhi
  rcases hk with rfl | rfl | rfl | rfl | rfl | rfl | rfl | rfl | rfl | rfl
  all_goals
    go_enter Tryd.func40, Tryd.ntmps40
    go_wp2
    go_ret
    exact ⟨rfl, rfl⟩

set_option maxHeartbeats 400000 in
theorem frame_any (n : Int) (w : World) : Calls Tryd.prog 22 #[.int .i64 n] w fun e w' => e = .returned (.bool (frameOk n)) ∧ w = w' := by
  by_cases h0 : 0 ≤ n <;> by_cases h1 : n ≤ 1073741824
  all_goals
    have hz : frameOk n = decide (0 ≤ n ∧ n ≤ 1073741824) := rfl
    simp only [h0, h1, and_self, and_true, and_false, decide_true, decide_false] at hz
    have HZ := Lib.hid hz
    clear hz
    go_enter Tryd.func22, Tryd.ntmps22
    go_wp2
    go_ret
    exact ⟨ret_bool HZ.out.symm, rfl⟩
end Go.Proofs.YtaegekfdbhmcaaaDoor
