/-
  A move's line is read as the move, if it may be told.
-/
import Derived.Test.YtlonefjbcooaaaaDoorScPp
import Derived.Test.YtlonefjbcooaaaaDoorScV
namespace Go.Proofs.YtlonefjbcooaaaaDoor
open Go.RowKit
set_option maxRecDepth 100000
theorem mvP_line (j : Nat) (hj : j < 6) (ns : List Int) (hl : ns.length = ctK j) (hok : ns.all smallB = true → okM j (ns.map Int.toNat) = true) : mvP (cutL 32 (lineL (nmR.getD (j + 1) []) ns)) = if ns.all smallB = true then some (j, ns.map Int.toNat) else none := by
  have h32 : 32 ∉ nmR.getD (j + 1) [] := by
    have : ∀ j, j < 6 → 32 ∉ nmR.getD (j + 1) [] := by decide
    exact this j hj
  rw [cut_line _ _ h32]
  unfold mvP
  rw [findM_name hj rfl, List.length_map, if_pos hl, numsO_itoa]
  by_cases hs : ns.all smallB = true
  · rw [if_pos hs, if_pos hs]
    simp only [Option.map_some]
    rw [if_pos (hok hs)]
  · rw [if_neg hs, if_neg hs]
    rfl
theorem told_read (m : Mo) (h : m.Fits) : (∃ a, mvP (cutL 32 (toldL m)) = some a ∧ mvF a = m.cells) ↔ m.ok = true := by
  obtain ⟨k, who, i, a, b, n⟩ := m
  obtain ⟨hb0, hb1, hn0, hn1, -, -, -, -⟩ := h
  simp only at hb0 hb1 hn0 hn1
  by_cases hk : 1 ≤ k ∧ k ≤ 6
  · obtain ⟨j, hj, rfl⟩ : ∃ j : Nat, j < 6 ∧ k = ((j + 1 : Nat) : Int) := ⟨(k - 1).toNat, by omega, by omega⟩
    have hL : toldL ⟨((j + 1 : Nat) : Int), who, i, a, b, n⟩ = lineL (nmR.getD (j + 1) []) (Mo.nums ⟨((j + 1 : Nat) : Int), who, i, a, b, n⟩) := by
      unfold toldL
      rw [if_pos hk]
      rfl
    rw [hL]
    rcases j with _ | _ | _ | _ | _ | _ | j
    · rw [mvP_line 0 (by decide) _ rfl (by intro hs; simp [Mo.nums, okM, smallB] at hs ⊢ <;> omega)]
      simp [Mo.nums, Mo.ok, Mo.cells, mvF, mvC, smallB]
      constructor
      · rintro ⟨_, _, ⟨h1, rfl, rfl⟩, h2⟩
        simp at h2
        omega
      · intro h1
        refine ⟨0, _, ⟨by omega, rfl, rfl⟩, ?_⟩
        simp
        omega
    · rw [mvP_line 1 (by decide) _ rfl (by intro hs; simp [Mo.nums, okM, smallB] at hs ⊢ <;> omega)]
      simp [Mo.nums, Mo.ok, Mo.cells, mvF, mvC, smallB]
      constructor
      · rintro ⟨_, _, ⟨h1, rfl, rfl⟩, h2⟩
        simp at h2
        omega
      · intro h1
        refine ⟨1, _, ⟨by omega, rfl, rfl⟩, ?_⟩
        simp
        omega
    · rw [mvP_line 2 (by decide) _ rfl (by intro hs; simp [Mo.nums, okM, smallB] at hs ⊢ <;> omega)]
      simp [Mo.nums, Mo.ok, Mo.cells, mvF, mvC, smallB]
      constructor
      · rintro ⟨_, _, ⟨h1, rfl, rfl⟩, h2⟩
        simp at h2
        omega
      · intro h1
        refine ⟨2, _, ⟨by omega, rfl, rfl⟩, ?_⟩
        simp
        omega
    · rw [mvP_line 3 (by decide) _ rfl (by intro hs; simp [Mo.nums, okM, smallB] at hs ⊢ <;> omega)]
      simp [Mo.nums, Mo.ok, Mo.cells, mvF, mvC, smallB]
      constructor
      · rintro ⟨_, _, ⟨h1, rfl, rfl⟩, h2⟩
        simp at h2
        omega
      · intro h1
        refine ⟨3, _, ⟨by omega, rfl, rfl⟩, ?_⟩
        simp
        omega
    · rw [mvP_line 4 (by decide) _ rfl (by intro hs; simp [Mo.nums, okM, smallB] at hs ⊢ <;> omega)]
      simp [Mo.nums, Mo.ok, Mo.cells, mvF, mvC, smallB]
      constructor
      · rintro ⟨_, _, ⟨h1, rfl, rfl⟩, h2⟩
        simp at h2
        omega
      · intro h1
        refine ⟨4, _, ⟨by omega, rfl, rfl⟩, ?_⟩
        simp
        omega
    · rw [mvP_line 5 (by decide) _ rfl (by intro hs; simp [Mo.nums, okM, smallB] at hs ⊢ <;> omega)]
      simp [Mo.nums, Mo.ok, Mo.cells, mvF, mvC, smallB]
      constructor
      · rintro ⟨_, _, ⟨h1, rfl, rfl⟩, h2⟩
        simp at h2
        omega
      · intro h1
        refine ⟨5, _, ⟨by omega, rfl, rfl⟩, ?_⟩
        simp
        omega
    · omega
  · have hL : toldL ⟨k, who, i, a, b, n⟩ = [] := by unfold toldL; rw [if_neg hk]
    rw [hL]
    constructor
    · rintro ⟨x, hx, -⟩
      have h0 : mvP (cutL 32 []) = none := by decide +kernel
      rw [h0] at hx; cases hx
    · intro e
      simp [Mo.ok] at e
      omega
end Go.Proofs.YtlonefjbcooaaaaDoor
