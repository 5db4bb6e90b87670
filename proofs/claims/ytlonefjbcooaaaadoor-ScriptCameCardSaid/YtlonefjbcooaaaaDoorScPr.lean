/-
  A printed text is read as what was printed.
-/
import Derived.Test.YtlonefjbcooaaaaDoorScPq
import Derived.Test.YtlonefjbcooaaaaDoorScLn
namespace Go.Proofs.YtlonefjbcooaaaaDoor
open Go.RowKit
set_option maxRecDepth 100000
/-- The text of a setup and moves. -/
def textL (s : Su) (ms : List Mo) : List UInt8 := (headL s :: ms.map toldL).flatMap (· ++ [10])
def okAll (s : Su) (ms : List Mo) : Bool := s.ok && ms.all Mo.ok
theorem lines_cut (x : UInt8) : ∀ ls : List (List UInt8), (∀ l ∈ ls, x ∉ l) → cutL x (ls.flatMap (· ++ [x])) = ls ++ [[]]
  | [], _ => rfl
  | l :: r, h => by
    rw [List.flatMap_cons, List.append_assoc, List.singleton_append, cutL_of x _ l (h l (by simp)), lines_cut x r (fun a ha => h a (List.mem_cons_of_mem _ ha)), List.cons_append]
theorem line_no10 (name : List UInt8) (ns : List Int) (h : 10 ∉ name) : 10 ∉ lineL name ns := by
  unfold lineL
  rw [Lib.join_cons]
  intro hm
  rcases List.mem_append.1 hm with hm | hm
  · exact h hm
  · unfold Lib.joinTail at hm
    rw [List.mem_flatten] at hm
    obtain ⟨l, hl, hx⟩ := hm
    obtain ⟨q, hq, rfl⟩ := List.mem_map.1 hl
    obtain ⟨n, -, rfl⟩ := List.mem_map.1 hq
    rcases List.mem_append.1 hx with hx | hx
    · simp at hx
    · exact itoa_no n 10 (by decide) hx
theorem line_head (name : List UInt8) (ns : List Int) (h : name ≠ []) : lineL name ns ≠ [] ∧ (lineL name ns).head? = name.head? := by
  unfold lineL
  rw [Lib.join_cons]
  cases name with
  | nil => exact absurd rfl h
  | cons a r => exact ⟨by simp, by simp⟩
theorem nm_facts : ∀ j, j < 7 → 1 ≤ j → nmR.getD j [] ≠ [] ∧ 10 ∉ nmR.getD j [] ∧ (nmR.getD j []).head? ≠ some 35 := by decide
theorem told_facts (m : Mo) (h : m.ok = true) : toldL m ≠ [] ∧ 10 ∉ toldL m ∧ (toldL m).head? ≠ some 35 := by
  have hk : 1 ≤ m.kind ∧ m.kind ≤ 6 := by
    simp only [Mo.ok, Bool.and_eq_true, decide_eq_true_eq] at h
    exact ⟨h.1, h.2.1⟩
  unfold toldL
  rw [if_pos hk]
  obtain ⟨h1, h2, h3⟩ := nm_facts m.kind.toNat (by omega) (by omega)
  obtain ⟨g1, g2⟩ := line_head _ m.nums h1
  exact ⟨g1, line_no10 _ _ h2, by rw [g2]; exact h3⟩
theorem head_facts (s : Su) : headL s ≠ [] ∧ 10 ∉ headL s ∧ (headL s).head? ≠ some 35 := by
  unfold headL
  obtain ⟨g1, g2⟩ := line_head boutW s.nums (by decide)
  exact ⟨g1, line_no10 _ _ (by decide), by rw [g2]; decide⟩
theorem moves_text : ∀ (ms : List Mo) (n : Nat), (∀ m ∈ ms, m.Fits) → ms.all Mo.ok = true → ∃ L, movesO (keptL (ms.map toldL ++ [[]]) n) = .inr L ∧ L.flatMap mvF = ms.flatMap Mo.cells ∧ L.length = ms.length
  | [], n, _, _ => ⟨[], rfl, rfl, rfl⟩
  | m :: r, n, hf, ho => by
    rw [List.all_cons, Bool.and_eq_true] at ho
    obtain ⟨L, h1, h2, h3⟩ := moves_text r (n + 1) (fun x hx => hf x (List.mem_cons_of_mem _ hx)) ho.2
    obtain ⟨a, ha, hc⟩ := (told_read m (hf m (by simp))).2 ho.1
    obtain ⟨g1, -, g3⟩ := told_facts m ho.1
    refine ⟨a :: L, ?_, ?_, by simp [h3]⟩
    · rw [List.map_cons, List.cons_append, keptL, if_neg (by rintro (e | ⟨-, e⟩); exact g1 e; exact g3 e)]
      have : (r.map toldL ++ [[]]).isEmpty = false := by simp
      rw [this, List.singleton_append, movesO, ha]
      simp only
      rw [h1]
    · rw [List.flatMap_cons, List.flatMap_cons, h2, hc]
theorem parse_text (s : Su) (ms : List Mo) (hf : ∀ m ∈ ms, m.Fits) (ho : okAll s ms = true) : ∃ L, parseO (textL s ms) = .inr (s.nums.map Int.toNat, L) ∧ L.flatMap mvF = ms.flatMap Mo.cells ∧ L.length = ms.length ∧ setC (s.nums.map Int.toNat) = s.cells := by
  unfold okAll at ho
  rw [Bool.and_eq_true] at ho
  obtain ⟨hs, hm⟩ := ho
  simp only [Su.ok, Bool.and_eq_true, decide_eq_true_eq] at hs
  obtain ⟨hs1, hs2, hs3⟩ := hs
  obtain ⟨L, h1, h2, h3⟩ := moves_text ms 2 hf hm
  obtain ⟨g1, g2, g3⟩ := head_facts s
  refine ⟨L, ?_, h2, h3, (setC_head s hs1).2 ⟨hs2, hs3⟩⟩
  unfold parseO textL
  rw [lines_cut 10 _ (by
    intro l hl
    rcases List.mem_cons.1 hl with rfl | hl
    · exact g2
    · obtain ⟨m, hmm, rfl⟩ := List.mem_map.1 hl
      exact (told_facts m (List.all_eq_true.1 hm m hmm)).2.1)]
  rw [List.cons_append, keptL, if_neg (by rintro (e | ⟨-, e⟩); exact g1 e; exact g3 e)]
  have : (ms.map toldL ++ [[]]).isEmpty = false := by simp
  rw [this, List.singleton_append]
  refine parseK_moves_ok ?_ rfl h1
  rw [setO_head, if_pos hs1]
/-- A text's length. -/
theorem told_len (m : Mo) (h : m.Fits) : (toldL m).length ≤ 110 := by
  unfold toldL
  split
  · rename_i hk
    have hj : (nmR.getD m.kind.toNat []).length ≤ 21 := by
      generalize m.kind.toNat = j
      rcases j with _ | _ | _ | _ | _ | _ | _ | j <;> first | decide | (simp [nmR])
    have hl : ∀ n ∈ m.nums, IL64 n := by
      intro n hn
      have b64 : IL64 m.by_ := ⟨by have := h.by0; omega, by have := h.by1; omega⟩
      have n64 : IL64 m.in_ := ⟨by have := h.in0; omega, by have := h.in1; omega⟩
      unfold Mo.nums at hn
      rcases List.mem_cons.1 hn with rfl | hn
      · exact h.who64
      · split at hn
        · simp at hn; subst hn; exact n64
        · split at hn
          · simp at hn; rcases hn with rfl | rfl | rfl
            · exact h.i64
            · exact h.at64
            · exact b64
          · split at hn
            · simp at hn
            · simp at hn; subst hn; exact h.i64
    have := lineL_len _ m.nums hj hl
    have hn4 : m.nums.length ≤ 4 := by
      unfold Mo.nums; split <;> (try split) <;> (try split) <;> simp
    omega
  · simp
end Go.Proofs.YtlonefjbcooaaaaDoor
