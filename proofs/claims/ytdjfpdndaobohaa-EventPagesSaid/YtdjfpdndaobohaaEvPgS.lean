/-
  One event added: what the page and the document answer, all cases at once.
-/
import Derived.Test.YtdjfpdndaobohaaEvPgP
import Derived.Test.YtdjfpdndaobohaaPageFull
namespace Go.Proofs.Ytdjfpdndaobohaa
open Go.RowKit
set_option maxRecDepth 100000
set_option linter.unusedSimpArgs false
theorem OwnL.capN {α : Type} {w : World} {base : Nat} {E : TypeId} {m : Nat} {f : α → List Value} {l : List α} {g n c : Nat} (h : OwnL w base E m (.slice (some ⟨g, 0, none⟩) n c) f l) : n ≤ c ∧ c ≤ 9223372036854775807 := by
  have hl := h.len
  obtain ⟨_, h | ⟨g', cap, cur, he, _, _, h1, h2, _⟩⟩ := h
  · exact absurd h.1 (by simp)
  · cases he
    simp [maxLen] at h2
    omega
/-- A row whose block lies as it lay. -/
theorem OwnL.of_heap {α : Type} {w w' : World} {base : Nat} {E : TypeId} {m : Nat} {f : α → List Value} {l : List α} {v : Value} (h : OwnL w base E m v f l) (hb : ∀ g, v.ownBlock = some g → w'.heap[g]? = w.heap[g]?) : OwnL w' base E m v f l := by
  obtain ⟨h0, h | ⟨g, cap, cur, he, h1, h2, h3⟩⟩ := h
  · exact ⟨h0, .inl h⟩
  · exact ⟨h0, .inr ⟨g, cap, cur, he, h1, by rw [hb g (by rw [he]; rfl)]; exact h2, h3⟩⟩
/-- The key and the error that are answered. -/
def ansX (F : Int) (L : List Ev) (x : Ev) : Key4 × Int :=
  if evOk (x.at_ F 0) = false then (⟨0, 0, 0, 0⟩, 1) else if 64 ≤ L.length ∨ 15 < cntE L x.emitter x.kind then (⟨0, 0, 0, 0⟩, 8) else ((numE F L x).key, 0)
theorem add_step (gp : Nat) (F : Int) (A : Option Addr) (n c : Nat) (L : List Ev) (x : Ev) (base : Nat) (w : World) (hb : base ≤ w.heap.size) (hbp : base ≤ gp) (hP : Blk w gp 60 #[.int .i64 F, .slice A n c]) (hA : OwnL w base 25 9 (.slice A n c) Ev.cells L)
    (hn : n ≤ 64) (hc : n ≤ c) (hcm : c ≤ 9223372036854775807) (hL : PageOk F L) :
    Calls Try.prog 10 #[.pointer (some ⟨gp, 0, none⟩), x.val] w fun e w' => ∃ A' n' c', e = .returned (.tuple #[(ansX F L x).1.val, .int .i64 (ansX F L x).2]) ∧ Blk w' gp 60 #[.int .i64 F, .slice A' n' c'] ∧ OwnL w' base 25 9 (.slice A' n' c') Ev.cells (addX F L x) ∧ (n' ≤ c' ∧ c' ≤ 9223372036854775807) ∧ Below base w w' ∧
      (∀ k, k < w.heap.size → k ≠ gp → (Value.slice A n c).ownBlock ≠ some k → w'.heap[k]? = w.heap[k]?) ∧ (∀ g, (Value.slice A' n' c').ownBlock = some g → (Value.slice A n c).ownBlock = some g ∨ w.heap.size ≤ g) := by
  have hlen := hA.len
  cases hok : evOk (x.at_ F 0) with
  | false =>
    have e1 : ansX F L x = (⟨0, 0, 0, 0⟩, 1) := by unfold ansX; rw [if_pos hok]
    have e2 : addX F L x = L := by unfold addX; rw [if_neg (by rw [hok]; simp)]
    rw [e1, e2]
    refine (add_bad gp F A n c x w hP hok).mono ?_
    rintro e w' ⟨rfl, hbw⟩
    exact ⟨A, n, c, rfl, hP.on hbw, hA.below hbw, ⟨hc, hcm⟩, hbw.mono hb, fun k hk _ _ => hbw.block k hk, fun g hg => .inl hg⟩
  | true =>
    by_cases hful : 64 ≤ L.length ∨ 15 < cntE L x.emitter x.kind
    · have e1 : ansX F L x = (⟨0, 0, 0, 0⟩, 8) := by unfold ansX; rw [if_neg (by rw [hok]; decide), if_pos hful]
      have e2 : addX F L x = L := by unfold addX; rw [if_neg (fun h => h.2 hful)]
      rw [e1, e2]
      refine (add_full gp F A n c L x base w hP hA (by omega) hL hok (by rw [hlen]; exact hful)).mono ?_
      rintro e w' ⟨rfl, hbw⟩
      exact ⟨A, n, c, rfl, hP.on hbw, hA.below hbw, ⟨hc, hcm⟩, hbw.mono hb, fun k hk _ _ => hbw.block k hk, fun g hg => .inl hg⟩
    · have e1 : ansX F L x = ((numE F L x).key, 0) := by unfold ansX; rw [if_neg (by rw [hok]; decide), if_neg hful]
      have e2 : addX F L x = addE F L x := by unfold addX; rw [if_pos ⟨hok, hful⟩]
      rw [e1, e2]
      refine (page_add gp F A n c L x base w hb hbp hP hA (by omega) hc hcm hL hok (by omega)).mono ?_
      rintro e w' ⟨g, c', rfl, h1, h2, h3, h4, h5⟩
      refine ⟨_, _, _, rfl, h1, h2, ?_, h3, h4, fun g' hg' => ?_⟩
      · exact OwnL.capN h2
      · simp only [Value.ownBlock, Option.some.injEq] at hg'
        subst hg'
        exact h5
theorem radd_step (A : Option Addr) (c : Nat) (F : Int) (L : List Ev) (x : Ev) (base : Nat) (w : World) (hbase : base ≤ w.heap.size) (hl : L.length ≤ 64) (hL : PageOk F L) (hA : OwnL w base 25 9 (.slice A L.length c) Ev.cells L) :
    Calls Try.prog 13 #[.slice A L.length c, .int .i64 F, x.val] w fun e w' => ∃ A' n' c', e = .returned (.tuple #[.slice A' n' c', (ansX F L x).1.val, .int .i64 (ansX F L x).2]) ∧ OwnL w' base 25 9 (.slice A' n' c') Ev.cells (addX F L x) ∧ Below w.heap.size w w' ∧
      (∀ g, (Value.slice A' n' c').ownBlock = some g → (Value.slice A L.length c).ownBlock = some g ∨ w.heap.size ≤ g) := by
  cases hok : evOk (x.at_ F 0) with
  | false =>
    have e1 : ansX F L x = (⟨0, 0, 0, 0⟩, 1) := by unfold ansX; rw [if_pos hok]
    have e2 : addX F L x = L := by unfold addX; rw [if_neg (by rw [hok]; simp)]
    rw [e1, e2]
    refine (r11Add_bad A L.length c F x w hok).mono ?_
    rintro e w' ⟨rfl, hbw⟩
    exact ⟨A, _, c, rfl, hA.below hbw, hbw, fun g hg => .inl hg⟩
  | true =>
    refine (r11Add_good A c F L x w hok (by omega) hA.rd).mono ?_
    intro e w' h
    unfold AddPost at h
    by_cases hful : 64 ≤ L.length ∨ 15 < cntE L x.emitter x.kind
    · have e1 : ansX F L x = (⟨0, 0, 0, 0⟩, 8) := by unfold ansX; rw [if_neg (by rw [hok]; decide), if_pos hful]
      have e2 : addX F L x = L := by unfold addX; rw [if_neg (fun h => h.2 hful)]
      rw [if_pos hful] at h
      obtain ⟨rfl, hbw⟩ := h
      rw [e1, e2]
      exact ⟨A, _, c, rfl, hA.below hbw, hbw, fun g hg => .inl hg⟩
    · have e1 : ansX F L x = ((numE F L x).key, 0) := by unfold ansX; rw [if_neg (by rw [hok]; decide), if_neg hful]
      have e2 : addX F L x = addE F L x := by unfold addX; rw [if_pos ⟨hok, hful⟩]
      rw [if_neg hful, putE_addE hL.sorted] at h
      obtain ⟨A', c', n', rfl, ho, hbw⟩ := h
      rw [e1, e2]
      exact ⟨A', n', c', rfl, ho.more hbase, hbw, fun g hg => .inr (ho.base_le g hg)⟩
end Go.Proofs.Ytdjfpdndaobohaa
