/-
  Whatever is added to a page, plain: what both answer, and the page behind it.
-/
import Derived.Test.YtdjfpdndaobohaaR11c
import Derived.Test.YtdjfpdndaobohaaPageP
namespace Go.Proofs.Ytdjfpdndaobohaa
open Go.RowKit
set_option maxRecDepth 100000
set_option linter.unusedSimpArgs false
/-- Ahead of what is not ahead of it: in order, that is where it is looked for. -/
theorem putK_lb {L : List Ev} (hs : SortedE L) (y : Ev) : putK L y = lbK L y.key := by
  have hle := lbK_le L y.key
  have hpl := putK_le L y
  have hiff : ∀ j (hj : j < L.length), decide (cmpK y.key L[j].key ≤ 0) = false ↔ j < lbK L y.key := fun j hj => by
    rw [lb_iff y.key L hs j hj, cmpK_neg, decide_eq_false_iff_not, ← cmpK_pos]
    omega
  rcases Nat.lt_trichotomy (putK L y) (lbK L y.key) with h | h | h
  · have hj : putK L y < L.length := by omega
    have h1 := (hiff _ hj).2 h
    rw [putK_at L y hj] at h1
    cases h1
  · exact h
  · have hj : lbK L y.key < L.length := by omega
    have := (hiff _ hj).1 (putK_lt L y _ hj h)
    omega
theorem putE_addE {F : Int} {L : List Ev} (h : SortedE L) (x : Ev) : putE L (numE F L x) = addE F L x := by
  unfold putE addE
  rw [putK_lb h]
/-- One more event: the page's events behind it. -/
def addX (F : Int) (L : List Ev) (x : Ev) : List Ev :=
  if evOk (x.at_ F 0) = true ∧ ¬ (64 ≤ L.length ∨ 15 < cntE L x.emitter x.kind) then addE F L x else L
def pgX (F : Int) (l : List Ev) : List Ev := l.foldl (addX F) []
theorem pgX_take (F : Int) (l : List Ev) (k : Nat) (h : k < l.length) : pgX F (l.take (k + 1)) = addX F (pgX F (l.take k)) l[k] := by
  rw [List.take_succ_eq_append_getElem h, pgX, List.foldl_append]; rfl
theorem evOk_num {F : Int} {L : List Ev} {x : Ev} (h : evOk (x.at_ F 0) = true) (hr : cntE L x.emitter x.kind ≤ 15) : evOk (numE F L x) = true := by
  unfold evOk keyOk numE Ev.at_ Ev.key inB at *
  simp only [Bool.and_eq_true, decide_eq_true_eq] at *
  omega
theorem addX_ok {F : Int} {L : List Ev} (x : Ev) (h : PageOk F L) (hl : L.length ≤ 64) : PageOk F (addX F L x) ∧ (addX F L x).length ≤ 64 := by
  unfold addX
  split
  · rename_i hc
    refine ⟨h.add x (evOk_num hc.1 (by omega)), ?_⟩
    rw [addE_length]; omega
  · exact ⟨h, hl⟩
theorem pgX_ok (F : Int) (l : List Ev) : ∀ k, k ≤ l.length → PageOk F (pgX F (l.take k)) ∧ (pgX F (l.take k)).length ≤ 64
  | 0, _ => ⟨PageOk.nil F, by simp [pgX]⟩
  | k + 1, hk => by
    obtain ⟨h1, h2⟩ := pgX_ok F l k (by omega)
    rw [pgX_take F l k (by omega)]
    exact addX_ok _ h1 h2
end Go.Proofs.Ytdjfpdndaobohaa
