/-
  Where a key's event stands among some.
-/
import Derived.Test.YteccmklacgpodaaSortP
namespace Go.Proofs.Yteccmklacgpodaa
def keyI (k : Key4) : List Int := [k.frame, k.emitter, k.kind, k.ord]
theorem keyI_inj {a b : Key4} (h : keyI a = keyI b) : a = b := by
  cases a; cases b
  simp only [keyI, List.cons.injEq, and_true] at h
  simp [h]
instance keyDec : DecidableEq Key4 := fun a b => if h : keyI a = keyI b then isTrue (keyI_inj h) else isFalse (fun e => h (by rw [e]))
theorem keyI_dec (a b : Key4) : decide (keyI a = keyI b) = decide (a = b) := by
  by_cases h : a = b
  · subst h; simp
  · rw [decide_eq_false h, decide_eq_false (fun e => h (keyI_inj e))]
theorem sorted_uniq {L : List Ev} (hs : SortedE L) {i j : Nat} (hi : i < L.length) (hj : j < L.length) (h : L[i].key = L[j].key) : i = j := by
  rcases Nat.lt_trichotomy i j with hlt | heq | hgt
  · have := List.pairwise_iff_getElem.1 hs i j hi hj hlt
    rw [h] at this
    exact this.irrefl.elim
  · exact heq
  · have := List.pairwise_iff_getElem.1 hs j i hj hi hgt
    rw [h] at this
    exact this.irrefl.elim
/-- Where a key's event stands, the first. -/
def atN (L : List Ev) (k : Key4) : Nat := L.findIdx fun e => decide (e.key = k)
def atI (L : List Ev) (k : Key4) : Int := if atN L k < L.length then (atN L k : Int) else -1
theorem atN_le (L : List Ev) (k : Key4) : atN L k ≤ L.length := List.findIdx_le_length
theorem atN_key {L : List Ev} {k : Key4} (h : atN L k < L.length) : (L[atN L k]'h).key = k := by
  unfold atN at h ⊢
  have := List.findIdx_getElem (p := fun e : Ev => decide (e.key = k)) (w := h)
  simpa using this
theorem atN_lt {L : List Ev} {k : Key4} {j : Nat} (hj : j < L.length) (h : j < atN L k) : L[j].key ≠ k := by
  have := List.not_of_lt_findIdx (p := fun e : Ev => decide (e.key = k)) (xs := L) h
  simpa using this
theorem atI_bd (L : List Ev) (k : Key4) : -1 ≤ atI L k ∧ atI L k < L.length := by
  unfold atI
  split <;> omega
theorem sortedE_keys {L : List Ev} : SortedE L ↔ (L.map Ev.key).Pairwise Key4.Lt := by rw [List.pairwise_map]; rfl
theorem sortedW_of {L : List Ev} (h : SortedE L) : SortedW L := h.imp fun {a b} hab => by
  have := (cmpK_neg a.key b.key).2 hab
  omega
theorem ordered_sorted {L : List Ev} (h : orderedB L = true) : SortedE L := by
  unfold orderedB at h
  simp only [Bool.and_eq_true, decide_eq_true_eq, List.all_eq_true] at h
  exact (rising_iff h.2.1).1 h.2.2
theorem ordered_len {L : List Ev} (h : orderedB L = true) : L.length ≤ 64 := by
  unfold orderedB at h
  simp only [Bool.and_eq_true, decide_eq_true_eq] at h
  exact h.1
end Go.Proofs.Yteccmklacgpodaa
