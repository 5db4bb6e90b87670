/-
  What the reference's Cuts computes, on lists: the frames marked, the runs of marked frames, each run's weight.
-/
import Derived.Test.YtillajaghkefbaaDoorReelPlain
namespace Go.Proofs.YtillajaghkefbaaDoor

def inSpan (e : Ev) (ld tr : Int) (k : Nat) : Bool := decide (e.frame - ld ≤ (k : Int) ∧ (k : Int) ≤ e.frame + tr)
def markBy (e : Ev) (ld tr : Int) (k : Nat) : Bool := !(weightOf e.kind == 0) && inSpan e ld tr k
def marks (l : List Ev) (ld tr : Int) (k : Nat) : Bool := l.any fun e => markBy e ld tr k
theorem marks_take (l : List Ev) (ld tr : Int) (i k : Nat) (h : i < l.length) : marks (l.take (i + 1)) ld tr k = (marks (l.take i) ld tr k || markBy l[i] ld tr k) := by
  unfold marks
  rw [List.take_succ_eq_append_getElem h, List.any_append]
  simp
def setTo (l : List Cut) (t : Int) : List Cut :=
  match l.getLast? with
  | none => []
  | some d => l.dropLast ++ [⟨d.frm, t, d.weight⟩]
theorem setTo_snoc (l : List Cut) (d : Cut) (t : Int) : setTo (l ++ [d]) t = l ++ [⟨d.frm, t, d.weight⟩] := by simp [setTo]
/-- Does a run begin here? -/
def begins (m : Nat → Bool) (k : Nat) : Bool := m k && (k == 0 || !m (k - 1))
def runsTo (m : Nat → Bool) : Nat → List Cut
  | 0 => []
  | k + 1 => if m k then (if k = 0 ∨ m (k - 1) = false then runsTo m k ++ [⟨k, (k : Int) + 1, 0⟩] else setTo (runsTo m k) ((k : Int) + 1)) else runsTo m k
theorem setTo_ne (l : List Cut) (t : Int) (h : l ≠ []) : setTo l t ≠ [] := by
  rcases List.eq_nil_or_concat l with rfl | ⟨l', d, rfl⟩
  · exact absurd rfl h
  · rw [List.concat_eq_append, setTo_snoc]; simp
theorem setTo_length (l : List Cut) (t : Int) : (setTo l t).length = l.length := by
  rcases List.eq_nil_or_concat l with rfl | ⟨l', d, rfl⟩
  · simp [setTo]
  · rw [List.concat_eq_append, setTo_snoc]; simp
theorem runsTo_ne (m : Nat → Bool) : ∀ k, 0 < k → m (k - 1) = true → runsTo m k ≠ []
  | 0, h, _ => absurd h (by omega)
  | k + 1, _, hm => by
    have hm' : m k = true := hm
    rw [runsTo, if_pos hm']
    split
    · simp
    · rename_i hn
      rw [not_or] at hn
      exact setTo_ne _ _ (runsTo_ne m k (by omega) (by simpa using hn.2))
theorem runsTo_length (m : Nat → Bool) : ∀ k, (runsTo m k).length ≤ k
  | 0 => by simp [runsTo]
  | k + 1 => by
    have := runsTo_length m k
    rw [runsTo]
    split
    · split
      · simp; omega
      · rw [setTo_length]; omega
    · omega
/-- The weights of the events inside a cut. -/
def wsum (c : Cut) (l : List Ev) : Int := (l.map fun e => if c.frm ≤ e.frame ∧ e.frame < c.to_ then weightOf e.kind else 0).sum
theorem wsum_take (c : Cut) (l : List Ev) (i : Nat) (h : i < l.length) : wsum c (l.take (i + 1)) = wsum c (l.take i) + if c.frm ≤ l[i].frame ∧ l[i].frame < c.to_ then weightOf l[i].kind else 0 := by
  unfold wsum
  rw [List.take_succ_eq_append_getElem h, List.map_append, List.sum_append]
  simp
def weigh (l : List Ev) (c : Cut) : Cut := ⟨c.frm, c.to_, c.weight + wsum c l⟩
theorem wsum_bd (c : Cut) (l : List Ev) : 0 ≤ wsum c l ∧ wsum c l ≤ 10 * l.length := by
  induction l with
  | nil => simp [wsum]
  | cons e l ih =>
    have hw := weightOf_bd e.kind
    have : wsum c (e :: l) = (if c.frm ≤ e.frame ∧ e.frame < c.to_ then weightOf e.kind else 0) + wsum c l := by simp [wsum]
    rw [this, List.length_cons]
    split <;> omega
def refCuts (l : List Ev) (N : Nat) (ld tr : Int) : List Cut := (runsTo (marks l ld tr) N).map (weigh l)
/-- A list of which the first k members have been turned. -/
def mixed {α β : Type} (A B : α → β) (R : List α) (k : Nat) : List β := (R.take k).map A ++ (R.drop k).map B
theorem mixed_zero {α β : Type} (A B : α → β) (R : List α) : mixed A B R 0 = R.map B := by simp [mixed]
theorem mixed_all {α β : Type} (A B : α → β) (R : List α) (k : Nat) (h : R.length ≤ k) : mixed A B R k = R.map A := by
  simp [mixed, List.take_of_length_le h, List.drop_of_length_le h]
theorem mixed_length {α β : Type} (A B : α → β) (R : List α) (k : Nat) : (mixed A B R k).length = R.length := by
  simp [mixed]; omega
theorem mixed_get {α β : Type} (A B : α → β) (R : List α) (k : Nat) (h : k < R.length) (h' : k < (mixed A B R k).length) : (mixed A B R k)[k] = B R[k] := by
  have h1 : (mixed A B R k)[k]? = some (B R[k]) := by
    unfold mixed
    rw [List.getElem?_append_right (by simp; omega)]
    have hl : ((R.take k).map A).length = k := by simp; omega
    rw [hl, Nat.sub_self, List.drop_eq_getElem_cons h]
    rfl
  rw [List.getElem?_eq_getElem h'] at h1
  exact Option.some.inj h1
theorem mixed_set {α β : Type} (A B : α → β) (R : List α) (k : Nat) (h : k < R.length) : (mixed A B R k).set k (A R[k]) = mixed A B R (k + 1) := by
  have hl : ((R.take k).map A).length = k := by simp; omega
  unfold mixed
  rw [List.set_append_right _ _ (by omega), hl, Nat.sub_self, List.drop_eq_getElem_cons h, List.map_cons, List.set_cons_zero, List.take_succ_eq_append_getElem h, List.map_append, List.append_assoc]
  rfl
theorem mixed_same {α β : Type} (A B : α → β) (R : List α) (k : Nat) (h : k < R.length) (e : A R[k] = B R[k]) : mixed A B R k = mixed A B R (k + 1) := by
  rw [← mixed_set A B R k h, e]
  have := mixed_get A B R k h (by rw [mixed_length]; exact h)
  rw [← this, List.set_getElem_self]
theorem runsTo_weight (m : Nat → Bool) : ∀ k, ∀ d ∈ runsTo m k, d.weight = 0
  | 0, d, h => by simp [runsTo] at h
  | k + 1, d, h => by
    have ih := runsTo_weight m k
    rw [runsTo] at h
    split at h
    · split at h
      · rcases List.mem_append.1 h with h | h
        · exact ih d h
        · simp only [List.mem_singleton] at h; subst h; rfl
      · rcases List.eq_nil_or_concat (runsTo m k) with e | ⟨l', x, e⟩
        · rw [e] at h; simp [setTo] at h
        · rw [List.concat_eq_append] at e
          rw [e, setTo_snoc] at h
          rw [e] at ih
          rcases List.mem_append.1 h with h | h
          · exact ih d (by simp [h])
          · simp only [List.mem_singleton] at h; subst h; exact ih x (by simp)
    · exact ih d h
end Go.Proofs.YtillajaghkefbaaDoor
