/-
  The reel's plain functions: what the program's functions compute, on lists and integers.
-/
import Derived.Test.YtaegekfdbhmcaaaDoorEv
namespace Go.Proofs.YtaegekfdbhmcaaaDoor

structure Cut where
  frm : Int
  to_ : Int
  weight : Int
def Cut.cells (c : Cut) : List Value := [.int .i64 c.frm, .int .i64 c.to_, .int .i64 c.weight]
theorem Cut.cells_length (c : Cut) : c.cells.length = 3 := rfl

def weightOf (k : Int) : Int := if k = 5 then 10 else if k = 7 then 8 else if k = 2 then 3 else if k = 4 then 2 else 0
theorem weightOf_bd (k : Int) : 0 ≤ weightOf k ∧ weightOf k ≤ 10 := by
  unfold weightOf; repeat' split
  all_goals omega

def frameOk (n : Int) : Bool := decide (0 ≤ n ∧ n ≤ 1073741824)

def evsOk (fr : Int) : Int → List Ev → Bool
  | _, [] => true
  | last, e :: l => if e.frame < last ∨ fr ≤ e.frame then false else evsOk fr e.frame l

def aboutC (e : Ev) (fr ld tr : Int) : Cut := ⟨max (e.frame - ld) 0, min (e.frame + tr + 1) fr, weightOf e.kind⟩

def joinC (l : List Cut) (c : Cut) : List Cut :=
  match l.getLast? with
  | none => [c]
  | some d => if c.frm ≤ d.to_ then l.dropLast ++ [⟨d.frm, max d.to_ c.to_, d.weight + c.weight⟩] else l ++ [c]

def stepC (fr ld tr : Int) (out : List Cut) (e : Ev) : List Cut := if 0 < weightOf e.kind then joinC out (aboutC e fr ld tr) else out
def cutsOf (l : List Ev) (fr ld tr : Int) : List Cut := l.foldl (stepC fr ld tr) []
theorem joinC_snoc (l : List Cut) (d c : Cut) : joinC (l ++ [d]) c = if c.frm ≤ d.to_ then l ++ [⟨d.frm, max d.to_ c.to_, d.weight + c.weight⟩] else l ++ [d] ++ [c] := by
  simp [joinC]
theorem joinC_bd (l : List Cut) (c : Cut) (m : Int) (h : ∀ d ∈ l, 0 ≤ d.weight ∧ d.weight ≤ m) (h0 : 0 ≤ c.weight) (h1 : c.weight ≤ 10) (hm : 0 ≤ m) :
    (∀ d ∈ joinC l c, 0 ≤ d.weight ∧ d.weight ≤ m + 10) ∧ (joinC l c).length ≤ l.length + 1 := by
  rcases List.eq_nil_or_concat l with rfl | ⟨l', d, rfl⟩
  · simp only [joinC, List.getLast?_nil, List.mem_singleton, List.length_cons, List.length_nil, Nat.le_refl, and_true]
    rintro d rfl
    omega
  · rw [List.concat_eq_append] at h ⊢
    rw [joinC_snoc]
    have hd := h d (by simp)
    split
    · refine ⟨fun x hx => ?_, by simp⟩
      rcases List.mem_append.1 hx with hx | hx
      · have := h x (by simp [hx]); omega
      · simp only [List.mem_singleton] at hx
        subst hx
        show 0 ≤ d.weight + c.weight ∧ d.weight + c.weight ≤ m + 10
        omega
    · refine ⟨fun x hx => ?_, by simp⟩
      rcases List.mem_append.1 hx with hx | hx
      · have := h x hx; omega
      · simp only [List.mem_singleton] at hx
        subst hx
        omega
theorem cutsOf_snoc (l : List Ev) (e : Ev) (fr ld tr : Int) : cutsOf (l ++ [e]) fr ld tr = stepC fr ld tr (cutsOf l fr ld tr) e := by
  simp [cutsOf]
theorem cutsOf_take (l : List Ev) (fr ld tr : Int) (k : Nat) (h : k < l.length) : cutsOf (l.take (k + 1)) fr ld tr = stepC fr ld tr (cutsOf (l.take k) fr ld tr) l[k] := by
  rw [List.take_succ_eq_append_getElem h, cutsOf_snoc]
theorem cutsOf_bd (fr ld tr : Int) (l : List Ev) : ∀ k, k ≤ l.length → (∀ d ∈ cutsOf (l.take k) fr ld tr, 0 ≤ d.weight ∧ d.weight ≤ 10 * k) ∧ (cutsOf (l.take k) fr ld tr).length ≤ k := by
  intro k
  induction k with
  | zero => intro _; simp [cutsOf]
  | succ k ih =>
    intro hk
    obtain ⟨h1, h2⟩ := ih (by omega)
    rw [cutsOf_take l fr ld tr k (by omega), stepC]
    split
    · have hw := weightOf_bd (l[k]).kind
      obtain ⟨g1, g2⟩ := joinC_bd _ (aboutC l[k] fr ld tr) (10 * k) h1 hw.1 hw.2 (by omega)
      refine ⟨fun d hd => ?_, by omega⟩
      have := g1 d hd
      omega
    · refine ⟨fun d hd => ?_, by omega⟩
      have := h1 d hd
      omega
theorem evsOk_mem (fr : Int) : ∀ (l : List Ev) (z : Int), evsOk fr z l = true → ∀ e ∈ l, z ≤ e.frame ∧ e.frame < fr
  | [], _, _ => by simp
  | e :: l, z, h => by
    rw [evsOk] at h
    split at h
    · cases h
    · rename_i hn
      intro x hx
      rcases List.mem_cons.1 hx with rfl | hx
      · omega
      · have := evsOk_mem fr l _ h x hx
        omega
end Go.Proofs.YtaegekfdbhmcaaaDoor
