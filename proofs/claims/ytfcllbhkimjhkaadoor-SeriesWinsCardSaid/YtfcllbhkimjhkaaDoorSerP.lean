/-
  The series' plain functions: what the program's functions compute, on lists and integers.
-/
import Derived.Test.YtfcllbhkimjhkaaDoorEv
namespace Go.Proofs.YtfcllbhkimjhkaaDoor.Ser

structure Rnd where
  frame : Int
  a : Int
  b : Int
  win : Int
def Rnd.cells (r : Rnd) : List Value := [.int .i64 r.frame, .int .i64 r.a, .int .i64 r.b, .int .i64 r.win]
theorem Rnd.cells_length (r : Rnd) : r.cells.length = 4 := rfl
def winOf (a b : Int) : Int := if b < a then 0 else if a < b then 1 else -1
def hit (e : Ev) (who : Int) : Bool := e.kind == 5 && e.emitter == 2 - who
def killsOf (l : List Ev) (who : Int) : Int := (l.map fun e => if hit e who then 1 else 0).sum
theorem killsOf_take (l : List Ev) (who : Int) (k : Nat) (h : k < l.length) : killsOf (l.take (k + 1)) who = killsOf (l.take k) who + if hit l[k] who then 1 else 0 := by
  unfold killsOf
  rw [List.take_succ_eq_append_getElem h, List.map_append, List.sum_append]
  simp
theorem killsOf_snoc (l : List Ev) (who : Int) (e : Ev) : killsOf (l ++ [e]) who = killsOf l who + if hit e who then 1 else 0 := by
  unfold killsOf
  rw [List.map_append, List.sum_append]
  simp
theorem killsOf_bd (l : List Ev) (who : Int) : 0 ≤ killsOf l who ∧ killsOf l who ≤ l.length := by
  induction l with
  | nil => simp [killsOf]
  | cons e l ih =>
    have : killsOf (e :: l) who = (if hit e who then 1 else 0) + killsOf l who := by simp [killsOf]
    rw [this, List.length_cons]
    split <;> omega
structure Thr where
  out : List Rnd
  a : Int
  b : Int
def stepT (t : Thr) (e : Ev) : Thr :=
  if e.kind = 7 then ⟨t.out ++ [⟨e.frame, t.a, t.b, winOf t.a t.b⟩], 0, 0⟩
  else ⟨t.out, t.a + (if hit e 0 then 1 else 0), t.b + (if hit e 1 then 1 else 0)⟩
def thr (l : List Ev) : Thr := l.foldl stepT ⟨[], 0, 0⟩
theorem thr_take (l : List Ev) (k : Nat) (h : k < l.length) : thr (l.take (k + 1)) = stepT (thr (l.take k)) l[k] := by
  rw [List.take_succ_eq_append_getElem h, thr, List.foldl_append]; rfl
theorem thr_bd (l : List Ev) : ∀ k, k ≤ l.length → 0 ≤ (thr (l.take k)).a ∧ (thr (l.take k)).a ≤ k ∧ 0 ≤ (thr (l.take k)).b ∧ (thr (l.take k)).b ≤ k ∧ (thr (l.take k)).out.length ≤ k ∧
    ∀ r ∈ (thr (l.take k)).out, 0 ≤ r.a ∧ r.a ≤ k ∧ 0 ≤ r.b ∧ r.b ≤ k
  | 0, _ => by simp [thr]
  | k + 1, h => by
    obtain ⟨h1, h2, h3, h4, h5, h6⟩ := thr_bd l k (by omega)
    rw [thr_take l k (by omega), stepT]
    split
    · refine ⟨by simp only; omega, by simp only; omega, by simp only; omega, by simp only; omega, by simp; omega, fun r hr => ?_⟩
      rcases List.mem_append.1 hr with hr | hr
      · have := h6 r hr; omega
      · simp only [List.mem_singleton] at hr; subst hr; simp only; omega
    · refine ⟨by simp only; split <;> omega, by simp only; split <;> omega, by simp only; split <;> omega, by simp only; split <;> omega, by simp only; omega, fun r hr => ?_⟩
      have := h6 r hr; omega
/-- All kills are those of the rounds, and the open ones. -/
theorem thr_sum (l : List Ev) : ∀ k, k ≤ l.length → ((thr (l.take k)).out.map Rnd.a).sum + (thr (l.take k)).a = killsOf (l.take k) 0 ∧ ((thr (l.take k)).out.map Rnd.b).sum + (thr (l.take k)).b = killsOf (l.take k) 1
  | 0, _ => by simp [thr, killsOf]
  | k + 1, h => by
    obtain ⟨h1, h2⟩ := thr_sum l k (by omega)
    have hk : k < l.length := by omega
    rw [thr_take l k hk, killsOf_take l 0 k hk, killsOf_take l 1 k hk, stepT]
    split
    · rename_i h7
      have e0 : hit l[k] 0 = false := by simp [hit, h7]
      have e1 : hit l[k] 1 = false := by simp [hit, h7]
      rw [e0, e1]
      simp only [List.map_append, List.sum_append, List.map_cons, List.map_nil, List.sum_cons, List.sum_nil]
      constructor
      · simp; omega
      · simp; omega
    · simp only
      constructor
      · omega
      · omega
/-- From where the open kills are counted. -/
def fromOf (l : List Ev) : Nat → Nat
  | 0 => 0
  | k + 1 => match l[k]? with
    | some e => if e.kind = 7 then k + 1 else fromOf l k
    | none => fromOf l k
theorem fromOf_le (l : List Ev) : ∀ k, fromOf l k ≤ k
  | 0 => Nat.le_refl _
  | k + 1 => by
    have := fromOf_le l k
    rw [fromOf]
    split
    · split <;> omega
    · omega
theorem fromOf_kills (l : List Ev) : ∀ k, k ≤ l.length → (thr (l.take k)).a = killsOf ((l.take k).drop (fromOf l k)) 0 ∧ (thr (l.take k)).b = killsOf ((l.take k).drop (fromOf l k)) 1
  | 0, _ => by simp [thr, killsOf]
  | k + 1, h => by
    obtain ⟨h1, h2⟩ := fromOf_kills l k (by omega)
    have hk : k < l.length := by omega
    have hf := fromOf_le l k
    rw [thr_take l k hk, fromOf, List.getElem?_eq_getElem hk, stepT]
    simp only
    split
    · rename_i h7
      have : (l.take (k + 1)).drop (k + 1) = [] := List.drop_of_length_le (by simp; omega)
      rw [this]
      simp [killsOf]
    · have : (l.take (k + 1)).drop (fromOf l k) = (l.take k).drop (fromOf l k) ++ [l[k]] := by
        rw [List.take_succ_eq_append_getElem hk, List.drop_append_of_le_length (by simp; omega)]
      rw [this, killsOf_snoc, killsOf_snoc, ← h1, ← h2]
      simp
def rightEv : Int → List Ev → Bool
  | _, [] => true
  | last, e :: l => if e.frame < last ∨ 1073741824 < e.frame then false else rightEv e.frame l
end Go.Proofs.YtfcllbhkimjhkaaDoor.Ser
