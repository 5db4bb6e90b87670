/-
  A row of cells stored into a block at once (what leans on no event).
-/
import Derived.Test.YtlonefjbcooaaaaDoorOwn
import Derived.Deep.MidRow
namespace Go.Proofs.YtlonefjbcooaaaaDoor
open Go.RowKit

def putAt (cs : Array Value) : Nat → List Value → Array Value
  | _, [] => cs
  | o, v :: r => putAt (cs.setIfInBounds o v) (o + 1) r
theorem putAt_size (vs : List Value) : ∀ (cs : Array Value) (o : Nat), (putAt cs o vs).size = cs.size := by
  induction vs with
  | nil => intro cs o; rfl
  | cons v r ih => intro cs o; rw [putAt, ih]; simp
theorem putAt_get (vs : List Value) : ∀ (cs : Array Value) (o j : Nat), (putAt cs o vs)[j]? = if o ≤ j ∧ j < o + vs.length ∧ j < cs.size then vs[j - o]? else cs[j]? := by
  induction vs with
  | nil => intro cs o j; rw [putAt, if_neg (by simp; omega)]
  | cons v r ih =>
    intro cs o j
    rw [putAt, ih]
    simp only [Array.size_setIfInBounds, List.length_cons]
    by_cases h : o + 1 ≤ j ∧ j < o + 1 + r.length ∧ j < cs.size
    · rw [if_pos h, if_pos (by omega)]
      have : j - o = (j - (o + 1)) + 1 := by omega
      rw [this, List.getElem?_cons_succ]
    · rw [if_neg h]
      by_cases h2 : j = o
      · subst h2
        by_cases h3 : j < cs.size
        · rw [if_pos (by omega)]; simp [h3]
        · rw [if_neg (by omega)]
          simp [h3]
      · rw [if_neg (by omega), Array.getElem?_setIfInBounds, if_neg (fun e => h2 e.symm)]
section
variable {w w' : World} {g : Nat} {E : TypeId} {cs : Array Value}
theorem Blk.setCells (h : Blk w g E cs) (vs : List Value) : ∀ o, Blk (w.setCells g o vs) g E (putAt cs o vs) := by
  induction vs generalizing w cs with
  | nil => intro o; exact h
  | cons v r ih => intro o; exact ih (h.set o v) (o + 1)
theorem setCells_block (w : World) (g : Nat) (vs : List Value) : ∀ (o k : Nat), k ≠ g → (w.setCells g o vs).heap[k]? = w.heap[k]? := by
  induction vs generalizing w with
  | nil => intro o k _; rfl
  | cons v r ih => intro o k hk; rw [World.setCells, ih _ _ _ hk]; exact Below.heap_setCell w ⟨g, o, none⟩ v k hk
theorem setCells_size (w : World) (g : Nat) (vs : List Value) : ∀ o, (w.setCells g o vs).heap.size = w.heap.size := by
  induction vs generalizing w with
  | nil => intro o; rfl
  | cons v r ih => intro o; rw [World.setCells, ih]; simp
theorem setCells_rest (w : World) (g : Nat) (vs : List Value) : ∀ o, (w.setCells g o vs).os = w.os ∧ (w.setCells g o vs).tape = w.tape ∧ (w.setCells g o vs).output = w.output := by
  induction vs generalizing w with
  | nil => intro o; exact ⟨rfl, rfl, rfl⟩
  | cons v r ih => intro o; rw [World.setCells]; exact ih _ _
theorem oSetCells (h : w.grownBy w' (some g)) (o : Nat) (vs : List Value) : w.grownBy (w'.setCells g o vs) (some g) :=
  ⟨(setCells_rest w' g vs o).1.trans h.os, (setCells_rest w' g vs o).2.1.trans h.tape, (setCells_rest w' g vs o).2.2.trans h.output, by rw [setCells_size]; exact h.size,
    fun k hk hr => (setCells_block w' g vs o k (fun e => hr (by rw [e]))).trans (h.block k hk hr)⟩
theorem bSetCells {B : Nat} (h : Below B w w') (hg : B ≤ g) (o : Nat) (vs : List Value) : Below B w (w'.setCells g o vs) :=
  ⟨(setCells_rest w' g vs o).1.trans h.os, (setCells_rest w' g vs o).2.1.trans h.tape, (setCells_rest w' g vs o).2.2.trans h.output, by rw [setCells_size]; exact h.size,
    fun k hk => (setCells_block w' g vs o k (by omega)).trans (h.block k hk)⟩
theorem Blk.farC {k : Nat} (h : Blk w g E cs) (hp : g ≠ k) (o : Nat) (vs : List Value) : Blk (w.setCells k o vs) g E cs := (setCells_block w k vs o g hp).trans h
theorem Blk.there (h : Blk w g E cs) {o n : Nat} (hn : o + n ≤ cs.size) : w.there g o n := fun j hj => ⟨by rw [h.cell]; simp; omega, h.frozen _⟩
/-- A whole block stored anew. -/
theorem Blk.whole (h : Blk w g E cs) (vs : List Value) (hn : vs.length = cs.size) : Blk (w.setCells g 0 vs) g E vs.toArray := by
  have := h.setCells vs 0
  have e : putAt cs 0 vs = vs.toArray := by
    apply Array.ext_getElem?
    intro j
    rw [putAt_get]
    by_cases hj : j < cs.size
    · rw [if_pos (by omega)]; simp
    · rw [if_neg (by omega), Array.getElem?_eq_none (by omega), Array.getElem?_eq_none (by simp; omega)]
  rw [← e]; exact this
end
end Go.Proofs.YtlonefjbcooaaaaDoor
