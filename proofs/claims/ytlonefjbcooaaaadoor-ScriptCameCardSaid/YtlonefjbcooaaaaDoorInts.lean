/-
  A block of integers, given by a function of the place; what one block's change leaves alone.
-/
import Derived.Test.YtlonefjbcooaaaaDoorOwn
namespace Go.Proofs.YtlonefjbcooaaaaDoor
open Go.RowKit

def upd (f : Nat → Int) (i : Nat) (v : Int) : Nat → Int := fun j => if j = i then v else f j
theorem upd_same (f : Nat → Int) (i : Nat) (v : Int) : upd f i v i = v := if_pos rfl
theorem upd_other (f : Nat → Int) (i j : Nat) (v : Int) (h : j ≠ i) : upd f i v j = f j := if_neg h
def IBlk (w : World) (g : Nat) (E : TypeId) (n : Nat) (f : Nat → Int) : Prop := Blk w g E (rowOf n fun i => Value.int .i64 (f i)).toArray
section
variable {w w' : World} {g n : Nat} {E : TypeId} {f : Nat → Int}
theorem IBlk.lt (h : IBlk w g E n f) : g < w.heap.size := Blk.lt h
theorem IBlk.cell (h : IBlk w g E n f) (i : Nat) (hi : i < n) : w.cell? ⟨g, i, none⟩ = some (.int .i64 (f i)) := by
  rw [Blk.cell h i]
  simp [rowOf, hi]
theorem IBlk.frozen (h : IBlk w g E n f) (i : Nat) : w.frozen? ⟨g, i, none⟩ = false := Blk.frozen h i
theorem IBlk.set (h : IBlk w g E n f) (i : Nat) (v : Int) : IBlk (w.setCell ⟨g, i, none⟩ (.int .i64 v)) g E n (upd f i v) := by
  have := Blk.set h i (.int .i64 v)
  unfold IBlk
  have e : (rowOf n fun j => Value.int .i64 (upd f i v j)).toArray = ((rowOf n fun j => Value.int .i64 (f j)).toArray).setIfInBounds i (.int .i64 v) := by
    apply Array.ext'
    simp only [Array.toList_setIfInBounds]
    rw [rowOf_set]
    refine rowOf_congr fun j _ => ?_
    unfold upd
    split <;> rfl
  rw [e]
  exact this
theorem IBlk.drew (h : IBlk w g E n f) : IBlk w.drew g E n f := h
theorem IBlk.drewN (h : IBlk w g E n f) (k : Nat) : IBlk (w.drewN k) g E n f := h
theorem IBlk.alloc (h : IBlk w g E n f) (o : Obj) : IBlk (w.alloc o) g E n f := Blk.alloc h o
theorem IBlk.farG (h : IBlk w g E n f) {k : Nat} (hp : g ≠ k) (o : Nat) (u : Value) : IBlk (w.setCell ⟨k, o, none⟩ u) g E n f := Blk.farG h hp o u
theorem IBlk.on (h : IBlk w g E n f) (hb : Below w.heap.size w w') : IBlk w' g E n f := Blk.on h hb
theorem IBlk.grown {row : Option Nat} (h : IBlk w g E n f) (hb : w.grownBy w' row) (hg : row ≠ some g) : IBlk w' g E n f := Blk.grown h hb hg
theorem IBlk.congr {f' : Nat → Int} (h : IBlk w g E n f) (he : ∀ i, i < n → f i = f' i) : IBlk w g E n f' := by
  unfold IBlk at h ⊢
  rw [← show (rowOf n fun i => Value.int .i64 (f i)) = rowOf n fun i => Value.int .i64 (f' i) from rowOf_congr fun i hi => by rw [he i hi]]
  exact h
end
section
variable {w w' w2 : World} {g : Nat}
theorem oRefl (w : World) (row : Option Nat) : w.grownBy w row := ⟨rfl, rfl, rfl, Nat.le_refl _, fun _ _ _ => rfl⟩
theorem oAlloc {row : Option Nat} (h : w.grownBy w' row) (o : Obj) : w.grownBy (w'.alloc o) row :=
  ⟨h.os, h.tape, h.output, by have := h.size; simp; omega, fun k hk hr => (Below.heap_alloc w' o k (Nat.lt_of_lt_of_le hk h.size)).trans (h.block k hk hr)⟩
theorem oDrew {row : Option Nat} (h : w.grownBy w' row) : w.grownBy w'.drew row := ⟨h.os, h.tape, h.output, h.size, h.block⟩
theorem oDrewN {row : Option Nat} (h : w.grownBy w' row) (n : Nat) : w.grownBy (w'.drewN n) row := ⟨h.os, h.tape, h.output, h.size, h.block⟩
theorem oSet (h : w.grownBy w' (some g)) (o : Nat) (u : Value) : w.grownBy (w'.setCell ⟨g, o, none⟩ u) (some g) :=
  ⟨h.os, h.tape, h.output, by have := h.size; simpa using this, fun k hk hr => (Below.heap_setCell w' ⟨g, o, none⟩ u k (fun e => hr (by rw [e]))).trans (h.block k hk hr)⟩
theorem oSetNew {row : Option Nat} (h : w.grownBy w' row) {k : Nat} (hk : w.heap.size ≤ k) (o : Nat) (u : Value) : w.grownBy (w'.setCell ⟨k, o, none⟩ u) row :=
  ⟨h.os, h.tape, h.output, by have := h.size; simpa using this, fun j hj hr => (Below.heap_setCell w' ⟨k, o, none⟩ u j (fun e => by simp at e; omega)).trans (h.block j hj hr)⟩
theorem oTrans {row : Option Nat} (h : w.grownBy w' row) (k : w'.grownBy w2 row) : w.grownBy w2 row :=
  ⟨k.os.trans h.os, k.tape.trans h.tape, k.output.trans h.output, Nat.le_trans h.size k.size, fun j hj hr => (k.block j (Nat.lt_of_lt_of_le hj h.size) hr).trans (h.block j hj hr)⟩
theorem oBelow {row : Option Nat} {B : Nat} (h : w.grownBy w' row) (k : Below B w' w2) (hB : w.heap.size ≤ B) : w.grownBy w2 row :=
  ⟨k.os.trans h.os, k.tape.trans h.tape, k.output.trans h.output, Nat.le_trans h.size k.size, fun j hj hr => (k.block j (Nat.lt_of_lt_of_le hj hB)).trans (h.block j hj hr)⟩
theorem oBelow' {row : Option Nat} (h : w.grownBy w' row) (k : Below w'.heap.size w' w2) : w.grownBy w2 row := oBelow h k h.size
theorem bOnly {B : Nat} {row : Option Nat} (h : w.grownBy w' row) (hB : B ≤ w.heap.size) (hr : ∀ k, row = some k → B ≤ k) : Below B w w' :=
  ⟨h.os, h.tape, h.output, h.size, fun k hk => h.block k (Nat.lt_of_lt_of_le hk hB) (fun e => by have := hr k e.symm; omega)⟩
theorem Rd.only {B : Nat} {A : Option Addr} {xs : List Value} {row : Option Nat} (hr : Rd w B A xs) (h : w.grownBy w' row) (hB : B ≤ w.heap.size) (hg : ∀ k, row = some k → B ≤ k) : Rd w' B A xs := hr.below (bOnly h hB hg) (Nat.le_refl _)
end
/-- What a slice holds, wherever but in block g. -/
def RdN (w : World) (g : Nat) (A : Option Addr) (xs : List Value) : Prop := Rd w w.heap.size A xs ∧ ∀ a, A = some a → xs ≠ [] → a.block ≠ g
theorem RdN.only {w w' : World} {g : Nat} {A : Option Addr} {xs : List Value} (h : RdN w g A xs) (k : w.grownBy w' (some g)) : RdN w' g A xs := by
  refine ⟨fun hne => ?_, h.2⟩
  obtain ⟨b, off, rfl, hb, hc⟩ := h.1 hne
  have hbg : b ≠ g := h.2 _ rfl hne
  exact ⟨b, off, rfl, Nat.lt_of_lt_of_le hb k.size, fun j u hu => by
    rw [← hc j u hu]
    unfold World.cell?
    simp only [k.block b hb (fun e => hbg (by first | (injection e with e; exact e.symm) | (cases e; rfl)))]⟩
theorem RdN.of_rd {w : World} {B g : Nat} {A : Option Addr} {xs : List Value} (h : Rd w B A xs) (hg : B ≤ g) (hw : B ≤ w.heap.size) : RdN w g A xs :=
  ⟨h.more hw, fun a ha hne => by obtain ⟨b, off, e, hb, -⟩ := h hne; rw [ha] at e; cases e; exact Nat.ne_of_lt (Nat.lt_of_lt_of_le hb hg)⟩
theorem RdN.nil (w : World) (g : Nat) (A : Option Addr) : RdN w g A [] := ⟨Rd.nil _ _ _, fun _ _ h => absurd rfl h⟩
theorem RdN.new {w : World} {g : Nat} {cs : Array Value} {E : TypeId} (hg : g ≠ w.heap.size) : RdN (w.alloc (.cells cs E)) g (some ⟨w.heap.size, 0, none⟩) cs.toList :=
  ⟨rd_new w cs E _ rfl _ (by simp), fun a ha _ => by cases ha; exact fun e => hg e.symm⟩
end Go.Proofs.YtlonefjbcooaaaaDoor
