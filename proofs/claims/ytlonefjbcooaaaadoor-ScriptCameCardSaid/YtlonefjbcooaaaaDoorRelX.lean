/-
  The relation of worlds in which one block may have been stored already.
-/
import Derived.Test.YtlonefjbcooaaaaDoorMixZ
namespace Go.Proofs.YtlonefjbcooaaaaDoor
open Go.RowKit
/-- All lies as it lay, but for one block, which lies as it lay or holds what was stored. -/
structure RelX (c : Nat) (T : TypeId) (C : Array Value) (w W : World) : Prop where
  os : W.os = w.os
  tape : W.tape = w.tape
  output : W.output = w.output
  size : w.heap.size ≤ W.heap.size
  block : ∀ k, k < w.heap.size → k ≠ c → W.heap[k]? = w.heap[k]?
  one : W.heap[c]? = w.heap[c]? ∨ Blk W c T C
section
variable {c g B : Nat} {T t : TypeId} {C cs : Array Value} {w W U a : World}
theorem RelX.refl : RelX c T C w w := ⟨rfl, rfl, rfl, Nat.le_refl _, fun _ _ _ => rfl, .inl rfl⟩
theorem RelX.trans (h : RelX c T C w W) (k : RelX c T C W U) : RelX c T C w U :=
  ⟨k.os.trans h.os, k.tape.trans h.tape, k.output.trans h.output, Nat.le_trans h.size k.size, fun j hj hn => (k.block j (Nat.lt_of_lt_of_le hj h.size) hn).trans (h.block j hj hn), by
    rcases k.one with e | e
    · rcases h.one with e2 | e2
      · exact .inl (e.trans e2)
      · exact .inr (e.trans e2)
    · exact .inr e⟩
theorem RelX.blk (h : RelX c T C w W) (k : Blk w g t cs) (hg : g ≠ c) : Blk W g t cs := (h.block g k.lt hg).trans k
theorem RelX.own (h : RelX c T C w W) (k : Blk w c T C) : Blk W c T C := by
  rcases h.one with e | e
  · exact e.trans k
  · exact e
theorem RelX.below (h : RelX c T C w W) (k : Below B a w) (hB : B ≤ c) (hs : B ≤ w.heap.size) : Below B a W :=
  ⟨h.os.trans k.os, h.tape.trans k.tape, h.output.trans k.output, Nat.le_trans k.size h.size, fun j hj => (h.block j (by omega) (by omega)).trans (k.block j hj)⟩
abbrev relG (c : Nat) (T : TypeId) (C : Array Value) : GRel := ⟨RelX c T C, fun _ => RelX.refl, fun h k => h.trans k, fun _ => ⟨rfl, rfl, rfl, Nat.le_refl _, fun _ _ _ => rfl, .inl rfl⟩⟩
end
end Go.Proofs.YtlonefjbcooaaaaDoor
