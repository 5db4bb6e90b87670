/-
  Regions that draw their order and whose calls make memory of their own: one walk of the text's order serves every order, in the class of the worlds that have grown out of the one at hand.
-/
import Derived.Test.YtlonefjbcooaaaaDoorOwn
import Derived.BigQuiet
namespace Go.Proofs.YtlonefjbcooaaaaDoor
open Go.RowKit

/-- A world that has grown out of w: of what was there nothing has turned. -/
structure Ext (w : World) where
  world : World
  below : Below w.heap.size w world
instance Ext.some (w : World) : Nonempty (Ext w) := ⟨⟨w, Below.refl _ _⟩⟩
section
variable {P : Program} {w : World} {f : FuncId} {args : Array Value} {v : Value}
theorem Ext.cell (x : Ext w) (b o : Nat) (h : b < w.heap.size) : x.world.cell? ⟨b, o, none⟩ = w.cell? ⟨b, o, none⟩ := x.below.cell (p := ⟨b, o, none⟩) h
theorem Ext.lt (x : Ext w) : w.heap.size ≤ x.world.heap.size := x.below.size
attribute [go_sem] Ext.cell
theorem wp_region_mild {id : Nat} {Q : Exit → Act → World → Prop} {a : Act} {l : List Oper} (hm : P.follows .mixedOrders = true) (hB : Region.lexB .any l.toArray = true)
    (h : wpQuiet P l.toArray (fun w' => ∃ x : Ext w, w' = x.world) (fun a' => ∀ w', (∃ x : Ext w, w' = x.world) → Q .normal a' w') l a) : (Code.region id l.toArray true).wp P Q a w :=
  wp_region_quiet (C := fun w' => ∃ x : Ext w, w' = x.world) hm hB ⟨⟨w.drew, (Below.refl _ _).drew⟩, rfl⟩ (by simpa using h)
/-- A callee that makes memory of its own alone. -/
theorem mild_of {x : Ext w} (h : Calls P f args x.world fun e w' => e = .returned v ∧ Below x.world.heap.size x.world w') : Calls P f args x.world fun e w'' => e = .returned v ∧ ∃ y : Ext w, w'' = y.world :=
  h.mono fun _ w'' ⟨he, hb⟩ => ⟨he, ⟨w'', bTrans x.below hb⟩, rfl⟩
/-- A callee that leaves the world alone. -/
theorem mild_same {x : Ext w} (h : Calls P f args x.world fun e w' => e = .returned v ∧ x.world = w') : Calls P f args x.world fun e w'' => e = .returned v ∧ ∃ y : Ext w, w'' = y.world :=
  h.mono fun _ _ ⟨he, hb⟩ => ⟨he, x, hb.symm⟩
theorem mild_draws {x : Ext w} (h : Calls P f args x.world fun e w' => e = .returned v ∧ ∃ n, w' = x.world.drewN n) : Calls P f args x.world fun e w'' => e = .returned v ∧ ∃ y : Ext w, w'' = y.world :=
  h.mono fun _ w'' ⟨he, n, hb⟩ => ⟨he, ⟨w'', by rw [hb]; exact below_drewN x.below n⟩, rfl⟩
end
end Go.Proofs.YtlonefjbcooaaaaDoor
