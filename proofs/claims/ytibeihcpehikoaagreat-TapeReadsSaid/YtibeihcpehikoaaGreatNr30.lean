/-
  The walks beneath: Guard, R11a.
-/
import Derived.Deep.MidRow
import Derived.Deep.DeepCutAuto
import Derived.Test.YtibeihcpehikoaaGreatNr22
import Derived.Test.YtibeihcpehikoaaGreatNr1
namespace Go.Proofs.YtibeihcpehikoaaGreat
section
open Go.RowKit
section
variable {P : Program} {ops : Array Oper} {Q : Exit → Act → World → Prop} {a : Act} {w : World} {rest : List Oper} {o : Oper}
theorem wpList_want (hw : Region.wanted o (yielded ops a.tmps) = true) (h : ∀ K : Act → World → Prop, (∀ a w, wpList P ops Q rest a w → K a w) → o.wp P a w K Q) : wpList P ops Q (o :: rest) a w :=
  wpList_step fun K hK => by simp only [hw, if_true]; exact h K hK
theorem wpList_load_midG (hw : Region.wanted o (yielded ops a.tmps) = true) (ty : TypeId) (x : Operand) (ho : o.op = .load ty x)
    (b i : Nat) (hx : a.eval x = .pointer (some ⟨b, i, none⟩)) (cs : List Value) (d : TypeDesc) (hc : w.rangeAt b i cs)
    (hu : P.underlying ty = some d) (hd : d.isRow = true) (hi : (P.info? ty).map (·.size) = some cs.length)
    (h : wpList P ops Q rest (a.put o.dst (.agg cs.toArray)) w) : wpList P ops Q (o :: rest) a w :=
  wpList_want hw fun _ hK => wp_load_mid ty x ho b i hx cs d hc hu hd hi (hK _ _ h)
end
theorem Blk.range {w : World} {g : Nat} {E : TypeId} {cs : List Value} (h : Blk w g E cs.toArray) : w.rangeAt g 0 cs := fun j v hv => by
  rw [Nat.zero_add, h.cell j, ← hv]; simp
end
end Go.Proofs.YtibeihcpehikoaaGreat
