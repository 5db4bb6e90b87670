/-
  A struct stored into one block, in a region that draws its order: the store may come ahead of loads of other blocks.
-/
import Derived.Test.YtlonefjbcooaaaaDoorRelX
import Derived.Test.YtlonefjbcooaaaaDoorRowB
import Derived.Deep.MidRow
namespace Go.Proofs.YtlonefjbcooaaaaDoor
open Go.RowKit
theorem goes_rel {P : Program} {o : Oper} {a : Act} {c : Nat} {T : TypeId} {C cs0 : Array Value} {w V : World} (x y : Operand) (ho : o.op = .store T x y) (hx : a.eval x = .pointer (some ⟨c, 0, none⟩)) (hy : a.eval y = .agg C)
    (K : Blk w c T cs0) (h0 : cs0.size = C.size) (hV : RelX c T C w V) (hi : (P.info? T).map (·.size) = some C.size) (h1 : C.all (·.oneCell') = true) :
    Oper.goes P o a V (fun v V' => (v = undef ∧ Blk V' c T C) ∧ RelX c T C V V') := by
  have ht : V.there c 0 C.size := by
    rcases hV.one with e | e
    · exact Blk.there (show Blk V c T cs0 from e.trans K) (by rw [h0, Nat.zero_add]; exact Nat.le_refl _)
    · exact Blk.there e (by rw [Nat.zero_add]; exact Nat.le_refl _)
  have hbk : Blk (V.setCells c 0 C.toList) c T C := by
    have hl : C.toList.length = C.size := Array.length_toList
    rcases hV.one with e | e
    · have := (show Blk V c T cs0 from e.trans K).whole C.toList (by rw [hl, h0])
      rwa [Array.toArray_toList] at this
    · have := e.whole C.toList hl
      rwa [Array.toArray_toList] at this
  have hrest := setCells_rest V c C.toList 0
  have hr : (execOp a.eval o).run P V = .ok .skip (V.setCells c 0 C.toList) := by
    unfold execOp
    simp only [ho, hx, hy, Instr.storeAt, Instr.sureAddr, Sem.run_bind, Sem.run_pure, Result.andThen_ok, run_storeVar_mid V c 0 T C ht hi h1]
  unfold Oper.goes
  rw [hr]
  exact ⟨⟨rfl, hbk⟩, ⟨hrest.1, hrest.2.1, hrest.2.2, by rw [setCells_size]; exact Nat.le_refl _, fun k _ hn => setCells_block _ _ _ _ _ hn, .inr hbk⟩⟩
end Go.Proofs.YtlonefjbcooaaaaDoor
