/-
  A value of one cell stored, last in a region that draws its order.
-/
import Derived.Test.YtlonefjbcooaaaaDoorMix
import Derived.Test.YtlonefjbcooaaaaDoorGoSt
namespace Go.Proofs.YtlonefjbcooaaaaDoor
open Go.RowKit
section
variable {P : Program} {ops : Array Oper} {w : World} {kd : Nat → Kd} {sp : Nat → Told} {E : Act → (World → Prop) → Prop} {o : Oper} {rest : List Oper} {k : Nat} {a : Act} {D : World → Prop}
theorem mix_store1 (hw : Region.wanted o (yielded ops a.tmps) = true) (hk : kd k = .tail) (ty : TypeId) (x y : Operand) (ho : o.op = .store ty x y)
    (b i : Nat) (u : Value) (hx : a.eval x = .pointer (some ⟨b, i, none⟩)) (hy : a.eval y = u) (ht : ∀ W, D W → W.there b i 1) (hi : (P.info? ty).map (·.size) = some 1) (hc : u.cells = #[u]) (h1 : u.oneCell' = true)
    (h : wpMix P ops w kd sp E rest (k + 1) (a.put o.dst undef) (fun W' => ∃ W, D W ∧ W' = W.setCell ⟨b, i, none⟩ u)) : wpMix P ops w kd sp E (o :: rest) k a D :=
  mix_tail hw hk (fun W => W.setCell ⟨b, i, none⟩ u) (fun W hW => by
    unfold execOp
    simp only [ho, hx, hy, Instr.storeAt, Instr.sureAddr, Sem.run_bind, Sem.run_pure, Result.andThen_ok, run_storeVar_cell W b i ty u (ht W hW) hi hc h1]) h
/-- A call that writes nothing that was there, behind all that read: its contract may ask what the makes ahead of it tell. -/
theorem mix_tailC (hw : Region.wanted o (yielded ops a.tmps) = true) (hk : kd k = .tail) (S : Value → Prop) (T : Value → World → Prop) (hT : ∀ W, D W → Oper.goes P o a W (fun v W' => S v ∧ T v W'))
    (h : ∀ v, S v → wpMix P ops w kd sp E rest (k + 1) (a.put o.dst v) (T v)) : wpMix P ops w kd sp E (o :: rest) k a D := by
  unfold wpMix mStep
  rw [if_pos hw, hk]
  exact ⟨S, T, hT, fun v hv _ => h v hv⟩
end
end Go.Proofs.YtlonefjbcooaaaaDoor
