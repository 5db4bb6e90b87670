/-
  Maps in a region that draws its order: laws for the engine over the kinds of operation. No program is named here.
-/
import Derived.Test.YteccmklacgpodaaMapR
import Derived.Test.YteccmklacgpodaaMix
namespace Go.Proofs.Yteccmklacgpodaa
open Go.RowKit
open Go.Maps (Keyed)
section
variable {κ ν : Type} {ke : κ → Value} {ve : ν → Value} {P : Program} {ops : Array Oper} {w : World} {kd : Nat → Kd} {sp : Nat → Told} {E : Act → (World → Prop) → Prop} {o : Oper} {rest : List Oper} {k : Nat} {a : Act} {D : World → Prop}
/-- A value that every grown world tells alike. -/
theorem mix_runs (v : Value) (hw : Region.wanted o (yielded ops a.tmps) = true) (hk : kd k = .held) (hD : Keeps w D) (hr : ∀ W, Grown w W → RunsTo P o a W v)
    (h : wpMix P ops w kd sp E rest (k + 1) (a.put o.dst v) D) : wpMix P ops w kd sp E (o :: rest) k a D := by
  unfold wpMix mStep
  rw [if_pos hw, hk]
  exact ⟨hD, v, fun W hW => hr W hW, h⟩
/-- 'v, ok := m[k]'. -/
theorem mix_look (hw : Region.wanted o (yielded ops a.tmps) = true) (hk : kd k = .held) (hD : Keeps w D) (m x : Operand) (t kt e : TypeId) (hop : o.op = Op.lookup t m x true) (K : Keyed P kt) (ht : P.underlying t = some (.map kt e))
    {z : Value} (hz : ∀ W, (zeroValue e).run P W = .ok z W) (b : Nat) (L : List (κ × ν)) (hm : a.eval m = .map (some b)) (hown : MapIs ke ve P kt w b L) (key : κ) (kl : Lit) (hx : a.eval x = ke key) (hkey : keyOf P kt (ke key) = some kl)
    (v : Value) (hno : (∀ p ∈ L, ke p.1 ≠ ke key) → v = .tuple #[z, .bool false]) (hyes : ∀ p ∈ L, ke p.1 = ke key → v = .tuple #[ve p.2, .bool true])
    (h : wpMix P ops w kd sp E rest (k + 1) (a.put o.dst v) D) : wpMix P ops w kd sp E (o :: rest) k a D := by
  refine mix_runs v hw hk hD (fun W hW => ?_) h
  have hW' : MapIs ke ve P kt W b L := hown.same (hW.block b hown.lt)
  unfold RunsTo execOp
  rcases hW'.look true K ht (hz W) hkey with ⟨h1, hrun⟩ | ⟨p, h1, h2, hrun⟩
  · rw [hno h1]
    simp [hop, hm, hx, hrun, Result.andThen]
  · rw [hyes p h1 h2]
    simp [hop, hm, hx, hrun, Result.andThen]
/-- 'len(m)'. -/
theorem mix_lenM (hw : Region.wanted o (yielded ops a.tmps) = true) (hk : kd k = .held) (hD : Keeps w D) (m : Operand) (t kt e : TypeId) (hop : o.op = Op.call { callee := Callee.builtin Builtin.len, args := #[m], argTypes := #[t] }) (ht : P.underlying t = some (.map kt e))
    (b : Nat) (L : List (κ × ν)) (hm : a.eval m = .map (some b)) (hown : MapIs ke ve P kt w b L)
    (h : wpMix P ops w kd sp E rest (k + 1) (a.put o.dst (.int .i64 L.length)) D) : wpMix P ops w kd sp E (o :: rest) k a D := by
  refine mix_runs _ hw hk hD (fun W hW => ?_) h
  have hW' : MapIs ke ve P kt W b L := hown.same (hW.block b hown.lt)
  unfold RunsTo execOp
  simp [hop, resolve, invoke, builtin, hm, hW'.len ht o.type, Result.andThen]
/-- A last operation that writes, told by a relation. -/
theorem mix_tailR (hw : Region.wanted o (yielded ops a.tmps) = true) (hk : kd k = .tail) (T : World → World → Prop) (hT : ∀ W, D W → ∃ W', (execOp a.eval o).run P W = .ok .skip W' ∧ T W W')
    (h : wpMix P ops w kd sp E rest (k + 1) (a.put o.dst undef) (fun W' => ∃ W, D W ∧ T W W')) : wpMix P ops w kd sp E (o :: rest) k a D := by
  unfold wpMix mStep
  rw [if_pos hw, hk]
  refine ⟨fun v => v = undef, fun _ W' => ∃ W, D W ∧ T W W', fun W hW => ?_, fun v hv _ => by subst hv; exact h⟩
  obtain ⟨W', h1, h2⟩ := hT W hW
  unfold Oper.goes
  rw [h1]
  exact ⟨rfl, W, hW, h2⟩
theorem mix_tailV (v : Value) (hw : Region.wanted o (yielded ops a.tmps) = true) (hk : kd k = .tail) (T : World → World → Prop) (hT : ∀ W, D W → ∃ W', (execOp a.eval o).run P W = .ok (.value v) W' ∧ T W W')
    (h : wpMix P ops w kd sp E rest (k + 1) (a.put o.dst v) (fun W' => ∃ W, D W ∧ T W W')) : wpMix P ops w kd sp E (o :: rest) k a D := by
  unfold wpMix mStep
  rw [if_pos hw, hk]
  refine ⟨fun u => u = v, fun _ W' => ∃ W, D W ∧ T W W', fun W hW => ?_, fun u hu _ => by subst hu; exact h⟩
  obtain ⟨W', h1, h2⟩ := hT W hW
  unfold Oper.goes
  rw [h1]
  exact ⟨rfl, W, hW, h2⟩
/-- 'm[k] = v'. -/
theorem mix_storeM (hw : Region.wanted o (yielded ops a.tmps) = true) (hk : kd k = .tail) (m x v : Operand) (t kt e : TypeId) (hop : o.op = Op.mapUpdate t m x v) (K : Keyed P kt) (ht : P.underlying t = some (.map kt e)) (b : Nat) (L L' : List (κ × ν))
    (hm : a.eval m = .map (some b)) (hD : ∀ W, D W → MapIs ke ve P kt W b L) (hL : L.length < maxLen) (key : κ) (val : ν) (kl : Lit) (hx : a.eval x = ke key) (hv : a.eval v = ve val) (hkey : keyOf P kt (ke key) = some kl)
    (hL1 : ∀ p ∈ L', p = (key, val) ∨ (p ∈ L ∧ ke p.1 ≠ ke key)) (hL2 : ∀ p ∈ L, ke p.1 ≠ ke key → p ∈ L') (hL3 : (key, val) ∈ L') (hL4 : (L'.map (fun p => ke p.1)).Nodup)
    (h : wpMix P ops w kd sp E rest (k + 1) (a.put o.dst undef) (fun W' => ∃ W, D W ∧ (MapIs ke ve P kt W' b L' ∧ W.mapTurned W' b))) : wpMix P ops w kd sp E (o :: rest) k a D := by
  refine mix_tailR hw hk (fun W W' => MapIs ke ve P kt W' b L' ∧ W.mapTurned W' b) (fun W hW => ?_) h
  obtain ⟨w', hrun, r1, r2⟩ := (hD W hW).store K ht hL hkey hL1 hL2 hL3 hL4
  refine ⟨w', ?_, r1, r2⟩
  unfold execOp
  simp [hop, hm, hx, hv, hrun, Result.andThen]
/-- 'delete(m, k)'. -/
theorem mix_dropM (hw : Region.wanted o (yielded ops a.tmps) = true) (hk : kd k = .tail) (m x : Operand) (t kt e : TypeId) (hop : o.op = Op.call { callee := Callee.builtin Builtin.delete, args := #[m, x], argTypes := #[t, kt] }) (K : Keyed P kt) (ht : P.underlying t = some (.map kt e)) (b : Nat) (L L' : List (κ × ν))
    (hm : a.eval m = .map (some b)) (hD : ∀ W, D W → MapIs ke ve P kt W b L) (key : κ) (kl : Lit) (hx : a.eval x = ke key) (hkey : keyOf P kt (ke key) = some kl)
    (hL1 : ∀ p, p ∈ L' ↔ (p ∈ L ∧ ke p.1 ≠ ke key)) (hL4 : (L'.map (fun p => ke p.1)).Nodup)
    (h : wpMix P ops w kd sp E rest (k + 1) (a.put o.dst (.tuple #[])) (fun W' => ∃ W, D W ∧ (MapIs ke ve P kt W' b L' ∧ W.mapTurned W' b))) : wpMix P ops w kd sp E (o :: rest) k a D := by
  refine mix_tailV (.tuple #[]) hw hk (fun W W' => MapIs ke ve P kt W' b L' ∧ W.mapTurned W' b) (fun W hW => ?_) h
  obtain ⟨w', hrun, r1, r2⟩ := (hD W hW).drop K ht hkey o.type hL1 hL4
  refine ⟨w', ?_, r1, r2⟩
  unfold execOp
  simp [hop, resolve, invoke, builtin, hm, hx, hrun, Result.andThen]
end
/-- What a variable made in the region is told to be. -/
def lgNew (w : World) (T : TypeId) (cs : Array Value) : Told := ⟨fun v => ∃ g, v = .pointer (some ⟨g, 0, none⟩), fun v W => ∀ g, v = .pointer (some ⟨g, 0, none⟩) → w.heap.size ≤ g ∧ Blk W g T cs⟩
theorem lgNew_st {w : World} {T : TypeId} {cs : Array Value} : ∀ v W U, (lgNew w T cs).R v W → Grown W U → (lgNew w T cs).R v U := fun _ _ _ h k g hg => ⟨(h g hg).1, (h g hg).2.on k⟩
theorem lgNew_makes {P : Program} {w : World} {a : Act} {o : Oper} {T : TypeId} {z : Value} {cs : Array Value} (ho : o.op = .alloc T) (hz : ∀ W, (zeroValue T).run P W = .ok z W) (hc : z.cells = cs) : Makes P w o (lgNew w T cs).S (lgNew w T cs).R a := fun W hW => by
  have hr : (execOp a.eval o).run P W = .ok (.value (.pointer (some ⟨W.heap.size, 0, none⟩))) (W.alloc (.cells cs T)) := by
    unfold execOp
    simp only [ho, Instr.alloc, Sem.run_bind, hz, Result.andThen_ok, newVar, newRow, newObj, hc]
    rfl
  unfold Oper.goes
  rw [hr]
  refine ⟨⟨⟨_, rfl⟩, fun g hg => ?_⟩, bAlloc (Below.refl _ _) _⟩
  simp only [Value.pointer.injEq, Option.some.injEq, Addr.mk.injEq, and_true] at hg
  subst hg
  exact ⟨Below.size hW, Blk.new _ _ _⟩
end Go.Proofs.Yteccmklacgpodaa
