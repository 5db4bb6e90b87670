/-
  The walks beneath: Played, MixS, Match.
-/
import Derived.Shelf.Abstract
import Derived.Shelf.RegionOpen
import Derived.TacticsInMore
import Derived.LoopNIn
import Derived.LoopIn
import Derived.Outline
import Derived.Great.BuildSlice
import Derived.Test.YtibeihcpehikoaaGreatMq36
import Derived.Test.YtibeihcpehikoaaGreatMq39
import Derived.Test.YtibeihcpehikoaaGreatMq37
import Derived.Test.YtibeihcpehikoaaGreatMq6
import Derived.Test.YtibeihcpehikoaaGreatMq31
namespace Go.Proofs.YtibeihcpehikoaaGreat
open Go.RowKit Go.Shelf
attribute [local go_sem] Oper.semAt_some
set_option maxRecDepth 100000
set_option linter.unusedSimpArgs false
/-- What is yielded in a round. -/
structure Rnd where
  x : Nat
  y : Nat
  T : Nat → Int
  L : List Ev
  A : Option Addr
  c : Nat
def Rnd.g2 (r : Rnd) : List Value := stCells r.T ++ [.slice r.A r.L.length r.c]
def Rnd.encs (r : Rnd) : Array Value := #[.agg #[.int .u8 r.x, .int .u8 r.y], .agg r.g2.toArray]
def Rnd.core (r : Rnd) : (Nat × Nat) × (Nat → Int) × List Ev := ((r.x, r.y), r.T, r.L)
def YpM (N : Nat) (pre : List Rnd) (r : Rnd) (A : World) : Prop := OwnL A 0 62 9 (.slice r.A r.L.length r.c) Ev.cells r.L ∧ r.L.length ≤ 22 ∧ pre.length < N
/-- Blocks of other types than the rows', and not the caller's boxes, lie as they lay. -/
def KpX (X : Nat → Prop) (A B : World) : Prop := A.heap.size ≤ B.heap.size ∧ ∀ r t cs, Blk A r t cs → t ≠ 62 → t ≠ 118 → ¬ X r → Blk B r t cs
theorem grown_of {A B : World} (h : Below A.heap.size A B) : A.grownBy B none := ⟨h.os, h.tape, h.output, h.size, fun k hk _ => h.block k hk⟩
theorem grownBy_setCells (w : World) (g o : Nat) (vs : List Value) : w.grownBy (w.setCells g o vs) (some g) :=
  ⟨(setCells_rest w g vs o).1, (setCells_rest w g vs o).2.1, (setCells_rest w g vs o).2.2, by rw [setCells_size]; exact Nat.le_refl _, fun k _ hne => setCells_block w g vs o k (fun e => hne (by rw [e]))⟩
/-- A value known, in a fence. -/
theorem wpListIn_runs {F : Fence} {n : Nat} {P : Program} {ops : Array Oper} {rest : List Oper} {o : Oper} {a : Act} {w : World} {Q : Exit → Act → World → Prop} (v : Value) (hw : Region.wanted o (yielded ops a.tmps) = true) (hd : ∀ c, o.op ≠ .defer c) (ha : o.about P w a.eval = none) (hr : RunsTo P o a w v) (h : wpListIn F n P ops Q rest (a.put o.dst v) w) : wpListIn F n P ops Q (o :: rest) a w := by
  unfold wpListIn
  rw [if_pos hw]
  refine ⟨fun f hf => (by rw [ha] at hf; cases hf), ?_⟩
  rw [Oper.semAt_plain _ _ _ hd]
  unfold RunsTo at hr
  rw [hr]
  exact h
theorem runs_load {P : Program} {o : Oper} {a : Act} {w : World} (ty : TypeId) (x : Operand) (ho : o.op = .load ty x) (b i : Nat) (hx : a.eval x = .pointer (some ⟨b, i, none⟩)) (cs : List Value) (d : TypeDesc) (hc : w.rangeAt b i cs) (hu : P.underlying ty = some d) (hd : d.isRow = true) (hi : (P.info? ty).map (·.size) = some cs.length) : RunsTo P o a w (.agg cs.toArray) := by
  unfold RunsTo execOp
  simp only [ho, hx, Instr.loadAt, Instr.sureAddr, Sem.run_bind, Sem.run_pure, Result.andThen_ok, run_loadVar_mid w b i ty cs d hc hu hd hi]
/-- A store of many cells, in a fence. -/
theorem wpListIn_store {F : Fence} {n : Nat} {P : Program} {ops : Array Oper} {rest : List Oper} {o : Oper} {a : Act} {w : World} {Q : Exit → Act → World → Prop} (hw : Region.wanted o (yielded ops a.tmps) = true) (ha : o.about P w a.eval = none) (ty : TypeId) (x y : Operand) (ho : o.op = .store ty x y) (b i : Nat) (cs : Array Value) (hx : a.eval x = .pointer (some ⟨b, i, none⟩)) (hy : a.eval y = .agg cs) (ht : w.there b i cs.size) (hi : (P.info? ty).map (·.size) = some cs.size) (h1 : cs.all (·.oneCell') = true)
    (h : wpListIn F n P ops Q rest (a.put o.dst undef) (w.setCells b i cs.toList)) : wpListIn F n P ops Q (o :: rest) a w := by
  unfold wpListIn
  rw [if_pos hw]
  refine ⟨fun f hf => (by rw [ha] at hf; cases hf), ?_⟩
  rw [Oper.semAt_plain _ _ _ (by rw [ho]; intro c e; cases e)]
  have hr : (execOp a.eval o).run P w = .ok .skip (w.setCells b i cs.toList) := by
    unfold execOp
    simp only [ho, hx, hy, Instr.storeAt, Instr.sureAddr, Sem.run_bind, Sem.run_pure, Result.andThen_ok, run_storeVar_mid w b i ty cs ht hi h1]
  rw [hr]
  exact h
/-- A call of yield: what comes of the round goes on. -/
theorem wpListIn_yield {F : Fence} {n : Nat} {P : Program} {ops : Array Oper} {rest : List Oper} {o : Oper} {a : Act} {w w' : World} {Q : Exit → Act → World → Prop} {l : Nat} {fn : FuncId} {tms : Array Value} {assign body : Code} {v : Value} {R : World → Prop}
    (hw : Region.wanted o (yielded ops a.tmps) = true) (hd : ∀ c, o.op ≠ .defer c) (ha : o.about P w a.eval = none) (hr : (execOp a.eval o).run P w = .ok (.round l fn tms assign body) w') (hn : F.depth.isSome = true → 1 ≤ n)
    (hR : RoundIn F (n - 1) P l fn tms assign body w' fun e A => e = .returned v ∧ R A) (h : ∀ A, R A → wpListIn F n P ops Q rest (a.put o.dst v) A) : wpListIn F n P ops Q (o :: rest) a w := by
  unfold wpListIn
  rw [if_pos hw]
  refine ⟨fun f hf => (by rw [ha] at hf; cases hf), ?_⟩
  rw [Oper.semAt_plain _ _ _ hd, hr]
  refine ⟨hn, hR.mono ?_⟩
  rintro e A ⟨rfl, hA⟩
  exact h A hA
theorem runs_yield {P : Program} {o : Oper} {a : Act} {w w' : World} {c : Call} {l : Nat} {r : Next} (g : Operand) (args : List Operand) (ho : o.op = .call c) (hc : c.callee = .value g) (hg : a.eval g = .func (.yield l) #[] #[]) (ha : c.args = args.toArray) {vs : Array Value} (hy : (Instr.yield l vs).run P w = .ok r w') (hv : (args.map a.eval).toArray = vs := by rfl) : (execOp a.eval o).run P w = .ok r w' := by
  subst hv
  unfold execOp
  simp only [ho, resolve, hc, hg, ha]
  simp [Deferred.ofValue, invoke, go_sem]
  simpa using hy
theorem zero_pb (W : World) : (zeroValue 118).run Tryz.prog W = .ok (.agg #[.int .u8 0, .int .u8 0]) W := by kernel_rfl
theorem built_pb (x y : Int) : Tryz.prog.built 118 [(0, .int .u8 x), (1, .int .u8 y)] = some #[.int .u8 x, .int .u8 y] := by kernel_rfl
end Go.Proofs.YtibeihcpehikoaaGreat

namespace Go.Proofs.YtibeihcpehikoaaGreat
open Go.RowKit
/-- A world come of w: of the blocks that were there none but those of X may have turned. -/
structure ComeX (X : Nat → Prop) (w W : World) : Prop where
  os : W.os = w.os
  tape : W.tape = w.tape
  output : W.output = w.output
  size : w.heap.size ≤ W.heap.size
  block : ∀ k, k < w.heap.size → ¬ X k → W.heap[k]? = w.heap[k]?
theorem ComeX.refl (X : Nat → Prop) (w : World) : ComeX X w w := ⟨rfl, rfl, rfl, Nat.le_refl _, fun _ _ _ => rfl⟩
theorem ComeX.trans {X : Nat → Prop} {w W U : World} (h : ComeX X w W) (k : ComeX X W U) : ComeX X w U :=
  ⟨k.os.trans h.os, k.tape.trans h.tape, k.output.trans h.output, Nat.le_trans h.size k.size, fun i hi hx => (k.block i (Nat.lt_of_lt_of_le hi h.size) hx).trans (h.block i hi hx)⟩
theorem ComeX.grown {X : Nat → Prop} {w W U : World} {row : Option Nat} (h : ComeX X w W) (k : W.grownBy U row) (hr : ∀ r, row = some r → r < w.heap.size → X r) : ComeX X w U :=
  ⟨k.os.trans h.os, k.tape.trans h.tape, k.output.trans h.output, Nat.le_trans h.size k.size, fun i hi hx => (k.block i (Nat.lt_of_lt_of_le hi h.size) (fun e => hx (hr i e.symm hi))).trans (h.block i hi hx)⟩
theorem ComeX.below {X : Nat → Prop} {w W U : World} (h : ComeX X w W) (k : Below W.heap.size W U) : ComeX X w U :=
  ⟨k.os.trans h.os, k.tape.trans h.tape, k.output.trans h.output, Nat.le_trans h.size k.size, fun i hi hx => (k.block i (Nat.lt_of_lt_of_le hi h.size)).trans (h.block i hi hx)⟩
theorem ComeX.cell {X : Nat → Prop} {w W : World} (h : ComeX X w W) {b o : Nat} (hb : b < w.heap.size) (hx : ¬ X b) : W.cell? ⟨b, o, none⟩ = w.cell? ⟨b, o, none⟩ := by
  unfold World.cell?
  rw [h.block b hb hx]
theorem ComeX.of_grown (X : Nat → Prop) {w W : World} (h : Grown w W) : ComeX X w W := (ComeX.refl X w).below h
theorem ComeX.blk {X : Nat → Prop} {w W : World} (h : ComeX X w W) {b : Nat} {t : TypeId} {cs : Array Value} (k : Blk w b t cs) (hx : ¬ X b) : Blk W b t cs := (h.block b k.lt hx).trans k
section
variable {P : Program} {ops : Array Oper} {md : Region.Mode} {X : Nat → Prop} {w : World} {kd : Nat → Kd}
def msStep (P : Program) (ops : Array Oper) (X : Nat → Prop) (w : World) (kd : Nat → Kd) (o : Oper) (i : Nat) (K : Act → (World → Prop) → Prop) (a : Act) (D : World → Prop) : Prop :=
  if Region.wanted o (yielded ops a.tmps) = true then
    match kd i with
    | .pure => ∃ v, (∀ W, RunsTo P o a W v) ∧ K (a.put o.dst v) D
    | .held => (∀ W, D W → ComeX X w W) ∧ ∃ v, (∀ W, ComeX X w W → RunsTo P o a W v) ∧ K (a.put o.dst v) D
    | .make => (∀ W, D W → ComeX X w W) ∧ ∃ (S : Value → Prop) (R : Value → World → Prop), (∀ W, D W → Oper.goes P o a W (fun u W' => (S u ∧ R u W') ∧ ComeX X W W')) ∧ ∀ v, S v → Ne (fun W => R v W ∧ ComeX X w W) → K (a.put o.dst v) (fun W => R v W ∧ ComeX X w W)
    | .tail => ∃ (S : Value → Prop) (R : Value → World → Prop), (∀ W, D W → Oper.goes P o a W (fun u W' => S u ∧ R u W')) ∧ ∀ v, S v → Ne (R v) → K (a.put o.dst v) (R v)
  else K (a.put o.dst undef) D
def msOp (P : Program) (ops : Array Oper) (X : Nat → Prop) (w : World) (kd : Nat → Kd) (i : Nat) (K : Act → (World → Prop) → Prop) (a : Act) (D : World → Prop) : Prop :=
  match ops[i]? with
  | none => K a D
  | some o => msStep P ops X w kd o i K a D
theorem msStep_mono {o : Oper} {i : Nat} {a : Act} {D : World → Prop} {K K' : Act → (World → Prop) → Prop} (hne : Ne D) (h : ∀ a D, Ne D → K a D → K' a D) (hh : msStep P ops X w kd o i K a D) : msStep P ops X w kd o i K' a D := by
  unfold msStep at *
  split
  · rename_i hw
    rw [if_pos hw] at hh
    cases hk : kd i <;> rw [hk] at hh <;> simp only at hh ⊢
    · obtain ⟨v, h1, h2⟩ := hh; exact ⟨v, h1, h _ _ hne h2⟩
    · obtain ⟨h0, v, h1, h2⟩ := hh; exact ⟨h0, v, h1, h _ _ hne h2⟩
    · obtain ⟨h0, S, R, h1, h2⟩ := hh; exact ⟨h0, S, R, h1, fun v hv hn => h _ _ hn (h2 v hv hn)⟩
    · obtain ⟨S, R, h1, h2⟩ := hh; exact ⟨S, R, h1, fun v hv hn => h _ _ hn (h2 v hv hn)⟩
  · rename_i hw; rw [if_neg hw] at hh; exact h _ _ hne hh
theorem msOp_mono {i : Nat} {a : Act} {D : World → Prop} {K K' : Act → (World → Prop) → Prop} (hne : Ne D) (h : ∀ a D, Ne D → K a D → K' a D) (hh : msOp P ops X w kd i K a D) : msOp P ops X w kd i K' a D := by
  unfold msOp at *
  split
  · rename_i ho; simp only [ho] at hh; exact h _ _ hne hh
  · rename_i o ho; simp only [ho] at hh; exact msStep_mono hne h hh
theorem msStep_some {o : Oper} {i : Nat} {a : Act} {D : World → Prop} {K : Act → (World → Prop) → Prop} (hne : Ne D) (hh : msStep P ops X w kd o i K a D) : ∃ a' D', Ne D' ∧ K a' D' := by
  unfold msStep at hh
  split at hh
  · cases hk : kd i <;> rw [hk] at hh <;> simp only at hh
    · obtain ⟨v, -, h2⟩ := hh; exact ⟨_, _, hne, h2⟩
    · obtain ⟨-, v, -, h2⟩ := hh; exact ⟨_, _, hne, h2⟩
    · obtain ⟨h0, S, R, h1, h2⟩ := hh
      obtain ⟨W, hW⟩ := hne
      obtain ⟨v, W', ⟨hs, hr⟩, hg⟩ := goes_some (h1 W hW)
      have hn : Ne (fun W => R v W ∧ ComeX X w W) := ⟨W', hr, (h0 W hW).trans hg⟩
      exact ⟨_, _, hn, h2 v hs hn⟩
    · obtain ⟨S, R, h1, h2⟩ := hh
      obtain ⟨W, hW⟩ := hne
      obtain ⟨v, W', hs, hr⟩ := goes_some (h1 W hW)
      exact ⟨_, _, ⟨W', hr⟩, h2 v hs ⟨W', hr⟩⟩
  · exact ⟨_, _, hne, hh⟩
/-- Which kinds may come in either order. -/
def swapS (a b : Kd) : Bool := match a, b with
  | .pure, _ => true
  | _, .pure => true
  | .tail, _ => false
  | _, .tail => false
  | .make, .make => false
  | _, _ => true
theorem msStep_swap {i j : Nat} {oi oj : Oper} (hap : oi.apart ops oj = true) (hsi : ∀ cs b, oi.op ≠ .select cs b) (hsj : ∀ cs b, oj.op ≠ .select cs b) (hk : swapS (kd i) (kd j) = true) {K : Act → (World → Prop) → Prop} {a : Act} {D : World → Prop} (hne : Ne D)
    (h : msStep P ops X w kd oi i (fun a1 D1 => msStep P ops X w kd oj j K a1 D1) a D) : msStep P ops X w kd oj j (fun a2 D2 => msStep P ops X w kd oi i K a2 D2) a D := by
  obtain ⟨h1, h2, h3⟩ := Oper.apart_spec hap
  have ei : ∀ (a : Act) u, execOp (a.put oj.dst u).eval oi = execOp a.eval oi := fun a u => execOp_put oi hsi a oj.dst u h3
  have ej : ∀ (a : Act) u, execOp (a.put oi.dst u).eval oj = execOp a.eval oj := fun a u => execOp_put oj hsj a oi.dst u h1
  have wi : ∀ (a : Act) u, Region.wanted oi (yielded ops (a.put oj.dst u).tmps) = Region.wanted oi (yielded ops a.tmps) := fun a u => wanted_put oi a oj.dst u h3
  have wj : ∀ (a : Act) u, Region.wanted oj (yielded ops (a.put oi.dst u).tmps) = Region.wanted oj (yielded ops a.tmps) := fun a u => wanted_put oj a oi.dst u h1
  have pc : ∀ (a : Act) u v, (a.put oi.dst u).put oj.dst v = (a.put oj.dst v).put oi.dst u := fun a u v => Act.put_comm a u v h2
  have ri : ∀ (a : Act) u W v, RunsTo P oi (a.put oj.dst u) W v ↔ RunsTo P oi a W v := fun a u W v => by unfold RunsTo; rw [ei]
  have rj : ∀ (a : Act) u W v, RunsTo P oj (a.put oi.dst u) W v ↔ RunsTo P oj a W v := fun a u W v => by unfold RunsTo; rw [ej]
  have gi : ∀ (a : Act) u W T, Oper.goes P oi (a.put oj.dst u) W T ↔ Oper.goes P oi a W T := fun a u W T => by unfold Oper.goes; rw [ei]
  have gj : ∀ (a : Act) u W T, Oper.goes P oj (a.put oi.dst u) W T ↔ Oper.goes P oj a W T := fun a u W T => by unfold Oper.goes; rw [ej]
  unfold msStep at h ⊢
  simp only [wi, wj, ri, rj, gi, gj] at h ⊢
  by_cases hwi : Region.wanted oi (yielded ops a.tmps) = true
  · by_cases hwj : Region.wanted oj (yielded ops a.tmps) = true
    · simp only [hwi, hwj, if_true] at h ⊢
      cases hki : kd i <;> cases hkj : kd j <;> rw [hki, hkj] at hk <;> simp only [hki, hkj] at h ⊢
      case tail.tail => simp [swapS] at hk
      case tail.held => simp [swapS] at hk
      case tail.make => simp [swapS] at hk
      case held.tail => simp [swapS] at hk
      case make.tail => simp [swapS] at hk
      case make.make => simp [swapS] at hk
      case pure.pure =>
        obtain ⟨v, hv, u, hu, hK⟩ := h
        exact ⟨u, hu, v, hv, by rw [← pc]; exact hK⟩
      case pure.held =>
        obtain ⟨v, hv, hD, u, hu, hK⟩ := h
        exact ⟨hD, u, hu, v, hv, by rw [← pc]; exact hK⟩
      case pure.make =>
        obtain ⟨v, hv, hD, S, R, hM, hK⟩ := h
        exact ⟨hD, S, R, hM, fun u hu hn => ⟨v, hv, by rw [← pc]; exact hK u hu hn⟩⟩
      case pure.tail =>
        obtain ⟨v, hv, S, R, hg, hK⟩ := h
        exact ⟨S, R, hg, fun u hu hn => ⟨v, hv, by rw [← pc]; exact hK u hu hn⟩⟩
      case held.pure =>
        obtain ⟨hD, v, hv, u, hu, hK⟩ := h
        exact ⟨u, hu, hD, v, hv, by rw [← pc]; exact hK⟩
      case held.held =>
        obtain ⟨hD, v, hv, -, u, hu, hK⟩ := h
        exact ⟨hD, u, hu, hD, v, hv, by rw [← pc]; exact hK⟩
      case held.make =>
        obtain ⟨hD, v, hv, -, S, R, hM, hK⟩ := h
        exact ⟨hD, S, R, hM, fun u hu hn => ⟨fun W hW => hW.2, v, hv, by rw [← pc]; exact hK u hu hn⟩⟩
      case make.pure =>
        obtain ⟨hD, S, R, hM, hK⟩ := h
        obtain ⟨W, hW⟩ := hne
        obtain ⟨v0, W', ⟨hs0, hr0⟩, hg0⟩ := goes_some (hM W hW)
        obtain ⟨u, hu, -⟩ := hK v0 hs0 ⟨W', hr0, (hD W hW).trans hg0⟩
        refine ⟨u, hu, hD, S, R, hM, fun v hv hn => ?_⟩
        obtain ⟨u', hu', hK'⟩ := hK v hv hn
        have : u' = u := runsTo_uniq (hu' W) (hu W)
        subst this
        rw [← pc]; exact hK'
      case make.held =>
        obtain ⟨hD, S, R, hM, hK⟩ := h
        obtain ⟨W, hW⟩ := hne
        obtain ⟨v0, W', ⟨hs0, hr0⟩, hg0⟩ := goes_some (hM W hW)
        obtain ⟨-, u, hu, -⟩ := hK v0 hs0 ⟨W', hr0, (hD W hW).trans hg0⟩
        refine ⟨hD, u, hu, hD, S, R, hM, fun v hv hn => ?_⟩
        obtain ⟨-, u', hu', hK'⟩ := hK v hv hn
        have : u' = u := runsTo_uniq (hu' w (ComeX.refl X w)) (hu w (ComeX.refl X w))
        subst this
        rw [← pc]; exact hK'
      case tail.pure =>
        obtain ⟨S, R, hg, hK⟩ := h
        obtain ⟨W, hW⟩ := hne
        obtain ⟨v0, W', hs0, hr0⟩ := goes_some (hg W hW)
        obtain ⟨u, hu, -⟩ := hK v0 hs0 ⟨W', hr0⟩
        refine ⟨u, hu, S, R, hg, fun v hv hn => ?_⟩
        obtain ⟨u', hu', hK'⟩ := hK v hv hn
        have : u' = u := runsTo_uniq (hu' W) (hu W)
        subst this
        rw [← pc]; exact hK'
    · simp only [hwi, hwj, if_true, Bool.false_eq_true, if_false] at h ⊢
      cases hki : kd i <;> simp only [hki] at h ⊢
      · obtain ⟨v, hv, hK⟩ := h; exact ⟨v, hv, by rw [← pc]; exact hK⟩
      · obtain ⟨hD, v, hv, hK⟩ := h; exact ⟨hD, v, hv, by rw [← pc]; exact hK⟩
      · obtain ⟨hD, S, R, hM, hK⟩ := h; exact ⟨hD, S, R, hM, fun v hv hn => by rw [← pc]; exact hK v hv hn⟩
      · obtain ⟨S, R, hg, hK⟩ := h; exact ⟨S, R, hg, fun v hv hn => by rw [← pc]; exact hK v hv hn⟩
  · by_cases hwj : Region.wanted oj (yielded ops a.tmps) = true
    · simp only [hwi, hwj, if_true, Bool.false_eq_true, if_false] at h ⊢
      cases hkj : kd j <;> simp only [hkj] at h ⊢
      · obtain ⟨v, hv, hK⟩ := h; exact ⟨v, hv, by rw [← pc]; exact hK⟩
      · obtain ⟨hD, v, hv, hK⟩ := h; exact ⟨hD, v, hv, by rw [← pc]; exact hK⟩
      · obtain ⟨hD, S, R, hM, hK⟩ := h; exact ⟨hD, S, R, hM, fun v hv hn => by rw [← pc]; exact hK v hv hn⟩
      · obtain ⟨S, R, hg, hK⟩ := h; exact ⟨S, R, hg, fun v hv hn => by rw [← pc]; exact hK v hv hn⟩
    · simp only [hwi, hwj, Bool.false_eq_true, if_false] at h ⊢
      rw [← pc]; exact h
def wpAnyS (P : Program) (md : Region.Mode) (ops : Array Oper) (X : Nat → Prop) (w : World) (kd : Nat → Kd) (E : Act → (World → Prop) → Prop) : Nat → Array Bool → Act → (World → Prop) → Prop
  | 0, listed, a, D => Region.ready md ops listed = [] ∧ E a D
  | f + 1, listed, a, D => (Region.ready md ops listed = [] → E a D) ∧ ∀ i ∈ Region.ready md ops listed, msOp P ops X w kd i (wpAnyS P md ops X w kd E f (listed.setIfInBounds i true)) a D
theorem wpOp_of_msOp {i : Nat} {a : Act} {D : World → Prop} {K : Act → (World → Prop) → Prop} {K' : Act → World → Prop} {Q' : Exit → Act → World → Prop} {W : World} (hW : D W)
    (h : ∀ a D W', D W' → K a D → K' a W') (hh : msOp P ops X w kd i K a D) : wpOp P ops Q' i K' a W := by
  unfold msOp at hh
  unfold wpOp
  split
  · rename_i ho; simp only [ho] at hh; exact h _ _ _ hW hh
  · rename_i o ho
    simp only [ho] at hh
    unfold msStep at hh
    split
    · rename_i hw
      rw [if_pos hw] at hh
      left
      cases hk : kd i <;> rw [hk] at hh <;> simp only at hh
      · obtain ⟨v, h1, h2⟩ := hh
        have h1 := h1 W
        unfold RunsTo at h1
        unfold Oper.wp
        rw [h1]
        exact h _ _ _ hW h2
      · obtain ⟨hD, v, h1, h2⟩ := hh
        have h1 := h1 W (hD W hW)
        unfold RunsTo at h1
        unfold Oper.wp
        rw [h1]
        exact h _ _ _ hW h2
      · obtain ⟨hD, S, R, hM, hK⟩ := hh
        exact Oper.wp_of_goes (hM W hW) fun v W' ⟨⟨hs, hr⟩, hg⟩ => h _ _ W' ⟨hr, (hD W hW).trans hg⟩ (hK v hs ⟨W', hr, (hD W hW).trans hg⟩)
      · obtain ⟨S, R, hg, hK⟩ := hh
        exact Oper.wp_of_goes (hg W hW) fun v W' ⟨hs, hr⟩ => h _ _ W' hr (hK v hs ⟨W', hr⟩)
    · rename_i hw; rw [if_neg hw] at hh; exact h _ _ _ hW hh
theorem wpAny_of_S {Q : Exit → Act → World → Prop} : ∀ (f : Nat) (listed : Array Bool) (a : Act) (D : World → Prop) (W : World), D W → wpAnyS P md ops X w kd (fun a D => ∀ W, D W → Q .normal a W) f listed a D → wpAny P md ops Q f listed a W
  | 0, _, _, _, _, hW, h => ⟨h.1, h.2 _ hW⟩
  | f + 1, _, _, _, _, hW, h => ⟨fun h0 => h.1 h0 _ hW, fun i hi => wpOp_of_msOp hW (fun a' D' W' hW' h' => wpAny_of_S f _ a' D' W' hW' h') (h.2 i hi)⟩
theorem wpAnyS_first {E : Act → (World → Prop) → Prop} {i : Nat} {oi : Oper} (hi : ops[i]? = some oi) (hsel : ∀ (j : Nat) (o : Oper) cs b, ops[j]? = some o → o.op ≠ .select cs b)
    (hsw : ∀ j, j < ops.size → j ≠ i → swapS (kd i) (kd j) = false → waitsT md ops 3 j i = true ∨ waitsT md ops 3 i j = true) :
    ∀ (f : Nat) (listed : Array Bool) (a : Act) (D : World → Prop), Ne D → Closed md ops listed →
      (∀ j oj, ops[j]? = some oj → j ≠ i → listed.getD j true = false → (∀ e ∈ oj.after, Region.binds md e = true → e.on ≠ i) → oi.apart ops oj = true) →
      i ∈ Region.ready md ops listed → msOp P ops X w kd i (wpAnyS P md ops X w kd E f (listed.setIfInBounds i true)) a D → wpAnyS P md ops X w kd E (f + 1) listed a D := by
  intro f
  induction f with
  | zero =>
    intro listed a D hne _ _ hr H
    refine ⟨fun h => (by rw [h] at hr; cases hr), fun j hj => ?_⟩
    by_cases hji : j = i
    · subst hji; exact H
    · unfold msOp at H
      rw [hi] at H
      obtain ⟨a', D', -, h0, -⟩ := msStep_some hne H
      have := ready_mono hj hji
      rw [h0] at this; cases this
  | succ f ih =>
    intro listed a D hne hcl hfree hr H
    refine ⟨fun h => (by rw [h] at hr; cases hr), fun j hj => ?_⟩
    by_cases hji : j = i
    · subst hji; exact H
    · obtain ⟨hjun, oj, hoj, hall⟩ := mem_ready.1 hj
      have hun := (mem_ready.1 hr).1
      have hnot : ∀ e ∈ oj.after, Region.binds md e = true → e.on ≠ i := fun e he hb heq => by
        have h1 := hall e he hb
        rw [heq, getD_both hun] at h1
        cases h1
      have hap := hfree j oj hoj hji hjun hnot
      have hswap : swapS (kd i) (kd j) = true := by
        cases hs : swapS (kd i) (kd j) with
        | true => rfl
        | false =>
          rcases hsw j (Array.getElem?_eq_some_iff.1 hoj).1 hji hs with h1 | h1
          · have h2 := waitsT_ready hcl 3 j i hj h1
            rw [getD_both hun] at h2; cases h2
          · have h2 := waitsT_ready hcl 3 i j hr h1
            rw [getD_both hjun] at h2; cases h2
      have hfree' : ∀ k ok, ops[k]? = some ok → k ≠ i → (listed.setIfInBounds j true).getD k true = false →
          (∀ e ∈ ok.after, Region.binds md e = true → e.on ≠ i) → oi.apart ops ok = true := fun k ok hk hki hun' hno => by
        refine hfree k ok hk hki ?_ hno
        by_cases hjk : j = k
        · subst hjk; exact hjun
        · rw [getD_set_ne true hjk] at hun'; exact hun'
      have hri := ready_mono hr (Ne.symm hji)
      unfold msOp at H
      rw [hi] at H
      have H2 : msStep P ops X w kd oi i (fun a1 D1 => msStep P ops X w kd oj j (wpAnyS P md ops X w kd E f ((listed.setIfInBounds i true).setIfInBounds j true)) a1 D1) a D :=
        msStep_mono hne (fun a1 D1 _ hK => by
          have := hK.2 j (ready_mono hj hji)
          unfold msOp at this
          rw [hoj] at this
          exact this) H
      have H3 := msStep_swap hap (fun cs b => hsel i oi cs b hi) (fun cs b => hsel j oj cs b hoj) hswap hne H2
      unfold msOp
      rw [hoj]
      refine msStep_mono hne (fun a2 D2 hne2 h3 => ih (listed.setIfInBounds j true) a2 D2 hne2 (hcl.set hj) hfree' hri ?_) H3
      unfold msOp
      rw [hi, Array.setIfInBounds_comm _ _ hji]
      exact h3
def wpMixS (P : Program) (ops : Array Oper) (X : Nat → Prop) (w : World) (kd : Nat → Kd) (E : Act → (World → Prop) → Prop) : List Oper → Nat → Act → (World → Prop) → Prop
  | [], _, a, D => E a D
  | o :: rest, k, a, D => msStep P ops X w kd o k (wpMixS P ops X w kd E rest (k + 1)) a D
def mixSB (md : Region.Mode) (ops : Array Oper) (kd : Nat → Kd) : Bool :=
  Region.lexB md ops && (List.range ops.size).all fun i => (List.range ops.size).all fun j => decide (j = i) || (swapS (kd i) (kd j) || (waitsT md ops 3 j i || waitsT md ops 3 i j))
theorem wpAnyS_lex {E : Act → (World → Prop) → Prop} (hs : Region.noSelect ops = true) (hsw : ∀ i j, i < ops.size → j < ops.size → j ≠ i → swapS (kd i) (kd j) = false → waitsT md ops 3 j i = true ∨ waitsT md ops 3 i j = true) :
    ∀ (l : List Oper) (k : Nat) (listed : Array Bool) (a : Act) (D : World → Prop), Ne D → Closed md ops listed → (∀ j, l[j]? = ops[k + j]?) →
    Region.lexFrom md ops l.length k listed = true → wpMixS P ops X w kd E l k a D → wpAnyS P md ops X w kd E l.length listed a D
  | [], _, _, _, _, _, _, _, hB, h => ⟨by simpa [Region.lexFrom] using hB, h⟩
  | o :: l, k, listed, a, D, hne, hcl, hl, hB, h => by
    have h0 : ops[k]? = some o := by simpa using (hl 0).symm
    simp only [List.length_cons, Region.lexFrom, Bool.and_eq_true] at hB
    obtain ⟨⟨hr, hf⟩, hB'⟩ := hB
    have hk : k < ops.size := (Array.getElem?_eq_some_iff.1 h0).1
    refine wpAnyS_first h0 (Region.noSelect_spec hs) (fun j hjl hj hsw' => hsw k j hk hjl hj hsw') l.length listed a D hne hcl (Region.free_spec h0 hf) (by simpa using hr) ?_
    unfold msOp
    rw [h0]
    exact msStep_mono hne (fun a' D' hne' h' => wpAnyS_lex hs hsw l (k + 1) _ a' D' hne' (hcl.set (by simpa using hr)) (fun j => by have := hl (j + 1); simpa [Nat.add_assoc, Nat.add_comm 1 j] using this) hB' h') h
/-- **The law**, before it is a region. -/
theorem any_mixedS {Q : Exit → Act → World → Prop} {a : Act} {w : World} {l : List Oper} (X : Nat → Prop) (kds : List Kd) (hB : mixSB .any l.toArray (fun i => kds.getD i .pure) = true)
    (h : wpMixS P l.toArray X w (fun i => kds.getD i .pure) (fun a D => ∀ W, D W → Q .normal a W) l 0 a (Grown w)) : wpAny P .any l.toArray Q l.toArray.size (Array.replicate l.toArray.size false) a { w with drawn := w.drawn + 1 } := by
  simp only [mixSB, Bool.and_eq_true] at hB
  obtain ⟨hlex, hall⟩ := hB
  simp only [Region.lexB, Bool.and_eq_true] at hlex
  have hg0 : Grown w { w with drawn := w.drawn + 1 } := (Below.refl _ _).drew
  refine (wpAny_of_S (X := X) (w := w) (kd := fun i => kds.getD i .pure) _ _ _ (Grown w) _ hg0 ?_)
  have := wpAnyS_lex (P := P) (md := .any) (X := X) (w := w) (kd := fun i => kds.getD i .pure) (E := fun a D => ∀ W, D W → Q .normal a W) hlex.1 (fun i j hi hjl hj hs => by
    have h1 := List.all_eq_true.1 (List.all_eq_true.1 hall i (List.mem_range.2 hi)) j (List.mem_range.2 hjl)
    simp only [Bool.or_eq_true, decide_eq_true_eq] at h1
    rcases h1 with h1 | h1 | h1 | h1
    · exact absurd h1 hj
    · rw [hs] at h1; cases h1
    · exact .inl h1
    · exact .inr h1) l 0 (Array.replicate l.toArray.size false) a (Grown w) ⟨w, Grown.refl w⟩ (Closed.none _ _ _) (by simp) (by simpa using hlex.2) h
  simpa using this
theorem wp_region_mixedS {id : Nat} {Q : Exit → Act → World → Prop} {a : Act} {w : World} {l : List Oper} (X : Nat → Prop) (kds : List Kd) (hm : P.follows .mixedOrders = true) (hB : mixSB .any l.toArray (fun i => kds.getD i .pure) = true)
    (h : wpMixS P l.toArray X w (fun i => kds.getD i .pure) (fun a D => ∀ W, D W → Q .normal a W) l 0 a (Grown w)) : (Code.region id l.toArray true).wp P Q a w :=
  wp_region_any hm (any_mixedS X kds hB h)
/-! ### the walk's steps -/
structure ExtX (X : Nat → Prop) (w : World) where
  world : World
  come : ComeX X w world
instance ExtX.some (X : Nat → Prop) (w : World) : Nonempty (ExtX X w) := ⟨⟨w, ComeX.refl X w⟩⟩
theorem ExtX.cell (x : ExtX X w) (b o : Nat) (hb : b < w.heap.size) (hx : ¬ X b) : x.world.cell? ⟨b, o, none⟩ = w.cell? ⟨b, o, none⟩ := x.come.cell hb hx
attribute [go_sem] ExtX.cell
section
variable {E : Act → (World → Prop) → Prop} {a : Act} {o : Oper} {rest : List Oper} {k : Nat} {D : World → Prop}
theorem mixS_skip (hw : Region.wanted o (yielded ops a.tmps) = false) (h : wpMixS P ops X w kd E rest (k + 1) (a.put o.dst undef) D) : wpMixS P ops X w kd E (o :: rest) k a D := by
  unfold wpMixS msStep
  rw [if_neg (by rw [hw]; decide)]
  exact h
theorem mixS_pure (hw : Region.wanted o (yielded ops a.tmps) = true) (hk : kd k = .pure) (hp : valOp o.op = true)
    (h : ∀ K : Act → Prop, (∀ a, wpMixS P ops X w kd E rest (k + 1) a D → K a) → o.quiet P a (fun _ => True) K) : wpMixS P ops X w kd E (o :: rest) k a D := by
  unfold wpMixS msStep
  rw [if_pos hw, hk]
  obtain ⟨v, h1, h2⟩ := h _ fun _ h => h
  exact ⟨v, fun W => runs_of_quiet hp (h1 W trivial), h2⟩
theorem mixS_held (hw : Region.wanted o (yielded ops a.tmps) = true) (hk : kd k = .held) (hp : valOp o.op = true) (hD : ∀ W, D W → ComeX X w W)
    (h : ∀ K : Act → Prop, (∀ a, wpMixS P ops X w kd E rest (k + 1) a D → K a) → o.quiet P a (fun w' => ∃ x : ExtX X w, w' = x.world) K) : wpMixS P ops X w kd E (o :: rest) k a D := by
  unfold wpMixS msStep
  rw [if_pos hw, hk]
  obtain ⟨v, h1, h2⟩ := h _ fun _ h => h
  exact ⟨hD, v, fun W hW => runs_of_quiet hp (h1 W ⟨⟨W, hW⟩, rfl⟩), h2⟩
theorem mixS_load (hw : Region.wanted o (yielded ops a.tmps) = true) (hk : kd k = .held) (hD : ∀ W, D W → ComeX X w W) (ty : TypeId) (x : Operand) (ho : o.op = .load ty x)
    (b i : Nat) (hx : a.eval x = .pointer (some ⟨b, i, none⟩)) (cs : List Value) (d : TypeDesc) (hb : b < w.heap.size) (hx2 : ¬ X b) (hc : w.rangeAt b i cs)
    (hu : P.underlying ty = some d) (hd : d.isRow = true) (hi : (P.info? ty).map (·.size) = some cs.length)
    (h : wpMixS P ops X w kd E rest (k + 1) (a.put o.dst (.agg cs.toArray)) D) : wpMixS P ops X w kd E (o :: rest) k a D := by
  unfold wpMixS msStep
  rw [if_pos hw, hk]
  refine ⟨hD, _, fun W hW => ?_, h⟩
  have hc' : W.rangeAt b i cs := fun j v hv => (hW.cell hb hx2).trans (hc j v hv)
  unfold RunsTo execOp
  simp only [ho, hx, Instr.loadAt, Instr.sureAddr, Sem.run_bind, Sem.run_pure, Result.andThen_ok, run_loadVar_mid W b i ty cs d hc' hu hd hi]
theorem mixS_act (hw : Region.wanted o (yielded ops a.tmps) = true) (hk : kd k = .make) (hD : ∀ W, D W → ComeX X w W) (S : Value → Prop) (R : Value → World → Prop) (hM : ∀ W, D W → Oper.goes P o a W (fun u W' => (S u ∧ R u W') ∧ ComeX X W W'))
    (h : ∀ v, S v → wpMixS P ops X w kd E rest (k + 1) (a.put o.dst v) (fun W => R v W ∧ ComeX X w W)) : wpMixS P ops X w kd E (o :: rest) k a D := by
  unfold wpMixS msStep
  rw [if_pos hw, hk]
  exact ⟨hD, S, R, hM, fun v hv _ => h v hv⟩
/-- A last operation that writes. -/
theorem mixS_tail (hw : Region.wanted o (yielded ops a.tmps) = true) (hk : kd k = .tail) (T : World → World) (hT : ∀ W, D W → (execOp a.eval o).run P W = .ok .skip (T W))
    (h : wpMixS P ops X w kd E rest (k + 1) (a.put o.dst undef) (fun W' => ∃ W, D W ∧ W' = T W)) : wpMixS P ops X w kd E (o :: rest) k a D := by
  unfold wpMixS msStep
  rw [if_pos hw, hk]
  refine ⟨fun v => v = undef, fun _ W' => ∃ W, D W ∧ W' = T W, fun W hW => ?_, fun v hv _ => by subst hv; exact h⟩
  unfold Oper.goes
  rw [hT W hW]
  exact ⟨rfl, W, hW, rfl⟩
theorem mixS_store (hw : Region.wanted o (yielded ops a.tmps) = true) (hk : kd k = .tail) (ty : TypeId) (x y : Operand) (ho : o.op = .store ty x y)
    (b i : Nat) (cs : Array Value) (hx : a.eval x = .pointer (some ⟨b, i, none⟩)) (hy : a.eval y = .agg cs) (ht : ∀ W, D W → W.there b i cs.size) (hi : (P.info? ty).map (·.size) = some cs.size) (h1 : cs.all (·.oneCell') = true)
    (h : wpMixS P ops X w kd E rest (k + 1) (a.put o.dst undef) (fun W' => ∃ W, D W ∧ W' = W.setCells b i cs.toList)) : wpMixS P ops X w kd E (o :: rest) k a D :=
  mixS_tail hw hk (fun W => W.setCells b i cs.toList) (fun W hW => by
    unfold execOp
    simp only [ho, hx, hy, Instr.storeAt, Instr.sureAddr, Sem.run_bind, Sem.run_pure, Result.andThen_ok, run_storeVar_mid W b i ty cs (ht W hW) hi h1]) h
theorem mixS_nil (h : E a D) : wpMixS P ops X w kd E [] k a D := h
end
end
end Go.Proofs.YtibeihcpehikoaaGreat

namespace Go.Proofs.YtibeihcpehikoaaGreat
open Go.RowKit Go.Shelf
attribute [local go_sem] Oper.semAt_some
set_option maxRecDepth 100000
set_option linter.unusedSimpArgs false
section
variable {P : Program} {a : Act} {o : Oper}
theorem goes_mono {W : World} {T T' : Value → World → Prop} (h : Oper.goes P o a W T) (ht : ∀ v w', T v w' → T' v w') : Oper.goes P o a W T' := by
  unfold Oper.goes at *
  generalize (execOp a.eval o).run P W = r at *
  cases r with
  | ok n w' =>
    cases n <;> simp only [Oper.goesUpon] at h ⊢
    case value u => exact ht _ _ h
    case skip => exact ht _ _ h
    case enter f args => exact h.mono fun e w'' ⟨v, he, hh⟩ => ⟨v, he, ht _ _ hh⟩
  | halt x w' => simp only [Oper.goesUpon] at h
/-- A slice put into a variable. -/
theorem run_storeSl (w : World) (b i : Nat) (ty : TypeId) (p : Option Addr) (l c : Nat) (ht : w.there b i 1) (hi : (P.info? ty).map (·.size) = some 1) : (storeVar ty ⟨b, i, none⟩ (.slice p l c)).run P w = .ok () (w.setCell ⟨b, i, none⟩ (.slice p l c)) := by
  obtain ⟨h1, h2⟩ := ht 0 (by decide)
  rw [Nat.add_zero] at h1 h2
  cases hq : P.info? ty with
  | none => simp [hq] at hi
  | some q =>
    have hs : q.size = 1 := by simpa [hq] using hi
    have := run_storeCells_cells (P := P) b i [.slice p l c] 0 w (fun j hj => by obtain rfl : j = 0 := by simpa using hj
                                                                                 simpa using h1) (fun j hj => by obtain rfl : j = 0 := by simpa using hj
                                                                                                                 simpa using h2) (fun v hv => by obtain rfl := List.mem_singleton.1 hv; rfl)
    simp only [Nat.add_zero] at this
    simp [storeVar, sizeOf, typeInfo, hq, Value.cells, hs, this, World.setCells]
/-- A new row, written out. -/
theorem goes_bs {W : World} (t e : TypeId) (len : Nat) (parts : Array (Nat × Operand)) (ho : o.op = .buildSlice t len parts) (cells : Array Value) (ie : TypeInfo) (z : Value)
    (hu : P.underlying t = some (.slice e)) (hie : P.info? e = some ie) (hz : ie.zero = some z) (hsmall : ¬ len * ie.size > 2 ^ 24) (hpos : ¬ len * ie.size = 0)
    (hf : Instr.fill (fun i => some (i * ie.size, ie.size)) ((Array.range (len * ie.size)).map (z.cells[· % z.cells.size]!)) (parts.map fun (i, x) => (i, a.eval x)).toList = some cells) :
    Oper.goes P o a W (fun v W' => v = .slice (some ⟨W.heap.size, 0, none⟩) len len ∧ W' = W.alloc (.cells cells e)) := by
  unfold Oper.goes execOp
  simp only [ho, Sem.run_bind, run_buildSlice W t e len _ cells ie z hu hie hz hsmall hpos hf, Result.andThen_ok]
  exact ⟨rfl, rfl⟩
/-- An append, wherever what is added lies. -/
theorem goes_app {W : World} (s x : Operand) (t : TypeId) (ho : o.op = .call { callee := .builtin .append, args := #[s, x], argTypes := #[t, t] })
    (base : Nat) (e : TypeId) (i : TypeInfo) (z : Value) (size bytes : Nat) (ht : P.underlying t = some (.slice e)) (hi : P.info? e = some i) (hz : i.zero = some z)
    (hsize : i.size = size) (hby : i.bytes = bytes) (hzs : z.cells.size = size) (hsz : 0 < size)
    (v : Value) (n : Nat) (xs : List Value) (hs : a.eval s = v) (hown : W.ownsRow base e size v n xs)
    (B : Nat) (A : Option Addr) (m c : Nat) (news : List Value) (hx : a.eval x = .slice A m c) (hl : news.length = m * size) (hr : Rd W B A news) (hA : A = none → m = 0) (h1 : ∀ u ∈ news, u.oneCell' = true)
    (h63 : n + m ≤ maxLen) (hbytes : (n + m) * bytes ≤ 140737488355328) (hbase : base ≤ W.heap.size) :
    Oper.goes P o a W (fun v' W' => W'.ownsRow base e size v' (n + m) (xs ++ news) ∧ W.grownBy W' v.ownBlock) := by
  obtain ⟨v', w', hrun, h2, h3, -⟩ := append_rd_run (P := P) W base t o.type e i z size bytes ht hi hz hsize hby hzs hsz v n xs hown B A m c news hl hr hA h1 h63 hbytes hbase
  have hr : (execOp a.eval o).run P W = .ok (.value v') w' := by
    unfold execOp
    simp only [ho, resolve, invoke, builtin, Sem.run_bind, Sem.run_pure, Result.andThen_ok, List.map_toArray, List.map_cons, List.map_nil, hs, hx, hrun]
  unfold Oper.goes
  rw [hr]
  exact ⟨h2, h3⟩
end
theorem goes_app_ev {W : World} {o : Oper} {a : Act} (s x : Operand) (ho : o.op = .call { callee := .builtin .append, args := #[s, x], argTypes := #[52, 52] }) (base : Nat) (u : Value) (L M : List Ev) (hown : OwnL W base 62 9 u Ev.cells L) (hs : a.eval s = u)
    (B : Nat) (A : Option Addr) (m c : Nat) (hm : m = M.length) (hx : a.eval x = .slice A m c) (hr : Rd W B A (M.flatMap Ev.cells)) (hn : L.length + M.length ≤ 1000000000) (hbase : base ≤ W.heap.size) :
    Oper.goes Tryz.prog o a W (fun v' W' => OwnL W' base 62 9 v' Ev.cells (L ++ M) ∧ W.grownBy W' u.ownBlock) := by
  subst hm
  obtain ⟨i0, hi0, hz0, hz1, hz2⟩ := info_parts Tryz.infoEv
  refine goes_mono (goes_app s x 52 ho base 62 i0 _ 9 72 Tryz.underlying52 hi0 hz0 hz1 hz2 rfl (by decide) u L.length (L.flatMap Ev.cells) hs hown B A M.length c (M.flatMap Ev.cells) hx (length_flatMap_const _ _ Ev.cells_length _) hr (rd_none Ev.cells_length (by decide) hr) (evs_oneCell M) (by unfold maxLen; omega) (by omega) hbase) ?_
  rintro v' W' ⟨h2, h3⟩
  exact ⟨OwnL.app rfl h2, h3⟩
theorem infoPb : (Tryz.prog.info? 118).map (fun i => (i.zero, i.size, i.bytes)) = some (some (.agg #[.int .u8 0, .int .u8 0]), 2, 2) := by kernel_rfl
theorem pbs_oneCell (l : List (Nat × Nat)) : ∀ u ∈ l.flatMap pbCells, u.oneCell' = true := fun u hu => by
  obtain ⟨q, -, hq⟩ := List.mem_flatMap.1 hu
  simp only [pbCells, List.mem_cons, List.not_mem_nil, or_false] at hq
  rcases hq with rfl | rfl <;> rfl
/-- The state behind the rounds that have come. -/
def lastM (S : Nat → Int) : List Rnd → (Nat → Int)
  | [] => S
  | r :: l => lastM r.T l
theorem lastM_snoc : ∀ (pre : List Rnd) (S : Nat → Int) (r : Rnd), lastM S (pre ++ [r]) = r.T
  | [], _, _ => rfl
  | x :: l, _, r => lastM_snoc l x.T r
section
variable {α : Type} {A A' W : World} {m : Nat} {E : TypeId} {k : Nat} {v : Value} {f : α → List Value} {l : List α}
theorem OwnL.isRow (h : OwnL A m E k v f l) {g : Nat} (hg : v.ownBlock = some g) : m ≤ g ∧ ∃ cur fz, A.heap[g]? = some (.cells cur E fz) := by
  rcases h.2 with ⟨rfl, _⟩ | ⟨g1, cap, cur, rfl, hb, h1, _⟩
  · simp [Value.ownBlock] at hg
  · simp only [Value.ownBlock, Option.some.injEq] at hg
    subst hg
    exact ⟨hb, _, _, h1⟩
/-- What turns is no cells, or lies below the row. -/
theorem OwnL.away {B : Nat} {row : Option Nat} (h : OwnL A m E k v f l) (hg : A.grownBy A' row) (hr : ∀ r, row = some r → B ≤ r ∧ ((∃ o : Obj, A.heap[r]? = some o ∧ o.isCells = false) ∨ (r < m ∧ ∃ o : Obj, A.heap[r]? = some o ∧ o.isCells = true))) : OwnL A' m E k v f l := by
  refine h.kept hg ?_
  cases hv : v.ownBlock with
  | none => exact .inl rfl
  | some g =>
    refine .inr fun e => ?_
    obtain ⟨h1, cur, fz, h2⟩ := h.isRow hv
    rcases (hr g e.symm).2 with ⟨o, ho, hc⟩ | ⟨hlt, -⟩
    · rw [h2] at ho; cases ho; cases hc
    · omega
theorem OwnL.putObj (h : OwnL A m E k v f l) {i : Nat} {o o' : Obj} (ho : A.heap[i]? = some o) (hc : o.isCells = false) : OwnL (A.putObj i o') m E k v f l := by
  refine h.kept (grownBy_putObj' A i o') ?_
  cases hv : v.ownBlock with
  | none => exact .inl rfl
  | some g =>
    refine .inr fun e => ?_
    obtain ⟨h1, cur, fz, h2⟩ := h.isRow hv
    cases e
    rw [h2] at ho; cases ho; cases hc
theorem OwnL.farC (h : OwnL A m E k v f l) {b : Nat} (hb : v.ownBlock ≠ some b) (i : Nat) (vs : List Value) : OwnL (A.setCells b i vs) m E k v f l := h.kept (grownBy_setCells A b i vs) (.inr hb)
theorem OwnL.ne_low (h : OwnL A m E k v f l) {b : Nat} (hb : b < m) : v.ownBlock ≠ some b := fun e => by have := (h.isRow e).1; omega
theorem Blk.putObj {g : Nat} {t : TypeId} {cs : Array Value} (h : Blk A g t cs) {i : Nat} {o o' : Obj} (ho : A.heap[i]? = some o) (hc : o.isCells = false) : Blk (A.putObj i o') g t cs := by
  have hne : g ≠ i := fun e => by
    rw [← e] at ho
    have h' : A.heap[g]? = some (.cells cs t (0, 0)) := h
    rw [h'] at ho; cases ho; cases hc
  exact (World.putObj_heap_other hne).trans h
end
theorem KpX.trans {X : Nat → Prop} {A B C : World} (h : KpX X A B) (k : KpX X B C) : KpX X A C := ⟨Nat.le_trans h.1 k.1, fun r t cs hr h1 h2 hx => k.2 r t cs (h.2 r t cs hr h1 h2 hx) h1 h2 hx⟩
theorem KpX.put {X : Nat → Prop} (W : World) (l : Nat) (o o' : Obj) (ho : W.heap[l]? = some o) (hc : o.isCells = false) : KpX X W (W.putObj l o') := ⟨(grownBy_putObj' W l o').size, fun _ _ _ hr _ _ _ => hr.putObj ho hc⟩
theorem KpX.of_grown {X : Nat → Prop} {A B : World} (h : Below A.heap.size A B) : KpX X A B := ⟨h.size, fun _ _ _ hr _ _ _ => hr.on h⟩
section
variable {P : Program} {ops : Array Oper} {X : Nat → Prop} {w : World} {kd : Nat → Kd} {E : Act → (World → Prop) → Prop} {a : Act} {o : Oper} {rest : List Oper} {k : Nat} {D : World → Prop}
theorem mixS_run (v : Value) (hw : Region.wanted o (yielded ops a.tmps) = true) (hk : kd k = .pure) (hr : ∀ W, RunsTo P o a W v) (h : wpMixS P ops X w kd E rest (k + 1) (a.put o.dst v) D) : wpMixS P ops X w kd E (o :: rest) k a D := by
  unfold wpMixS msStep
  rw [if_pos hw, hk]
  exact ⟨v, hr, h⟩
theorem runs_loadSl {W : World} (ty e : TypeId) (x : Operand) (ho : o.op = .load ty x) (b i : Nat) (hx : a.eval x = .pointer (some ⟨b, i, none⟩)) (hu : P.underlying ty = some (.slice e)) {v : Value} (hc : W.cell? ⟨b, i, none⟩ = some v) : RunsTo P o a W v := by
  unfold RunsTo execOp
  simp only [ho, hx, Instr.loadAt, Instr.sureAddr, Sem.run_bind, Sem.run_pure, Result.andThen_ok]
  simp [loadVar, isAgg, run_underlying hu, hc]
theorem mixS_hrun (v : Value) (hw : Region.wanted o (yielded ops a.tmps) = true) (hk : kd k = .held) (hD : ∀ W, D W → ComeX X w W) (hr : ∀ W, ComeX X w W → RunsTo P o a W v) (h : wpMixS P ops X w kd E rest (k + 1) (a.put o.dst v) D) : wpMixS P ops X w kd E (o :: rest) k a D := by
  unfold wpMixS msStep
  rw [if_pos hw, hk]
  exact ⟨hD, v, hr, h⟩
theorem mixS_storeSl (hw : Region.wanted o (yielded ops a.tmps) = true) (hk : kd k = .tail) (ty : TypeId) (x y : Operand) (ho : o.op = .store ty x y) (b i : Nat) (p : Option Addr) (l c : Nat) (hx : a.eval x = .pointer (some ⟨b, i, none⟩)) (hy : a.eval y = .slice p l c) (ht : ∀ W, D W → W.there b i 1) (hi : (P.info? ty).map (·.size) = some 1)
    (h : wpMixS P ops X w kd E rest (k + 1) (a.put o.dst undef) (fun W' => ∃ W, D W ∧ W' = W.setCell ⟨b, i, none⟩ (.slice p l c))) : wpMixS P ops X w kd E (o :: rest) k a D :=
  mixS_tail hw hk (fun W => W.setCell ⟨b, i, none⟩ (.slice p l c)) (fun W hW => by
    unfold execOp
    simp only [ho, hx, hy, Instr.storeAt, Instr.sureAddr, Sem.run_bind, Sem.run_pure, Result.andThen_ok, run_storeSl W b i ty p l c (ht W hW) hi]) h
theorem goes_store {W : World} (ty : TypeId) (x y : Operand) (ho : o.op = .store ty x y) (b i : Nat) (cs : Array Value) (hx : a.eval x = .pointer (some ⟨b, i, none⟩)) (hy : a.eval y = .agg cs) (ht : W.there b i cs.size) (hi : (P.info? ty).map (·.size) = some cs.size) (h1 : cs.all (·.oneCell') = true) {T : Value → World → Prop} (hT : T undef (W.setCells b i cs.toList)) : Oper.goes P o a W T := by
  unfold Oper.goes execOp
  simp only [ho, hx, hy, Instr.storeAt, Instr.sureAddr, Sem.run_bind, Sem.run_pure, Result.andThen_ok, run_storeVar_mid W b i ty cs ht hi h1]
  exact hT
theorem goes_runs {W : World} {v : Value} {T : Value → World → Prop} (h : RunsTo P o a W v) (ht : T v W) : Oper.goes P o a W T := by
  unfold Oper.goes
  unfold RunsTo at h
  rw [h]
  exact ht
end
theorem named_put2 {F : World → Prop} {W : World} {cs zs G : Array Value} {T1 T2 : TypeId} (hz : G.size = zs.size) (h : ∀ W2, Blk W2 W.heap.size T1 cs → Blk W2 (W.heap.size + 1) T2 G → Below W.heap.size W W2 → W2.heap.size = W.heap.size + 2 → F W2) : F (((W.alloc (.cells cs T1)).alloc (.cells zs T2)).setCells (W.heap.size + 1) 0 G.toList) := by
  have hs : (W.alloc (.cells cs T1)).heap.size = W.heap.size + 1 := World.size_alloc _ _
  have hn : Blk ((W.alloc (.cells cs T1)).alloc (.cells zs T2)) (W.heap.size + 1) T2 zs := by
    have := Blk.new (W.alloc (.cells cs T1)) T2 zs
    rwa [hs] at this
  have h2 := hn.whole G.toList (by rw [Array.length_toList, hz])
  rw [Array.toArray_toList] at h2
  exact h _ (((Blk.new W T1 cs).alloc _).farC (by omega) 0 _) h2 (bSetCells (bAlloc (bAlloc (Below.refl _ _) _) _) (by omega) 0 _) (by rw [setCells_size]; simp)
theorem there_new1 (w : World) (o : Obj) (cs : Array Value) (T : TypeId) {n : Nat} (h : cs.size = n) : ((w.alloc o).alloc (.cells cs T)).there (w.heap.size + 1) 0 n := by
  have := there_new (w.alloc o) cs T h
  rwa [World.size_alloc] at this
theorem rounds_core {a b : Int} {S : Nat → Int} {N : Nat} {xs : List Rnd} (h : xs.map Rnd.core = preM a b S N) : lastM S xs = stM a b S N ∧ (xs.map fun r => (r.x, r.y)) = (preM a b S N).map (·.1) ∧ (xs.flatMap (·.L)) = (preM a b S N).flatMap (·.2.2) := by
  refine ⟨?_, ?_, ?_⟩
  · cases N with
    | zero =>
      have : xs = [] := by
        have := congrArg List.length h
        rw [List.length_map, preM_length] at this
        exact List.eq_nil_of_length_eq_zero this
      rw [this]; rfl
    | succ k =>
      rw [preM_succ] at h
      obtain ⟨ys, zs, rfl, h1, h2⟩ := List.map_eq_append_iff.1 h
      obtain ⟨r, rfl, hr⟩ : ∃ r, zs = [r] ∧ r.core = rdM a b (stM a b S k) := by
        cases zs with
        | nil => simp at h2
        | cons z t =>
          simp only [List.map_cons, List.cons.injEq, List.map_eq_nil_iff] at h2
          exact ⟨z, by rw [h2.2], h2.1⟩
      rw [lastM_snoc]
      show _ = (rdM a b (stM a b S k)).2.1
      rw [← hr]; rfl
  · rw [← h, List.map_map]; rfl
  · rw [← h, List.flatMap_map]; rfl
end Go.Proofs.YtibeihcpehikoaaGreat
