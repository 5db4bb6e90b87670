/-
  The walks beneath: RgSt, Held, Bot4, GameF, MixF, Same, Run.
-/
import Derived.RangeFuncNested
import Derived.RangeFuncBound
import Derived.RangeFuncCalls
import Derived.RangeFuncLeaves
import Derived.OwnWalkIn
import Derived.Deep.RegionHeld3
import Derived.Laws.Tables
import Derived.Deep.DeepCutAuto
import Derived.Outline
import Derived.Deep.Cut
import Derived.Maps.RangeWalk
import Derived.Maps.AppendAt
import Derived.Test.YtibeihcpehikoaaGreatNr1
import Derived.Test.YtibeihcpehikoaaGreatNr30
import Derived.Test.YtibeihcpehikoaaGreatNr36
import Derived.Test.YtibeihcpehikoaaGreatNr5
import Derived.Test.YtibeihcpehikoaaGreatNr35
import Derived.Test.YtibeihcpehikoaaGreatNr37
import Derived.Test.YtibeihcpehikoaaGreatNr32
namespace Go.Proofs.YtibeihcpehikoaaGreat
section
open Go.RowKit
section
variable {α : Type} {P : Program} {n : Nat}
/-- What an iterator may turn of its own: cells laid since the loop began and ahead of the first round (blocks B to m). -/
def TurnsOwn (B m : Nat) (A : World) (row : Option Nat) : Prop := ∀ r, row = some r → B ≤ r ∧ r < m ∧ ∃ o : Obj, A.heap[r]? = some o ∧ o.isCells = true
/-- The contract of an iterator that keeps state in cells: it yields what Yp allows, at most N times; what has come in the end is told by S. -/
def SeqSt (n : Nat) (P : Program) (gf : Nat) (lb : Array Value) (encs : α → Array Value) (Yp : Nat → List α → α → World → Prop) (Kp : World → World → Prop) (S : List α → Prop) (w0 : World) : Prop :=
  ∀ (l : Nat) (J : Nat → List α → World → Prop) (W : World), Below w0.heap.size w0 W →
    (∀ m pre A A' row, J m pre A → A.grownBy A' row → TurnsOwn W.heap.size m A row → J m pre A') →
    (∀ A, W.grownBy A none → J A.heap.size [] A) →
    (∀ m pre x A, W.heap.size ≤ m → J m pre A → Yp m pre x A → YieldAt Fence.wide (n - 1) P l (encs x) A fun e A' => e = .returned (.bool true) ∧ J m (pre ++ [x]) A' ∧ Kp A A') →
    CallsIn Fence.wide n P gf (#[.func (.yield l) #[] #[]] ++ lb) W fun e A => (∃ v, e = .returned v) ∧ ∃ m xs, W.heap.size ≤ m ∧ S xs ∧ J m xs A
/-- How a round's body is left: it goes on. -/
def goesOn (B : Nat) (Kp : World → World → Prop) (I : List α → World → Prop) (xs : List α) (W : World) : Exit → Act → World → Prop
  | .normal, _, W' => KeepsFrom B W W' ∧ Kp W W' ∧ I xs W'
  | _, _, _ => False
theorem wpIn_rangeFunc_st {g : Operand} {ps : Array Tmp} {assign body : Code} {Q : Exit → Act → World → Prop} {a : Act} {w : World} (h1 : 1 ≤ n) {gf : Nat} {lb : Array Value} (hg : a.eval g = .func (.func gf) #[] lb) (eg : ∀ args w, (callFunc gf args).run P w = .ok (.enter gf args) w)
    {encs : α → Array Value} {Yp : Nat → List α → α → World → Prop} {Kp : World → World → Prop} {S : List α → Prop} (hseq : SeqSt (n - 1) P gf lb encs Yp Kp S w) (hps : ∀ x, (encs x).size = ps.size)
    (hKt : ∀ {A B C : World}, Kp A B → Kp B C → Kp A C) (hKb : ∀ (W : World) (l : Nat) (o o' : Obj), w.heap.size ≤ l → W.heap[l]? = some o → o.isCells = false → Kp W (W.putObj l o'))
    (I : Nat → List α → World → Prop) (hI : ∀ m pre A A' row, I m pre A → A.grownBy A' row → (∀ r, row = some r → w.heap.size ≤ r ∧ ((∃ o : Obj, A.heap[r]? = some o ∧ o.isCells = false) ∨ (r < m ∧ ∃ o : Obj, A.heap[r]? = some o ∧ o.isCells = true))) → I m pre A')
    (h0 : ∀ A, w.grownBy A none → I A.heap.size [] A) (Ax : α → Act → World → Prop) (hAx : ∀ x a' A l o o', Ax x a' A → w.heap.size ≤ l → A.heap[l]? = some o → o.isCells = false → Ax x a' (A.putObj l o'))
    (hassign : ∀ (l m : Nat) (pre : List α) (x : α) (W : World) (K : Act → World → Prop), w.heap.size ≤ m → I m pre W → Yp m pre x W → (∀ a' W', KeepsFrom w.heap.size W W' → Kp W W' → I m pre W' → Yp m pre x W' → Ax x a' W' → K a' W') →
      assign.wpIn (Fence.wide.inRound l) (n - 1 - 1) P (Exit.then K (fun _ _ _ => False)) { tmps := (ps.zip (encs x)).foldl (fun t (p, v) => t.setIfInBounds p v) a.tmps, defers := [] } W)
    (hYp : ∀ m pre x A l o o', Yp m pre x A → w.heap.size ≤ l → A.heap[l]? = some o → o.isCells = false → Yp m pre x (A.putObj l o'))
    (hbody : ∀ (l m : Nat) (pre : List α) (x : α) (a' : Act) (W : World), w.heap.size ≤ m → I m pre W → Yp m pre x W → Ax x a' W → body.wpIn (Fence.wide.inRound l) (n - 1 - 1) P (goesOn w.heap.size Kp (I m) (pre ++ [x]) W) a' W)
    (hdone : ∀ (D m : Nat) (xs : List α) (W : World), w.heap.size ≤ D → S xs → I m xs W → W.heap[D]? = some (.deferred (some [])) → Q .normal { a with defers := { target := .collected D, args := #[] } :: a.defers } W) :
    (Code.rangeFunc g ps assign body).wpIn Fence.wide n P Q a w := by
  refine wpIn_rangeFunc fun fn _ => ?_
  obtain ⟨rc, hrc⟩ : ∃ rc : LoopState → Loop, rc = fun st => { state := st, pending := none, fn := fn, tmps := a.tmps, params := ps, assign := assign, body := body, defers := w.heap.size } := ⟨_, rfl⟩
  obtain ⟨V, hV⟩ : ∃ V, (w.alloc (.deferred (some []))).alloc (.loop (rc .ready)) = V := ⟨_, rfl⟩
  have hz : V.heap.size = w.heap.size + 2 := by rw [← hV]; simp
  have hgV : w.grownBy V none := by rw [← hV]; exact (World.grownBy_alloc w _ none).trans (World.grownBy_alloc _ _ none)
  have hbV : Below w.heap.size w V := by rw [← hV]; exact (((Below.refl _ w).alloc (Nat.le_refl _) _).alloc (by simp) _)
  have hl0 : V.heap[w.heap.size + 1]? = some (.loop (rc .ready)) := by
    rw [← hV]
    have := World.alloc_heap_new (w.alloc (.deferred (some []))) (.loop (rc .ready))
    rwa [World.size_alloc] at this
  have hd0 : V.heap[w.heap.size]? = some (.deferred (some [])) := by
    rw [← hV]
    exact (Below.heap_alloc _ _ _ (by simp)).trans (World.alloc_heap_new w _)
  refine ⟨w.heap.size + 1, [{ target := .collected w.heap.size, args := #[] }], V, { target := .fn (.func gf) lb, args := #[.func (.yield (w.heap.size + 1)) #[] #[]] }, V, gf, #[.func (.yield (w.heap.size + 1)) #[] #[]] ++ lb, V, ?_, ?_, fun _ _ => trivial, ?_, fun _ => h1, ?_⟩
  · rw [← hV, hrc]; exact run_enterLoop_outer _ _ _ _ _
  · simp only [resolve, hg]
    simp [go_sem]
  · simp [invoke, go_sem, eg]
  · refine (hseq (w.heap.size + 1) (fun m pre W => I m pre W ∧ W.heap[w.heap.size + 1]? = some (.loop (rc .ready)) ∧ W.heap[w.heap.size]? = some (.deferred (some []))) V hbV ?_ ?_ ?_).mono ?_
    · -- it abides growth and the iterator's own turns
      rintro m pre A A' row ⟨hi, hl, hd⟩ hgr hrow
      have hne : ∀ (k : Nat) (o : Obj), A.heap[k]? = some o → o.isCells = false → A'.heap[k]? = some o := fun k o hk ho => by
        rw [hgr.block k (Array.getElem?_eq_some_iff.1 hk).1 (fun e => by
          obtain ⟨-, -, o', ho', hc⟩ := hrow k e.symm
          rw [hk] at ho'; cases ho'; rw [ho] at hc; cases hc)]
        exact hk
      refine ⟨hI m pre A A' row hi hgr (fun r e => ?_), hne _ _ hl rfl, hne _ _ hd rfl⟩
      obtain ⟨q1, q2, q3⟩ := hrow r e
      exact ⟨by omega, .inr ⟨q2, q3⟩⟩
    · -- ahead of the first round
      intro A hA
      refine ⟨h0 A (hgV.trans hA), ?_, ?_⟩
      · rw [hA.block _ (by omega) (by simp)]; exact hl0
      · rw [hA.block _ (by omega) (by simp)]; exact hd0
    · -- one round
      rintro m pre x A hm ⟨hi, hl, hd⟩ hyp
      have hy := run_yield (P := P) (args := encs x) hl (by rw [hrc]; exact hps x)
      rw [hrc] at hy
      refine ⟨fn, _, assign, body, hy, roundIn_of_wpIn trivial (hassign _ m pre x A _ (by omega) hi hyp ?_)⟩
      intro a' B hkf hkp hib hyb hax
      have hlB := hkf.same _ _ (by omega) hl rfl
      have hdB := hkf.same _ _ (Nat.le_refl _) hd rfl
      have hltB : w.heap.size + 1 < B.heap.size := (Array.getElem?_eq_some_iff.1 hlB).1
      refine ⟨_, run_beginRound hlB (by rw [hrc]), ?_⟩
      have hput : ∀ (C : World) (o o' : Obj), C.heap[w.heap.size + 1]? = some o → o.isCells = false → ∀ m pre, I m pre C → I m pre (C.putObj (w.heap.size + 1) o') := fun C o o' hC ho m pre h =>
        hI m pre C _ _ h (grownBy_putObj' C (w.heap.size + 1) o') (fun r e => by cases e; exact ⟨by omega, .inl ⟨o, hC, ho⟩⟩)
      obtain ⟨C, hC⟩ : ∃ C, B.putObj (w.heap.size + 1) (.loop { rc .ready with state := .busy }) = C := ⟨_, rfl⟩
      have hlC : C.heap[w.heap.size + 1]? = some (.loop { rc .ready with state := .busy }) := by rw [← hC]; exact World.putObj_heap_same hltB
      have hdC : C.heap[w.heap.size]? = some (.deferred (some [])) := by rw [← hC]; exact (World.putObj_heap_other (by omega)).trans hdB
      have hKC : Kp B C := by rw [← hC]; exact hKb _ _ _ _ (by omega) hlB rfl
      have hiC : I m pre C := by rw [← hC]; exact hput B _ _ hlB rfl m pre hib
      have hyC : Yp m pre x C := by rw [← hC]; exact hYp _ _ _ _ _ _ _ hyb (by omega) hlB rfl
      have haC : Ax x a' C := by rw [← hC]; exact hAx _ _ _ _ _ _ hax (by omega) hlB rfl
      rw [hC]
      refine wpIn_mono (hbody (w.heap.size + 1) m pre x a' C (by omega) hiC hyC haC) ?_
      intro e a3 E hp
      cases e with
      | normal =>
        obtain ⟨hkE, hkpE, hiE⟩ := hp
        have hlE := hkE.same _ _ (by omega) hlC rfl
        have hdE := hkE.same _ _ (Nat.le_refl _) hdC rfl
        have hltE : w.heap.size + 1 < E.heap.size := (Array.getElem?_eq_some_iff.1 hlE).1
        have hr := run_endRound (P := P) none hlE
        rw [hrc] at hr hlE
        refine ⟨_, _, hr, rfl, ⟨?_, ?_, ?_⟩, ?_⟩
        · exact hput E _ _ hlE rfl m _ hiE
        · rw [hrc]; exact World.putObj_heap_same hltE
        · exact (World.putObj_heap_other (by omega)).trans hdE
        · exact hKt hkp (hKt hKC (hKt hkpE (hKb _ _ _ _ (by omega) hlE rfl)))
      | ret => exact hp.elim
      | exit id => exact hp.elim
      | goto t => exact hp.elim
      | panic ch => exact hp.elim
      | outgrown => exact hp.elim
    · -- behind the iterator
      rintro e A ⟨⟨v, rfl⟩, m, xs, hm, hS, hi, hl, hd⟩
      have hlt : w.heap.size + 1 < A.heap.size := (Array.getElem?_eq_some_iff.1 hl).1
      have hr := run_endLoop (P := P) hl (by rw [hrc]; simp)
      rw [hrc] at hr
      refine ⟨none, _, hr, hdone w.heap.size m xs _ (Nat.le_refl _) hS ?_ ((World.putObj_heap_other (by omega)).trans hd)⟩
      exact hI m xs A _ _ hi (grownBy_putObj' A (w.heap.size + 1) _) (fun r e => by cases e; exact ⟨by omega, .inl ⟨_, hl, rfl⟩⟩)
theorem oper_round {l : Nat} {o : Oper} {a : Act} {w : World} {K : Act → World → Prop} {Q : Exit → Act → World → Prop} (hd : ∀ c, o.op ≠ .defer c) (h : o.wp P a w K Q) : o.wpIn (Fence.wide.inRound l) n P a w K Q := by
  refine ⟨fun _ _ => trivial, ?_⟩
  rw [Oper.semAt_plain _ _ _ hd]
  unfold Oper.wp at h
  generalize (execOp a.eval o).run P w = r at h
  cases r with
  | ok x w' =>
    cases x with
    | value v => exact h
    | skip => exact h
    | defer d => exact h
    | enter f args => exact ⟨fun e => (by cases e), callsIn_wide.2 h⟩
    | row row args => exact ⟨fun e => (by cases e), fun c cs _ => let ⟨v, w', r, s⟩ := h c cs; ⟨v, w', r, stepsIn_wide.2 s⟩⟩
    | _ => exact h.elim
  | halt x w' =>
    cases x with
    | panic v => exact h
    | _ => exact h.elim
def noDefer (ops : Array Oper) : Bool := ops.all fun o => match o.op with | .defer _ => false | _ => true
theorem noDefer_at {ops : Array Oper} (h : noDefer ops = true) {i : Nat} {o : Oper} (ho : ops[i]? = some o) : ∀ c, o.op ≠ .defer c := fun c e => by
  have := Array.all_eq_true_iff_forall_mem.1 h o (Array.mem_of_getElem? ho)
  rw [e] at this; cases this
theorem op_round {l : Nat} {ops : Array Oper} {i : Nat} {a : Act} {w : World} {K : Act → World → Prop} {Q : Exit → Act → World → Prop} (hd : noDefer ops = true) (hno : ¬ LetsOut Q) (h : wpOp P ops Q i K a w) : wpOpIn (Fence.wide.inRound l) n P ops Q i K a w := by
  unfold wpOp at h
  unfold wpOpIn
  cases ho : ops[i]? with
  | none => rw [ho] at h; exact h
  | some o =>
    rw [ho] at h
    simp only at h ⊢
    by_cases hw : Region.wanted o (yielded ops a.tmps) = true
    · rw [if_pos hw] at h ⊢
      rcases h with h | ⟨-, h⟩
      · exact oper_round (noDefer_at hd ho) h
      · exact absurd h hno
    · rw [if_neg hw] at h ⊢
      exact ⟨fun _ _ => trivial, h⟩
theorem any_round {l : Nat} {ops : Array Oper} {md : Region.Mode} {Q : Exit → Act → World → Prop} (hd : noDefer ops = true) (hno : ¬ LetsOut Q) : ∀ (f : Nat) (listed : Array Bool) (a : Act) (w : World), wpAny P md ops Q f listed a w → wpAnyIn (Fence.wide.inRound l) n P md ops Q f listed a w
  | 0, _, _, _, h => h
  | f + 1, _, _, _, h => ⟨h.1, fun i hi => by
    have := op_round (l := l) (n := n) hd hno (h.2 i hi)
    exact wpOpIn_mono (fun a w => any_round hd hno f _ a w) this⟩
/-- **A region that draws its order, in a round.** -/
theorem wp_region_round {l id : Nat} {ops : Array Oper} {Q : Exit → Act → World → Prop} {a : Act} {w : World} (hm : P.follows .mixedOrders = true) (hd : noDefer ops = true) (hno : ¬ LetsOut Q)
    (h : wpAny P .any ops Q ops.size (Array.replicate ops.size false) a { w with drawn := w.drawn + 1 }) : (Code.region id ops true).wpIn (Fence.wide.inRound l) n P Q a w :=
  wpIn_region_any hm (any_round hd hno _ _ _ _ h)
end
end
section
open Go.RowKit
set_option maxRecDepth 100000
/-- A new variable's block, told ahead. -/
def newTold (w : World) (T : TypeId) (cs : Array Value) : Told := ⟨fun v => ∃ g, v = .pointer (some ⟨g, 0, none⟩), fun v W => ∀ g, v = .pointer (some ⟨g, 0, none⟩) → w.heap.size ≤ g ∧ Blk W g T cs⟩
theorem newTold_st {w : World} {T : TypeId} {cs : Array Value} : ∀ v W U, (newTold w T cs).R v W → Grown W U → (newTold w T cs).R v U := fun _ _ _ h k g hg => ⟨(h g hg).1, (h g hg).2.on k⟩
theorem newTold_makes {P : Program} {w : World} {a : Act} {o : Oper} {T : TypeId} {z : Value} {cs : Array Value} (ho : o.op = .alloc T) (hz : ∀ W, (zeroValue T).run P W = .ok z W) (hc : z.cells = cs) : Makes P w o (newTold w T cs).S (newTold w T cs).R a := fun W hW => by
  have hr : (execOp a.eval o).run P W = .ok (.value (.pointer (some ⟨W.heap.size, 0, none⟩))) (W.alloc (.cells cs T)) := by
    unfold execOp
    simp only [ho, Instr.alloc, Sem.run_bind, hz, Result.andThen_ok, newVar, newRow, newObj, hc]
    rfl
  unfold Oper.goes
  rw [hr]
  refine ⟨⟨⟨_, rfl⟩, fun g hg => ?_⟩, bAlloc (Below.refl _ _) _⟩
  simp only [Value.pointer.injEq, Option.some.injEq, Addr.mk.injEq, and_true] at hg
  subst hg
  exact ⟨Below.size hW, Blk.new _ _ _⟩
theorem zero_state (W : World) : (zeroValue 41).run Tryz.prog W = .ok (.agg (stCells zeroT).toArray) W := by kernel_rfl
end
section
open Go.RowKit
/-- A value that a callee yields in every world, told ahead. -/
def valF (v : Value) : Told := ⟨fun u => u = v, fun _ _ => True⟩
theorem valF_st {v : Value} : ∀ u W U, (valF v).R u W → Grown W U → (valF v).R u U := fun _ _ _ _ _ => trivial
theorem valF_of {P : Program} {f : FuncId} {args : Array Value} {v : Value} {W : World} (h : Calls P f args W fun e w' => e = .returned v ∧ Below W.heap.size W w') : Calls P f args W fun e w' => ∃ u, e = .returned u ∧ ((valF v).S u ∧ (valF v).R u w') ∧ Grown W w' :=
  h.mono fun _ _ ⟨he, hb⟩ => ⟨v, he, ⟨rfl, trivial⟩, hb⟩
end
end Go.Proofs.YtibeihcpehikoaaGreat
