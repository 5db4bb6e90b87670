/-
  The walks beneath: RgSt, Held, Bot4, GameF, MixF, Same, Run.
-/
import Derived.RangeFuncNested
import Derived.RangeFuncBound
import Derived.RangeFuncCalls
import Derived.RangeFuncLeaves
import Derived.OwnWalkIn
import Derived.Deep.Cut
import Derived.Maps.RangeWalk
import Derived.Test.YtibeihcpehikoaaGreatNk37
namespace Go.Proofs.YtibeihcpehikoaaGreat
open Go.RowKit
set_option maxRecDepth 100000
set_option linter.unusedSimpArgs false
section
section
variable {α : Type} {P : Program} {n : Nat}
def TurnsOwn (B m : Nat) (A : World) (row : Option Nat) : Prop := ∀ r, row = some r → B ≤ r ∧ r < m ∧ ∃ o : Obj, A.heap[r]? = some o ∧ o.isCells = true
def SeqSt (n : Nat) (P : Program) (gf : Nat) (lb : Array Value) (encs : α → Array Value) (Yp : Nat → List α → α → World → Prop) (Kp : World → World → Prop) (S : List α → Prop) (w0 : World) : Prop :=
 ∀ (l : Nat) (J : Nat → List α → World → Prop) (W : World), Below w0.heap.size w0 W →
  (∀ m pre A A' row, J m pre A → A.grownBy A' row → TurnsOwn W.heap.size m A row → J m pre A') →
  (∀ A, W.grownBy A none → J A.heap.size [] A) →
  (∀ m pre x A, W.heap.size ≤ m → J m pre A → Yp m pre x A → YieldAt Fence.wide (n - 1) P l (encs x) A fun e A' => e = .returned (.bool true) ∧ J m (pre ++ [x]) A' ∧ Kp A A') →
  CallsIn Fence.wide n P gf (#[.func (.yield l) #[] #[]] ++ lb) W fun e A => (∃ v, e = .returned v) ∧ ∃ m xs, W.heap.size ≤ m ∧ S xs ∧ J m xs A
def goesOn (B : Nat) (Kp : World → World → Prop) (I : List α → World → Prop) (xs : List α) (W : World) : Exit → Act → World → Prop
 | .normal, _, W' => KeepsFrom B W W' ∧ Kp W W' ∧ I xs W'
 | _, _, _ => False
theorem wpIn_rangeFunc_st {g : Operand} {ps : Array Tmp} {assign body : Code} {Q : Exit → Act → World → Prop} {a : Act} {w : World} (h1 : 1 ≤ n) {gf : Nat} {lb : Array Value} (hg : a.eval g = .func (.func gf) #[] lb) (eg : ∀ args w, (callFunc gf args).run P w = .ok (.enter gf args) w)
  {encs : α → Array Value} {Yp : Nat → List α → α → World → Prop} {Kp : World → World → Prop} {S : List α → Prop} (hseq : SeqSt (n - 1) P gf lb encs Yp Kp S w) (hps : ∀ x, (encs x).size = ps.size)
  (hKt : ∀ {A B C : World}, Kp A B → Kp B C → Kp A C) (hKb : ∀ (W : World) (l : Nat) (o o' : Obj), w.heap.size ≤ l → W.heap[l]? = some o → o.isCells = false → Kp W (W.putObj l o'))
  (I : Nat → List α → World → Prop) (hI : ∀ m pre A A' row, I m pre A → A.grownBy A' row → (∀ r, row = some r → w.heap.size ≤ r ∧ ((∃ o : Obj, A.heap[r]? = some o ∧ o.isCells = false) ∨ (r < m ∧ ∃ o : Obj, A.heap[r]? = some o ∧ o.isCells = true))) → I m pre A')
  (h0 : ∀ A, w.grownBy A none → I A.heap.size [] A) (Ax : α → Act → World → Prop) (hAx : ∀ x a' A l o o', Ax x a' A → w.heap.size ≤ l → A.heap[l]? = some o → o.isCells = false → Ax x a' (A.putObj l o'))
  (hassign : ∀ (l m : Nat) (pre : List α) (x : α) (W : World) (K : Act → World → Prop), w.heap.size ≤ m → I m pre W → Yp m pre x W → (∀ a' W', KeepsFrom w.heap.size W W' → Kp W W' → I m pre W' → Yp m pre x W' → Ax x a' W' → K a' W') →
   assign.wpIn (Fence.wide.inRound l) (n - 1 - 1) P (Exit.then K (fun _ _ _ => False)) { tmps := (ps.zip (encs x)).foldl (fun t (p, v) => t.setIfInBounds p v) a.tmps, defers := [] } W)
  (hYp : ∀ m pre x A l o o', Yp m pre x A → w.heap.size ≤ l → A.heap[l]? = some o → o.isCells = false → Yp m pre x (A.putObj l o'))
  (hbody : ∀ (l m : Nat) (pre : List α) (x : α) (a' : Act) (W : World), w.heap.size ≤ m → I m pre W → Yp m pre x W → Ax x a' W → body.wpIn (Fence.wide.inRound l) (n - 1 - 1) P (goesOn w.heap.size Kp (I m) (pre ++ [x]) W) a' W)
  (hdone : ∀ (D m : Nat) (xs : List α) (W : World), w.heap.size ≤ D → S xs → I m xs W → W.heap[D]? = some (.deferred (some [])) → Q .normal { a with defers := { target := .collected D, args := #[] } :: a.defers } W) :
  (Code.rangeFunc g ps assign body).wpIn Fence.wide n P Q a w := by
 refine wpIn_rangeFunc fun fn _ => ?_
 obtain ⟨rc, hrc⟩ : ∃ rc : LoopState → Loop, rc = fun st => { state := st, pending := none, fn := fn, tmps := a.tmps, params := ps, assign := assign, body := body, defers := w.heap.size } := ⟨_, rfl⟩
 obtain ⟨V, hV⟩ : ∃ V, (w.alloc (.deferred (some []))).alloc (.loop (rc .ready)) = V := ⟨_, rfl⟩
 have hz : V.heap.size = w.heap.size + 2 := by rw [← hV]; simp
 have hgV : w.grownBy V none := by rw [← hV]; exact (World.grownBy_alloc w _ none).trans (World.grownBy_alloc _ _ none)
 have hbV : Below w.heap.size w V := by rw [← hV]; exact (((Below.refl _ w).alloc (zL _) _).alloc (by simp) _)
 have hl0 : V.heap[w.heap.size + 1]? = some (.loop (rc .ready)) := by
  rw [← hV]
  have := World.alloc_heap_new (w.alloc (.deferred (some []))) (.loop (rc .ready))
  rwa [World.size_alloc] at this
 have hd0 : V.heap[w.heap.size]? = some (.deferred (some [])) := by
  rw [← hV]
  exact (Below.heap_alloc _ _ _ (by simp)).trans (World.alloc_heap_new w _)
 refine ⟨w.heap.size + 1, [{ target := .collected w.heap.size, args := #[] }], V, { target := .fn (.func gf) lb, args := #[.func (.yield (w.heap.size + 1)) #[] #[]] }, V, gf, #[.func (.yield (w.heap.size + 1)) #[] #[]] ++ lb, V, ?_, ?_, fun _ _ => trivial, ?_, fun _ => h1, ?_⟩
 ·rw [← hV, hrc]; exact run_enterLoop_outer _ _ _ _ _
 ·simp only [resolve, hg]
  simp [go_sem]
 ·simp [invoke, go_sem, eg]
 ·refine (hseq (w.heap.size + 1) (fun m pre W => I m pre W ∧ W.heap[w.heap.size + 1]? = some (.loop (rc .ready)) ∧ W.heap[w.heap.size]? = some (.deferred (some []))) V hbV ?_ ?_ ?_).mono ?_
  ·-- it abides growth and the iterator's own turns
   rintro m pre A A' row ⟨hi, hl, hd⟩ hgr hrow
   have hne : ∀ (k : Nat) (o : Obj), A.heap[k]? = some o → o.isCells = false → A'.heap[k]? = some o := fun k o hk ho => by
    rw [hgr.block k (Array.getElem?_eq_some_iff.1 hk).1 (fun e => by
     obtain ⟨-, -, o', ho', hc⟩ := hrow k e.symm
     rw [hk] at ho'; cases ho'; rw [ho] at hc; cases hc)]
    exact hk
   refine ⟨hI m pre A A' row hi hgr (fun r e => ?_), hne _ _ hl rfl, hne _ _ hd rfl⟩
   obtain ⟨q1, q2, q3⟩ := hrow r e
   exact ⟨by omega, .inr ⟨q2, q3⟩⟩
  ·-- ahead of the first round
   intro A hA
   refine ⟨h0 A (hgV.trans hA), ?_, ?_⟩
   ·rw [hA.block _ (by omega) (by simp)]; exact hl0
   ·rw [hA.block _ (by omega) (by simp)]; exact hd0
  ·-- one round
   rintro m pre x A hm ⟨hi, hl, hd⟩ hyp
   have hy := run_yield (P := P) (args := encs x) hl (by rw [hrc]; exact hps x)
   rw [hrc] at hy
   refine ⟨fn, _, assign, body, hy, roundIn_of_wpIn trivial (hassign _ m pre x A _ (by omega) hi hyp ?_)⟩
   intro a' B hkf hkp hib hyb hax
   have hlB := hkf.same _ _ (by omega) hl rfl
   have hdB := hkf.same _ _ (zL _) hd rfl
   have hltB : w.heap.size + 1 < B.heap.size := (Array.getElem?_eq_some_iff.1 hlB).1
   refine ⟨_, run_beginRound hlB (by rw [hrc]), ?_⟩
   have hput : ∀ (C : World) (o o' : Obj), C.heap[w.heap.size + 1]? = some o → o.isCells = false → ∀ m pre, I m pre C → I m pre (C.putObj (w.heap.size + 1) o') := fun C o o' hC ho m pre h =>
    hI m pre C _ _ h (grownBy_putObj' C (w.heap.size + 1) o') (fun r e => by cases e; exact ⟨by omega, .inl ⟨o, hC, ho⟩⟩)
   obtain ⟨C, hC⟩ : ∃ C, B.putObj (w.heap.size + 1) (.loop { rc .ready with state := .busy }) = C := ⟨_, rfl⟩
   have hlC : C.heap[w.heap.size + 1]? = some (.loop { rc .ready with state := .busy }) := by rw [← hC]; exact World.putObj_heap_same hltB
   have hdC : C.heap[w.heap.size]? = some (.deferred (some [])) := by rw [← hC]; exact (World.putObj_heap_other (by omega)).trans hdB
   have hKC : Kp B C := by rw [← hC]; exact hKb _ _ _ _ (by omega) hlB rfl
   have hiC : I m pre C := by rw [← hC]; exact hput B _ _ hlB rfl m pre hib
   have hyC : Yp m pre x C := by rw [← hC]; exact hYp _ _ _ _ _ _ _ hyb (by omega) hlB rfl
   have haC : Ax x a' C := by rw [← hC]; exact hAx _ _ _ _ _ _ hax (by omega) hlB rfl
   rw [hC]
   refine wpIn_mono (hbody (w.heap.size + 1) m pre x a' C (by omega) hiC hyC haC) ?_
   intro e a3 E hp
   cases e with
   | normal =>
    obtain ⟨hkE, hkpE, hiE⟩ := hp
    have hlE := hkE.same _ _ (by omega) hlC rfl
    have hdE := hkE.same _ _ (zL _) hdC rfl
    have hltE : w.heap.size + 1 < E.heap.size := (Array.getElem?_eq_some_iff.1 hlE).1
    have hr := run_endRound (P := P) none hlE
    rw [hrc] at hr hlE
    refine ⟨_, _, hr, rfl, ⟨?_, ?_, ?_⟩, ?_⟩
    ·exact hput E _ _ hlE rfl m _ hiE
    ·rw [hrc]; exact World.putObj_heap_same hltE
    ·exact (World.putObj_heap_other (by omega)).trans hdE
    ·exact hKt hkp (hKt hKC (hKt hkpE (hKb _ _ _ _ (by omega) hlE rfl)))
   | ret => exact hp.elim
   | exit id => exact hp.elim
   | goto t => exact hp.elim
   | panic ch => exact hp.elim
   | outgrown => exact hp.elim
  ·-- behind the iterator
   rintro e A ⟨⟨v, rfl⟩, m, xs, hm, hS, hi, hl, hd⟩
   have hlt : w.heap.size + 1 < A.heap.size := (Array.getElem?_eq_some_iff.1 hl).1
   have hr := run_endLoop (P := P) hl (by rw [hrc]; simp)
   rw [hrc] at hr
   refine ⟨none, _, hr, hdone w.heap.size m xs _ (zL _) hS ?_ ((World.putObj_heap_other (by omega)).trans hd)⟩
   exact hI m xs A _ _ hi (grownBy_putObj' A (w.heap.size + 1) _) (fun r e => by cases e; exact ⟨by omega, .inl ⟨_, hl, rfl⟩⟩)
theorem oper_round {l : Nat} {o : Oper} {a : Act} {w : World} {K : Act → World → Prop} {Q : Exit → Act → World → Prop} (hd : ∀ c, o.op ≠ .defer c) (h : o.wp P a w K Q) : o.wpIn (Fence.wide.inRound l) n P a w K Q := by
 refine ⟨fun _ _ => trivial, ?_⟩
 rw [Oper.semAt_plain _ _ _ hd]
 unfold Oper.wp at h
 generalize (execOp a.eval o).run P w = r at h
 cases r with
 | ok x w' =>
  cases x with
  | value v => exact h
  | skip => exact h
  | defer d => exact h
  | enter f args => exact ⟨fun e => (by cases e), callsIn_wide.2 h⟩
  | row row args => exact ⟨fun e => (by cases e), fun c cs _ => let ⟨v, w', r, s⟩ := h c cs; ⟨v, w', r, stepsIn_wide.2 s⟩⟩
  | _ => exact h.elim
 | halt x w' =>
  cases x with
  | panic v => exact h
  | _ => exact h.elim
def noDefer (ops : Array Oper) : Bool := ops.all fun o => match o.op with | .defer _ => false | _ => true
theorem noDefer_at {ops : Array Oper} (h : noDefer ops = true) {i : Nat} {o : Oper} (ho : ops[i]? = some o) : ∀ c, o.op ≠ .defer c := fun c e => by
 have := Array.all_eq_true_iff_forall_mem.1 h o (Array.mem_of_getElem? ho)
 rw [e] at this; cases this
theorem op_round {l : Nat} {ops : Array Oper} {i : Nat} {a : Act} {w : World} {K : Act → World → Prop} {Q : Exit → Act → World → Prop} (hd : noDefer ops = true) (hno : ¬ LetsOut Q) (h : wpOp P ops Q i K a w) : wpOpIn (Fence.wide.inRound l) n P ops Q i K a w := by
 unfold wpOp at h
 unfold wpOpIn
 cases ho : ops[i]? with
 | none => rw [ho] at h; exact h
 | some o =>
  rw [ho] at h
  simp only at h ⊢
  by_cases hw : Region.wanted o (yielded ops a.tmps) = true
  ·rw [if_pos hw] at h ⊢
   rcases h with h | ⟨-, h⟩
   ·exact oper_round (noDefer_at hd ho) h
   ·exact absurd h hno
  ·rw [if_neg hw] at h ⊢
   exact ⟨fun _ _ => trivial, h⟩
theorem any_round {l : Nat} {ops : Array Oper} {md : Region.Mode} {Q : Exit → Act → World → Prop} (hd : noDefer ops = true) (hno : ¬ LetsOut Q) : ∀ (f : Nat) (listed : Array Bool) (a : Act) (w : World), wpAny P md ops Q f listed a w → wpAnyIn (Fence.wide.inRound l) n P md ops Q f listed a w
 | 0, _, _, _, h => h
 | f + 1, _, _, _, h => ⟨h.1, fun i hi => by
  have := op_round (l := l) (n := n) hd hno (h.2 i hi)
  exact wpOpIn_mono (fun a w => any_round hd hno f _ a w) this⟩
theorem wp_region_round {l id : Nat} {ops : Array Oper} {Q : Exit → Act → World → Prop} {a : Act} {w : World} (hm : P.follows .mixedOrders = true) (hd : noDefer ops = true) (hno : ¬ LetsOut Q)
  (h : wpAny P .any ops Q ops.size (Array.replicate ops.size false) a { w with drawn := w.drawn + 1 }) : (Code.region id ops true).wpIn (Fence.wide.inRound l) n P Q a w :=
 wpIn_region_any hm (any_round hd hno _ _ _ _ h)
end
end
section
def newTold (w : World) (T : TypeId) (cs : Array Value) : Told := ⟨fun v => ∃ g, v = .pointer (some ⟨g, 0, none⟩), fun v W => ∀ g, v = .pointer (some ⟨g, 0, none⟩) → w.heap.size ≤ g ∧ Blk W g T cs⟩
theorem newTold_st {w : World} {T : TypeId} {cs : Array Value} : ∀ v W U, (newTold w T cs).R v W → Grown W U → (newTold w T cs).R v U := fun _ _ _ h k g hg => ⟨(h g hg).1, (h g hg).2.on k⟩
theorem newTold_makes {P : Program} {w : World} {a : Act} {o : Oper} {T : TypeId} {z : Value} {cs : Array Value} (ho : o.op = .alloc T) (hz : ∀ W, (zeroValue T).run P W = .ok z W) (hc : z.cells = cs) : Makes P w o (newTold w T cs).S (newTold w T cs).R a := fun W hW => by
 have hr : (execOp a.eval o).run P W = .ok (.value (.pointer (some ⟨W.heap.size, 0, none⟩))) (W.alloc (.cells cs T)) := by
  unfold execOp
  simp only [ho, Instr.alloc, Sem.run_bind, hz, Result.andThen_ok, newVar, newRow, newObj, hc]
  rfl
 unfold Oper.goes
 rw [hr]
 refine ⟨⟨⟨_, rfl⟩, fun g hg => ?_⟩, bAlloc (Below.refl _ _) _⟩
 simp only [Value.pointer.injEq, Option.some.injEq, Addr.mk.injEq, and_true] at hg
 subst hg
 exact ⟨Below.size hW, Blk.new _ _ _⟩
theorem zero_state (W : World) : (zeroValue 41).run Tryz.prog W = .ok (.agg (stCells zeroT).toArray) W := by kernel_rfl
end
section
section
variable {P : Program} {ops : Array Oper} {md : Region.Mode} {w : World} {kd : Nat → Kd} {sp : Nat → Told} {fr : Nat → Bool}
def slotV (ops : Array Oper) (a : Act) (j : Nat) : Value := match (ops[j]?).bind (·.dst) with
 | some d => a.tmps.getD d undef
 | none => undef
def ptrTo (v : Value) : Option Nat := match v with
 | .pointer (some ⟨b, _, _⟩) => some b
 | _ => none
def Dist (ops : Array Oper) (fr : Nat → Bool) (a : Act) : Prop := ∀ i j b, fr i = true → fr j = true → i ≠ j → ptrTo (slotV ops a i) = some b → ptrTo (slotV ops a j) ≠ some b
def Real (ops : Array Oper) (fr : Nat → Bool) (a : Act) (W : World) : Prop := Dist ops fr a ∧ ∀ i b, fr i = true → ptrTo (slotV ops a i) = some b → b < W.heap.size
structure FrOk (P : Program) (ops : Array Oper) (w : World) (kd : Nat → Kd) (sp : Nat → Told) (fr : Nat → Bool) : Prop where
 dst : ∀ i j oi oj d, fr i = true → i ≠ j → ops[i]? = some oi → ops[j]? = some oj → oi.dst = some d → oj.dst ≠ some d
 alloc : ∀ i, fr i = true → ∃ oi T z, ops[i]? = some oi ∧ oi.op = .alloc T ∧ (∀ W, (zeroValue T).run P W = .ok z W) ∧ oi.guard = none
 make : ∀ i, fr i = true → kd i = .make
theorem FrOk.not_of (h : FrOk P ops w kd sp fr) {i : Nat} (hk : kd i ≠ .make) : fr i = false := by
 cases hf : fr i with
 | false => rfl
 | true => exact absurd (h.make i hf) hk
theorem FrOk.not_wanted (h : FrOk P ops w kd sp fr) {i : Nat} {o : Oper} {a : Act} (ho : ops[i]? = some o) (hw : Region.wanted o (yielded ops a.tmps) = false) : fr i = false := by
 cases hf : fr i with
 | false => rfl
 | true =>
  obtain ⟨oi, T, z, hoi, -, -, hg⟩ := h.alloc i hf
  obtain rfl : oi = o := Option.some.inj (hoi.symm.trans ho)
  unfold Region.wanted at hw
  rw [hg] at hw
  cases hw
theorem getD_put_ne (a : Act) {x : Option Tmp} {d : Tmp} (v : Value) (h : x ≠ some d) : (a.put x v).tmps.getD d undef = a.tmps.getD d undef := by
 cases x with
 | none => rfl
 | some e =>
  have hne : e ≠ d := fun h' => h (by rw [h'])
  simp only [Act.put, Array.getD_eq_getD_getElem?, Array.getElem?_setIfInBounds]
  rw [if_neg hne]
theorem slotV_put (h : FrOk P ops w kd sp fr) {k : Nat} {ok : Oper} (hk : ops[k]? = some ok) {j : Nat} (hj : fr j = true) (hne : j ≠ k) (a : Act) (v : Value) : slotV ops (a.put ok.dst v) j = slotV ops a j := by
 unfold slotV
 cases hd : (ops[j]?).bind (·.dst) with
 | none => rfl
 | some d =>
  cases hoj : ops[j]? with
  | none => rw [hoj] at hd; cases hd
  | some oj =>
   rw [hoj] at hd
   have hd : oj.dst = some d := hd
   exact getD_put_ne a v (h.dst j k oj ok d hj hne hoj hk hd)
theorem dist_put (h : FrOk P ops w kd sp fr) {k : Nat} {ok : Oper} (hk : ops[k]? = some ok) (hf : fr k = false) (a : Act) (v : Value) : Dist ops fr (a.put ok.dst v) ↔ Dist ops fr a := by
 have hs : ∀ j, fr j = true → slotV ops (a.put ok.dst v) j = slotV ops a j := fun j hj => slotV_put h hk hj (fun e => by rw [e, hf] at hj; cases hj) a v
 constructor
 ·intro hd i j b hi hj hne h1 h2
  exact hd i j b hi hj hne (by rw [hs i hi]; exact h1) (by rw [hs j hj]; exact h2)
 ·intro hd i j b hi hj hne h1 h2
  rw [hs i hi] at h1
  rw [hs j hj] at h2
  exact hd i j b hi hj hne h1 h2
theorem Real.put {a : Act} {W W' : World} (hI : Real ops fr a W) (h : FrOk P ops w kd sp fr) {k : Nat} {ok : Oper} (hk : ops[k]? = some ok) (hf : fr k = false) (v : Value) (hz : W.heap.size ≤ W'.heap.size) : Real ops fr (a.put ok.dst v) W' :=
  ⟨(dist_put h hk hf a v).2 hI.1, fun i b hi hb => by
    rw [slotV_put h hk hi (fun e => by rw [e, hf] at hi; cases hi) a v] at hb
    exact Nat.lt_of_lt_of_le (hI.2 i b hi hb) hz⟩
theorem slotV_self {k : Nat} {ok : Oper} (hk : ops[k]? = some ok) (a : Act) (v : Value) {b : Nat} (hb : ptrTo (slotV ops (a.put ok.dst v) k) = some b) : ptrTo v = some b := by
 unfold slotV at hb
 rw [hk] at hb
 cases hd : ok.dst with
 | none =>
  simp only [Option.bind_some, hd] at hb
  cases hb
 | some d =>
  simp only [Option.bind_some, hd, Act.put, Array.getD_eq_getD_getElem?, Array.getElem?_setIfInBounds, if_true] at hb
  split at hb
  ·exact hb
  ·cases hb
theorem Real.fresh {a : Act} {W : World} (hI : Real ops fr a W) (h : FrOk P ops w kd sp fr) {k : Nat} {ok : Oper} (hk : ops[k]? = some ok) (_hf : fr k = true) (W' : World) (hz : W'.heap.size = W.heap.size + 1) : Real ops fr (a.put ok.dst (.pointer (some ⟨W.heap.size, 0, none⟩))) W' := by
 have hother : ∀ i, fr i = true → i ≠ k → slotV ops (a.put ok.dst (.pointer (some ⟨W.heap.size, 0, none⟩))) i = slotV ops a i := fun i hi hne => slotV_put h hk hi hne a _
 have hself : ∀ b, ptrTo (slotV ops (a.put ok.dst (.pointer (some ⟨W.heap.size, 0, none⟩))) k) = some b → b = W.heap.size := fun b hb => by
  have := slotV_self hk a _ hb
  simpa [ptrTo] using this.symm
 refine ⟨fun i j b hi hj hne h1 h2 => ?_, fun i b hi hb => ?_⟩
 ·by_cases ei : i = k
  ·subst ei
   have := hself b h1
   rw [hother j hj (fun e => hne e.symm)] at h2
   have := hI.2 j b hj h2
   omega
  ·by_cases ej : j = k
   ·subst ej
    have := hself b h2
    rw [hother i hi ei] at h1
    have := hI.2 i b hi h1
    omega
   ·rw [hother i hi ei] at h1
    rw [hother j hj ej] at h2
    exact hI.1 i j b hi hj hne h1 h2
 ·by_cases ei : i = k
  ·subst ei
   have := hself b hb
   omega
  ·rw [hother i hi ei] at hb
   have := hI.2 i b hi hb
   omega
def frDst (ops : Array Oper) (fl : List Nat) : Bool := fl.all fun i => (List.range ops.size).all fun j => decide (j = i) || match (ops[i]?).bind (·.dst), (ops[j]?).bind (·.dst) with
 | some d, some e => decide (d ≠ e)
 | _, _ => true
def frAct (ops : Array Oper) (fl : List Nat) (a : Act) : Bool := fl.all fun i => (ptrTo (slotV ops a i)).isNone
theorem FrOk.of {kds : List Kd} {fl : List Nat} (hd : frDst ops fl = true) (hal : ∀ i ∈ fl, ∃ oi T z, ops[i]? = some oi ∧ oi.op = .alloc T ∧ (∀ W, (zeroValue T).run P W = .ok z W) ∧ oi.guard = none ∧ kds.getD i .pure = .make) : FrOk P ops w (fun i => kds.getD i .pure) sp (fun i => fl.contains i) := by
 refine ⟨fun i j oi oj d hi hne hoi hoj hdi hdj => ?_, fun i hi => ?_, fun i hi => ?_⟩
 ·have h1 := List.all_eq_true.1 (List.all_eq_true.1 hd i (by simpa using hi)) j (List.mem_range.2 (Array.getElem?_eq_some_iff.1 hoj).1)
  rw [hoi, hoj] at h1
  simp only [Option.bind_some, hdi, hdj] at h1
  simp at h1
  exact hne h1.symm
 ·obtain ⟨oi, T, z, h1, h2, h3, h4, -⟩ := hal i (by simpa using hi)
  exact ⟨oi, T, z, h1, h2, h3, h4⟩
 ·obtain ⟨oi, T, z, -, -, -, -, h5⟩ := hal i (by simpa using hi)
  exact h5
theorem Real.of {fl : List Nat} {a : Act} (h : frAct ops fl a = true) (W : World) : Real ops (fun i => fl.contains i) a W := by
 have hn : ∀ i, fl.contains i = true → ptrTo (slotV ops a i) = none := fun i hi => by
  have := List.all_eq_true.1 h i (by simpa using hi)
  simpa using this
 exact ⟨fun i j b hi _ _ h1 => (by rw [hn i hi] at h1; cases h1), fun i b hi h1 => (by rw [hn i hi] at h1; cases h1)⟩
def mStepF (P : Program) (ops : Array Oper) (w : World) (kd : Nat → Kd) (sp : Nat → Told) (fr : Nat → Bool) (o : Oper) (i : Nat) (K : Act → (World → Prop) → Prop) (a : Act) (D : World → Prop) : Prop :=
 if Region.wanted o (yielded ops a.tmps) = true then
  match kd i with
  | .pure => ∃ v, (∀ W, RunsTo P o a W v) ∧ K (a.put o.dst v) D
  | .held => Keeps w D ∧ ∃ v, (∀ W, Grown w W → RunsTo P o a W v) ∧ K (a.put o.dst v) D
  | .make => Keeps w D ∧ (∀ v W U, (sp i).R v W → Grown W U → (sp i).R v U) ∧ Makes P w o (sp i).S (sp i).R a ∧ ∀ v, (sp i).S v → Ne (fun W => D W ∧ (sp i).R v W) → K (a.put o.dst v) (fun W => D W ∧ (sp i).R v W)
  | .tail => ∃ (S : Value → Prop) (R : Value → World → Prop), (∃ v, S v ∧ Ne (R v)) ∧ (Dist ops fr a → ∀ W, D W → Oper.goes P o a W (fun u W' => (S u ∧ R u W') ∧ W.heap.size ≤ W'.heap.size)) ∧ ∀ v, S v → Ne (R v) → K (a.put o.dst v) (R v)
 else K (a.put o.dst undef) D
def mOpF (P : Program) (ops : Array Oper) (w : World) (kd : Nat → Kd) (sp : Nat → Told) (fr : Nat → Bool) (i : Nat) (K : Act → (World → Prop) → Prop) (a : Act) (D : World → Prop) : Prop :=
 match ops[i]? with
 | none => K a D
 | some o => mStepF P ops w kd sp fr o i K a D
theorem mStep_monoF {o : Oper} {i : Nat} {a : Act} {D : World → Prop} {K K' : Act → (World → Prop) → Prop} (hne : Ne D) (h : ∀ a D, Ne D → K a D → K' a D) (hh : mStepF P ops w kd sp fr o i K a D) : mStepF P ops w kd sp fr o i K' a D := by
 unfold mStepF at *
 split
 ·rename_i hw
  rw [if_pos hw] at hh
  cases hk : kd i <;> rw [hk] at hh <;> simp only at hh ⊢
  ·obtain ⟨v, h1, h2⟩ := hh; exact ⟨v, h1, h _ _ hne h2⟩
  ·obtain ⟨h0, v, h1, h2⟩ := hh; exact ⟨h0, v, h1, h _ _ hne h2⟩
  ·obtain ⟨h0, h1, h2, h3⟩ := hh; exact ⟨h0, h1, h2, fun v hv hn => h _ _ hn (h3 v hv hn)⟩
  ·obtain ⟨S, R, h0, h1, h2⟩ := hh; exact ⟨S, R, h0, h1, fun v hv hn => h _ _ hn (h2 v hv hn)⟩
 ·rename_i hw; rw [if_neg hw] at hh; exact h _ _ hne hh
theorem mStep_someF {o : Oper} {i : Nat} {a : Act} {D : World → Prop} {K : Act → (World → Prop) → Prop} (hne : Ne D) (hh : mStepF P ops w kd sp fr o i K a D) : ∃ a' D', Ne D' ∧ K a' D' := by
 unfold mStepF at hh
 split at hh
 ·cases hk : kd i <;> rw [hk] at hh <;> simp only at hh
  ·obtain ⟨v, -, h2⟩ := hh; exact ⟨_, _, hne, h2⟩
  ·obtain ⟨-, v, -, h2⟩ := hh; exact ⟨_, _, hne, h2⟩
  ·obtain ⟨h0, h1, h2, h3⟩ := hh
   obtain ⟨W, hW⟩ := hne
   obtain ⟨v, W', ⟨hs, hr⟩, hg⟩ := goes_some (h2 W (h0.out W hW))
   have hn : Ne (fun W => D W ∧ (sp i).R v W) := ⟨W', h0.grow W W' hW hg, hr⟩
   exact ⟨_, _, hn, h3 v hs hn⟩
  ·obtain ⟨S, R, ⟨v, hs, hn⟩, -, h2⟩ := hh
   exact ⟨_, _, hn, h2 v hs hn⟩
 ·exact ⟨_, _, hne, hh⟩
theorem mStep_swapF {i j : Nat} {oi oj : Oper} (hap : oi.apart ops oj = true) (hsi : ∀ cs b, oi.op ≠ .select cs b) (hsj : ∀ cs b, oj.op ≠ .select cs b) (hk : swapOk (kd i) (kd j) = true) {K : Act → (World → Prop) → Prop} {a : Act} {D : World → Prop} (hne : Ne D) (hfr : FrOk P ops w kd sp fr) (hoi : ops[i]? = some oi) (hoj : ops[j]? = some oj)
  (h : mStepF P ops w kd sp fr oi i (fun a1 D1 => mStepF P ops w kd sp fr oj j K a1 D1) a D) : mStepF P ops w kd sp fr oj j (fun a2 D2 => mStepF P ops w kd sp fr oi i K a2 D2) a D := by
 obtain ⟨h1, h2, h3⟩ := Oper.apart_spec hap
 have ei : ∀ (a : Act) u, execOp (a.put oj.dst u).eval oi = execOp a.eval oi := fun a u => execOp_put oi hsi a oj.dst u h3
 have ej : ∀ (a : Act) u, execOp (a.put oi.dst u).eval oj = execOp a.eval oj := fun a u => execOp_put oj hsj a oi.dst u h1
 have wi : ∀ (a : Act) u, Region.wanted oi (yielded ops (a.put oj.dst u).tmps) = Region.wanted oi (yielded ops a.tmps) := fun a u => wanted_put oi a oj.dst u h3
 have wj : ∀ (a : Act) u, Region.wanted oj (yielded ops (a.put oi.dst u).tmps) = Region.wanted oj (yielded ops a.tmps) := fun a u => wanted_put oj a oi.dst u h1
 have pc : ∀ (a : Act) u v, (a.put oi.dst u).put oj.dst v = (a.put oj.dst v).put oi.dst u := fun a u v => Act.put_comm a u v h2
 have ri : ∀ (a : Act) u W v, RunsTo P oi (a.put oj.dst u) W v ↔ RunsTo P oi a W v := fun a u W v => by unfold RunsTo; rw [ei]
 have rj : ∀ (a : Act) u W v, RunsTo P oj (a.put oi.dst u) W v ↔ RunsTo P oj a W v := fun a u W v => by unfold RunsTo; rw [ej]
 have gi : ∀ (a : Act) u W T, Oper.goes P oi (a.put oj.dst u) W T ↔ Oper.goes P oi a W T := fun a u W T => by unfold Oper.goes; rw [ei]
 have gj : ∀ (a : Act) u W T, Oper.goes P oj (a.put oi.dst u) W T ↔ Oper.goes P oj a W T := fun a u W T => by unfold Oper.goes; rw [ej]
 have mi : ∀ (a : Act) u S R, Makes P w oi S R (a.put oj.dst u) ↔ Makes P w oi S R a := fun a u S R => by unfold Makes; simp only [gi]
 have mj : ∀ (a : Act) u S R, Makes P w oj S R (a.put oi.dst u) ↔ Makes P w oj S R a := fun a u S R => by unfold Makes; simp only [gj]
 have dc : ∀ (A B : World → Prop), (fun W => (D W ∧ A W) ∧ B W) = (fun W => (D W ∧ B W) ∧ A W) := fun A B => by funext W; exact propext ⟨fun ⟨⟨a, b⟩, c⟩ => ⟨⟨a, c⟩, b⟩, fun ⟨⟨a, b⟩, c⟩ => ⟨⟨a, c⟩, b⟩⟩
 have di : fr i = false → ∀ (a : Act) u, Dist ops fr (a.put oi.dst u) ↔ Dist ops fr a := fun h a u => dist_put hfr hoi h a u
 have dj : fr j = false → ∀ (a : Act) u, Dist ops fr (a.put oj.dst u) ↔ Dist ops fr a := fun h a u => dist_put hfr hoj h a u
 unfold mStepF at h ⊢
 simp only [wi, wj, ri, rj, gi, gj, mi, mj] at h ⊢
 by_cases hwi : Region.wanted oi (yielded ops a.tmps) = true
 ·by_cases hwj : Region.wanted oj (yielded ops a.tmps) = true
  ·simp only [hwi, hwj, if_true] at h ⊢
   cases hki : kd i <;> cases hkj : kd j <;> rw [hki, hkj] at hk <;> simp only [hki, hkj] at h ⊢
   case tail.tail => simp [swapOk] at hk
   case tail.held => simp [swapOk] at hk
   case tail.make => simp [swapOk] at hk
   case held.tail => simp [swapOk] at hk
   case make.tail => simp [swapOk] at hk
   case pure.pure =>
    obtain ⟨v, hv, u, hu, hK⟩ := h
    exact ⟨u, hu, v, hv, by rw [← pc]; exact hK⟩
   case pure.held =>
    obtain ⟨v, hv, hD, u, hu, hK⟩ := h
    exact ⟨hD, u, hu, v, hv, by rw [← pc]; exact hK⟩
   case pure.make =>
    obtain ⟨v, hv, hD, hst, hM, hK⟩ := h
    exact ⟨hD, hst, hM, fun u hu hn => ⟨v, hv, by rw [← pc]; exact hK u hu hn⟩⟩
   case pure.tail =>
    obtain ⟨v, hv, S, R, h0, hg, hK⟩ := h
    have fi : fr i = false := hfr.not_of (by rw [hki]; decide)
    exact ⟨S, R, h0, fun hd => hg ((di fi a v).2 hd), fun u hu hn => ⟨v, hv, by rw [← pc]; exact hK u hu hn⟩⟩
   case held.pure =>
    obtain ⟨hD, v, hv, u, hu, hK⟩ := h
    exact ⟨u, hu, hD, v, hv, by rw [← pc]; exact hK⟩
   case held.held =>
    obtain ⟨hD, v, hv, -, u, hu, hK⟩ := h
    exact ⟨hD, u, hu, hD, v, hv, by rw [← pc]; exact hK⟩
   case held.make =>
    obtain ⟨hD, v, hv, -, hst, hM, hK⟩ := h
    exact ⟨hD, hst, hM, fun u hu hn => ⟨⟨fun W hW => hD.out W hW.1, fun W U hW hg => ⟨hD.grow W U hW.1 hg, hst u W U hW.2 hg⟩⟩, v, hv, by rw [← pc]; exact hK u hu hn⟩⟩
   case make.pure =>
    obtain ⟨hD, hst, hM, hK⟩ := h
    obtain ⟨W, hW⟩ := hne
    obtain ⟨v0, W', ⟨hs0, hr0⟩, hg0⟩ := goes_some (hM W (hD.out W hW))
    obtain ⟨u, hu, -⟩ := hK v0 hs0 ⟨W', hD.grow W W' hW hg0, hr0⟩
    refine ⟨u, hu, hD, hst, hM, fun v hv hn => ?_⟩
    obtain ⟨u', hu', hK'⟩ := hK v hv hn
    have : u' = u := runsTo_uniq (hu' W) (hu W)
    subst this
    rw [← pc]; exact hK'
   case make.held =>
    obtain ⟨hD, hst, hM, hK⟩ := h
    obtain ⟨W, hW⟩ := hne
    obtain ⟨v0, W', ⟨hs0, hr0⟩, hg0⟩ := goes_some (hM W (hD.out W hW))
    obtain ⟨-, u, hu, -⟩ := hK v0 hs0 ⟨W', hD.grow W W' hW hg0, hr0⟩
    refine ⟨hD, u, hu, hD, hst, hM, fun v hv hn => ?_⟩
    obtain ⟨-, u', hu', hK'⟩ := hK v hv hn
    have : u' = u := runsTo_uniq (hu' W (hD.out W hW)) (hu W (hD.out W hW))
    subst this
    rw [← pc]; exact hK'
   case make.make =>
    obtain ⟨hD, hst, hM, hK⟩ := h
    obtain ⟨W, hW⟩ := hne
    obtain ⟨v0, W', ⟨hs0, hr0⟩, hg0⟩ := goes_some (hM W (hD.out W hW))
    obtain ⟨-, hst2, hM2, -⟩ := hK v0 hs0 ⟨W', hD.grow W W' hW hg0, hr0⟩
    refine ⟨hD, hst2, hM2, fun u hu hn => ⟨⟨fun W hW => hD.out W hW.1, fun W U hW hg => ⟨hD.grow W U hW.1 hg, hst2 u W U hW.2 hg⟩⟩, hst, hM, fun v hv hn2 => ?_⟩⟩
    obtain ⟨Wx, ⟨hx1, hx2⟩, hx3⟩ := hn2
    have := (hK v hv ⟨Wx, hx1, hx3⟩).2.2.2 u hu ⟨Wx, ⟨hx1, hx3⟩, hx2⟩
    rw [← pc, ← dc]
    exact this
   case tail.pure =>
    obtain ⟨S, R, ⟨v0, hs0, hn0⟩, hg, hK⟩ := h
    obtain ⟨W, hW⟩ := hne
    have fj : fr j = false := hfr.not_of (by rw [hkj]; decide)
    obtain ⟨u, hu, -⟩ := hK v0 hs0 hn0
    refine ⟨u, hu, S, R, ⟨v0, hs0, hn0⟩, fun hd => hg ((dj fj a u).1 hd), fun v hv hn => ?_⟩
    obtain ⟨u', hu', hK'⟩ := hK v hv hn
    have : u' = u := runsTo_uniq (hu' W) (hu W)
    subst this
    rw [← pc]; exact hK'
  ·simp only [hwi, hwj, if_true, Bool.false_eq_true, if_false] at h ⊢
   have fj : fr j = false := hfr.not_wanted hoj (by simpa using hwj)
   cases hki : kd i <;> simp only [hki] at h ⊢
   ·obtain ⟨v, hv, hK⟩ := h; exact ⟨v, hv, by rw [← pc]; exact hK⟩
   ·obtain ⟨hD, v, hv, hK⟩ := h; exact ⟨hD, v, hv, by rw [← pc]; exact hK⟩
   ·obtain ⟨hD, hst, hM, hK⟩ := h; exact ⟨hD, hst, hM, fun v hv hn => by rw [← pc]; exact hK v hv hn⟩
   ·obtain ⟨S, R, h0, hg, hK⟩ := h; exact ⟨S, R, h0, fun hd => hg ((dj fj a _).1 hd), fun v hv hn => by rw [← pc]; exact hK v hv hn⟩
 ·by_cases hwj : Region.wanted oj (yielded ops a.tmps) = true
  ·simp only [hwi, hwj, if_true, Bool.false_eq_true, if_false] at h ⊢
   have fi : fr i = false := hfr.not_wanted hoi (by simpa using hwi)
   cases hkj : kd j <;> simp only [hkj] at h ⊢
   ·obtain ⟨v, hv, hK⟩ := h; exact ⟨v, hv, by rw [← pc]; exact hK⟩
   ·obtain ⟨hD, v, hv, hK⟩ := h; exact ⟨hD, v, hv, by rw [← pc]; exact hK⟩
   ·obtain ⟨hD, hst, hM, hK⟩ := h; exact ⟨hD, hst, hM, fun v hv hn => by rw [← pc]; exact hK v hv hn⟩
   ·obtain ⟨S, R, h0, hg, hK⟩ := h; exact ⟨S, R, h0, fun hd => hg ((di fi a _).2 hd), fun v hv hn => by rw [← pc]; exact hK v hv hn⟩
  ·simp only [hwi, hwj, Bool.false_eq_true, if_false] at h ⊢
   rw [← pc]; exact h
def wpAnyKF (P : Program) (md : Region.Mode) (ops : Array Oper) (w : World) (kd : Nat → Kd) (sp : Nat → Told) (fr : Nat → Bool) (E : Act → (World → Prop) → Prop) : Nat → Array Bool → Act → (World → Prop) → Prop
 | 0, listed, a, D => Region.ready md ops listed = [] ∧ E a D
 | f + 1, listed, a, D => (Region.ready md ops listed = [] → E a D) ∧ ∀ i ∈ Region.ready md ops listed, mOpF P ops w kd sp fr i (wpAnyKF P md ops w kd sp fr E f (listed.setIfInBounds i true)) a D
theorem wpOp_of_mOpF {i : Nat} {a : Act} {D : World → Prop} {K : Act → (World → Prop) → Prop} {K' : Act → World → Prop} {Q' : Exit → Act → World → Prop} {W : World} (hfr : FrOk P ops w kd sp fr) (hW : D W) (hI : Real ops fr a W)
  (h : ∀ a D W', D W' → Real ops fr a W' → K a D → K' a W') (hh : mOpF P ops w kd sp fr i K a D) : wpOp P ops Q' i K' a W := by
 unfold mOpF at hh
 unfold wpOp
 split
 ·rename_i ho; simp only [ho] at hh; exact h _ _ _ hW hI hh
 ·rename_i o ho
  simp only [ho] at hh
  unfold mStepF at hh
  split
  ·rename_i hw
   rw [if_pos hw] at hh
   left
   cases hk : kd i <;> rw [hk] at hh <;> simp only at hh
   ·obtain ⟨v, h1, h2⟩ := hh
    have h1 := h1 W
    unfold RunsTo at h1
    unfold Oper.wp
    rw [h1]
    exact h _ _ _ hW (hI.put hfr ho (hfr.not_of (by rw [hk]; decide)) v (zL _)) h2
   ·obtain ⟨hD, v, h1, h2⟩ := hh
    have h1 := h1 W (hD.out W hW)
    unfold RunsTo at h1
    unfold Oper.wp
    rw [h1]
    exact h _ _ _ hW (hI.put hfr ho (hfr.not_of (by rw [hk]; decide)) v (zL _)) h2
   ·obtain ⟨hD, hst, hM, hK⟩ := hh
    cases hf : fr i with
    | false => exact Oper.wp_of_goes (hM W (hD.out W hW)) fun v W' ⟨⟨hs, hr⟩, hg⟩ => h _ _ W' ⟨hD.grow W W' hW hg, hr⟩ (hI.put hfr ho hf v (Below.size hg)) (hK v hs ⟨W', hD.grow W W' hW hg, hr⟩)
    | true =>
     have hgo := hM W (hD.out W hW)
     obtain ⟨oi, T, z, hoi, hop, hz, -⟩ := hfr.alloc i hf
     obtain rfl : oi = o := Option.some.inj (hoi.symm.trans ho)
     have hr : (execOp a.eval oi).run P W = .ok (.value (.pointer (some ⟨W.heap.size, 0, none⟩))) (W.alloc (.cells z.cells T)) := by
      unfold execOp
      simp only [hop, Instr.alloc, Sem.run_bind, hz, Result.andThen_ok, newVar, newRow, newObj]
      rfl
     unfold Oper.goes at hgo
     rw [hr] at hgo
     obtain ⟨⟨hs, hr2⟩, hg⟩ := hgo
     unfold Oper.wp
     rw [hr]
     exact h _ _ _ ⟨hD.grow W _ hW hg, hr2⟩ (hI.fresh hfr ho hf (W.alloc (.cells z.cells T)) (by simp)) (hK _ hs ⟨_, hD.grow W _ hW hg, hr2⟩)
   ·obtain ⟨S, R, -, hg, hK⟩ := hh
    exact Oper.wp_of_goes (hg hI.1 W hW) fun v W' ⟨⟨hs, hr⟩, hz⟩ => h _ _ W' hr (hI.put hfr ho (hfr.not_of (by rw [hk]; decide)) v hz) (hK v hs ⟨W', hr⟩)
  ·rename_i hw
   rw [if_neg hw] at hh
   exact h _ _ _ hW (hI.put hfr ho (hfr.not_wanted ho (by simpa using hw)) undef (zL _)) hh
theorem wpAny_of_KF {Q : Exit → Act → World → Prop} (hfr : FrOk P ops w kd sp fr) : ∀ (f : Nat) (listed : Array Bool) (a : Act) (D : World → Prop) (W : World), D W → Real ops fr a W → wpAnyKF P md ops w kd sp fr (fun a D => Dist ops fr a → ∀ W, D W → Q .normal a W) f listed a D → wpAny P md ops Q f listed a W
 | 0, _, _, _, _, hW, hI, h => ⟨h.1, h.2 hI.1 _ hW⟩
 | f + 1, _, _, _, _, hW, hI, h => ⟨fun h0 => h.1 h0 hI.1 _ hW, fun i hi => wpOp_of_mOpF hfr hW hI (fun a' D' W' hW' hI' h' => wpAny_of_KF hfr f _ a' D' W' hW' hI' h') (h.2 i hi)⟩
theorem wpAnyK_firstF (hfr : FrOk P ops w kd sp fr) {E : Act → (World → Prop) → Prop} {i : Nat} {oi : Oper} (hi : ops[i]? = some oi) (hsel : ∀ (j : Nat) (o : Oper) cs b, ops[j]? = some o → o.op ≠ .select cs b)
  (hsw : ∀ j, j < ops.size → j ≠ i → swapOk (kd i) (kd j) = false → waitsT md ops 2 j i = true ∨ waitsT md ops 2 i j = true) :
  ∀ (f : Nat) (listed : Array Bool) (a : Act) (D : World → Prop), Ne D → Closed md ops listed →
   (∀ j oj, ops[j]? = some oj → j ≠ i → listed.getD j true = false → (∀ e ∈ oj.after, Region.binds md e = true → e.on ≠ i) → oi.apart ops oj = true) →
   i ∈ Region.ready md ops listed → mOpF P ops w kd sp fr i (wpAnyKF P md ops w kd sp fr E f (listed.setIfInBounds i true)) a D → wpAnyKF P md ops w kd sp fr E (f + 1) listed a D := by
 intro f
 induction f with
 | zero =>
  intro listed a D hne _ _ hr H
  refine ⟨fun h => (by rw [h] at hr; cases hr), fun j hj => ?_⟩
  by_cases hji : j = i
  ·subst hji; exact H
  ·unfold mOpF at H
   rw [hi] at H
   obtain ⟨a', D', -, h0, -⟩ := mStep_someF hne H
   have := ready_mono hj hji
   rw [h0] at this; cases this
 | succ f ih =>
  intro listed a D hne hcl hfree hr H
  refine ⟨fun h => (by rw [h] at hr; cases hr), fun j hj => ?_⟩
  by_cases hji : j = i
  ·subst hji; exact H
  ·obtain ⟨hjun, oj, hoj, hall⟩ := mem_ready.1 hj
   have hun := (mem_ready.1 hr).1
   have hnot : ∀ e ∈ oj.after, Region.binds md e = true → e.on ≠ i := fun e he hb heq => by
    have h1 := hall e he hb
    rw [heq, getD_both hun] at h1
    cases h1
   have hap := hfree j oj hoj hji hjun hnot
   have hswap : swapOk (kd i) (kd j) = true := by
    cases hs : swapOk (kd i) (kd j) with
    | true => rfl
    | false =>
     rcases hsw j (Array.getElem?_eq_some_iff.1 hoj).1 hji hs with h1 | h1
     ·have h2 := waitsT_ready hcl 2 j i hj h1
      rw [getD_both hun] at h2; cases h2
     ·have h2 := waitsT_ready hcl 2 i j hr h1
      rw [getD_both hjun] at h2; cases h2
   have hfree' : ∀ k ok, ops[k]? = some ok → k ≠ i → (listed.setIfInBounds j true).getD k true = false →
     (∀ e ∈ ok.after, Region.binds md e = true → e.on ≠ i) → oi.apart ops ok = true := fun k ok hk hki hun' hno => by
    refine hfree k ok hk hki ?_ hno
    by_cases hjk : j = k
    ·subst hjk; exact hjun
    ·rw [getD_set_ne true hjk] at hun'; exact hun'
   have hri := ready_mono hr (Ne.symm hji)
   unfold mOpF at H
   rw [hi] at H
   have H2 : mStepF P ops w kd sp fr oi i (fun a1 D1 => mStepF P ops w kd sp fr oj j (wpAnyKF P md ops w kd sp fr E f ((listed.setIfInBounds i true).setIfInBounds j true)) a1 D1) a D :=
    mStep_monoF hne (fun a1 D1 _ hK => by
     have := hK.2 j (ready_mono hj hji)
     unfold mOpF at this
     rw [hoj] at this
     exact this) H
   have H3 := mStep_swapF hap (fun cs b => hsel i oi cs b hi) (fun cs b => hsel j oj cs b hoj) hswap hne hfr hi hoj H2
   unfold mOpF
   rw [hoj]
   refine mStep_monoF hne (fun a2 D2 hne2 h3 => ih (listed.setIfInBounds j true) a2 D2 hne2 (hcl.set hj) hfree' hri ?_) H3
   unfold mOpF
   rw [hi, Array.setIfInBounds_comm _ _ hji]
   exact h3
def wpMixF (P : Program) (ops : Array Oper) (w : World) (kd : Nat → Kd) (sp : Nat → Told) (fr : Nat → Bool) (E : Act → (World → Prop) → Prop) : List Oper → Nat → Act → (World → Prop) → Prop
 | [], _, a, D => E a D
 | o :: rest, k, a, D => mStepF P ops w kd sp fr o k (wpMixF P ops w kd sp fr E rest (k + 1)) a D
theorem wpAnyK_lexF (hfr : FrOk P ops w kd sp fr) {E : Act → (World → Prop) → Prop} (hs : Region.noSelect ops = true) (hsw : ∀ i j, i < ops.size → j < ops.size → j ≠ i → swapOk (kd i) (kd j) = false → waitsT md ops 2 j i = true ∨ waitsT md ops 2 i j = true) :
  ∀ (l : List Oper) (k : Nat) (listed : Array Bool) (a : Act) (D : World → Prop), Ne D → Closed md ops listed → (∀ j, l[j]? = ops[k + j]?) →
  Region.lexFrom md ops l.length k listed = true → wpMixF P ops w kd sp fr E l k a D → wpAnyKF P md ops w kd sp fr E l.length listed a D
 | [], _, _, _, _, _, _, _, hB, h => ⟨by simpa [Region.lexFrom] using hB, h⟩
 | o :: l, k, listed, a, D, hne, hcl, hl, hB, h => by
  have h0 : ops[k]? = some o := by simpa using (hl 0).symm
  simp only [zH, Region.lexFrom, Bool.and_eq_true] at hB
  obtain ⟨⟨hr, hf⟩, hB'⟩ := hB
  have hk : k < ops.size := (Array.getElem?_eq_some_iff.1 h0).1
  refine wpAnyK_firstF hfr h0 (Region.noSelect_spec hs) (fun j hjl hj hsw' => hsw k j hk hjl hj hsw') l.length listed a D hne hcl (Region.free_spec h0 hf) (by simpa using hr) ?_
  unfold mOpF
  rw [h0]
  exact mStep_monoF hne (fun a' D' hne' h' => wpAnyK_lexF hfr hs hsw l (k + 1) _ a' D' hne' (hcl.set (by simpa using hr)) (fun j => by have := hl (j + 1); simpa [Nat.add_assoc, Nat.add_comm 1 j] using this) hB' h') h
theorem wp_region_mixedF {id : Nat} {Q : Exit → Act → World → Prop} {a : Act} {w : World} {l : List Oper} (kds : List Kd) (sp : Nat → Told) (fl : List Nat) (hm : P.follows .mixedOrders = true) (hB : mixTB .any l.toArray (fun i => kds.getD i .pure) = true)
  (hd : frDst l.toArray fl = true) (hs0 : frAct l.toArray fl a = true) (hal : ∀ i ∈ fl, ∃ oi T z, l.toArray[i]? = some oi ∧ oi.op = .alloc T ∧ (∀ W, (zeroValue T).run P W = .ok z W) ∧ oi.guard = none ∧ kds.getD i .pure = .make)
  (h : wpMixF P l.toArray w (fun i => kds.getD i .pure) sp (fun i => fl.contains i) (fun a D => Dist l.toArray (fun i => fl.contains i) a → ∀ W, D W → Q .normal a W) l 0 a (Grown w)) : (Code.region id l.toArray true).wp P Q a w := by
 have hfr : FrOk P l.toArray w (fun i => kds.getD i .pure) sp (fun i => fl.contains i) := FrOk.of hd hal
 simp only [mixTB, Bool.and_eq_true] at hB
 obtain ⟨hlex, hall⟩ := hB
 simp only [Region.lexB, Bool.and_eq_true] at hlex
 have hg0 : Grown w { w with drawn := w.drawn + 1 } := (Below.refl _ _).drew
 refine wp_region_any hm (wpAny_of_KF (w := w) (kd := fun i => kds.getD i .pure) (sp := sp) hfr _ _ _ (Grown w) _ hg0 (Real.of hs0 _) ?_)
 have := wpAnyK_lexF (P := P) (md := .any) (w := w) hfr (E := fun a D => Dist l.toArray (fun i => fl.contains i) a → ∀ W, D W → Q .normal a W) hlex.1 (fun i j hi hjl hj hs => by
  have h1 := List.all_eq_true.1 (List.all_eq_true.1 hall i (List.mem_range.2 hi)) j (List.mem_range.2 hjl)
  simp only [Bool.or_eq_true, decide_eq_true_eq] at h1
  rcases h1 with h1 | h1 | h1 | h1
  ·exact absurd h1 hj
  ·rw [hs] at h1; cases h1
  ·exact .inl h1
  ·exact .inr h1) l 0 (Array.replicate l.toArray.size false) a (Grown w) ⟨w, Grown.refl w⟩ (Closed.none _ _ _) (by simp) (by simpa using hlex.2) h
 simpa using this
section
variable {E : Act → (World → Prop) → Prop} {a : Act} {o : Oper} {rest : List Oper} {k : Nat} {D : World → Prop}
theorem mixF_pure (hw : Region.wanted o (yielded ops a.tmps) = true) (hk : kd k = .pure) (hp : valOp o.op = true)
  (h : ∀ K : Act → Prop, (∀ a, wpMixF P ops w kd sp fr E rest (k + 1) a D → K a) → o.quiet P a (fun _ => True) K) : wpMixF P ops w kd sp fr E (o :: rest) k a D := by
 unfold wpMixF mStepF
 rw [if_pos hw, hk]
 obtain ⟨v, h1, h2⟩ := h _ fun _ h => h
 exact ⟨v, fun W => runs_of_quiet hp (h1 W trivial), h2⟩
theorem mixF_held (hw : Region.wanted o (yielded ops a.tmps) = true) (hk : kd k = .held) (hp : valOp o.op = true) (hD : Keeps w D)
  (h : ∀ K : Act → Prop, (∀ a, wpMixF P ops w kd sp fr E rest (k + 1) a D → K a) → o.quiet P a (fun w' => ∃ x : Ext w, w' = x.world) K) : wpMixF P ops w kd sp fr E (o :: rest) k a D := by
 unfold wpMixF mStepF
 rw [if_pos hw, hk]
 obtain ⟨v, h1, h2⟩ := h _ fun _ h => h
 exact ⟨hD, v, fun W hW => runs_of_quiet hp (h1 W ⟨⟨W, hW⟩, rfl⟩), h2⟩
theorem mixF_make (hw : Region.wanted o (yielded ops a.tmps) = true) (hk : kd k = .make) (hD : Keeps w D) (hst : ∀ v W U, (sp k).R v W → Grown W U → (sp k).R v U) (hM : Makes P w o (sp k).S (sp k).R a)
  (h : ∀ v, (sp k).S v → Keeps w (fun W => D W ∧ (sp k).R v W) → Ne (fun W => D W ∧ (sp k).R v W) → wpMixF P ops w kd sp fr E rest (k + 1) (a.put o.dst v) (fun W => D W ∧ (sp k).R v W)) : wpMixF P ops w kd sp fr E (o :: rest) k a D := by
 unfold wpMixF mStepF
 rw [if_pos hw, hk]
 exact ⟨hD, hst, hM, fun v hv hn => h v hv (hD.and (hst v)) hn⟩
theorem mixF_tail (hw : Region.wanted o (yielded ops a.tmps) = true) (hk : kd k = .tail) (hne : Ne D) (T : World → World) (hT : Dist ops fr a → ∀ W, D W → (execOp a.eval o).run P W = .ok .skip (T W)) (hz : ∀ W, W.heap.size ≤ (T W).heap.size)
  (h : wpMixF P ops w kd sp fr E rest (k + 1) (a.put o.dst undef) (fun W' => ∃ W, D W ∧ W' = T W)) : wpMixF P ops w kd sp fr E (o :: rest) k a D := by
 unfold wpMixF mStepF
 rw [if_pos hw, hk]
 refine ⟨fun v => v = undef, fun _ W' => ∃ W, D W ∧ W' = T W, ?_, fun hd W hW => ?_, fun v hv _ => by subst hv; exact h⟩
 ·obtain ⟨W, hW⟩ := hne
  exact ⟨undef, rfl, T W, W, hW, rfl⟩
 ·unfold Oper.goes
  rw [hT hd W hW]
  exact ⟨⟨rfl, W, hW, rfl⟩, hz W⟩
theorem mixF_store (hw : Region.wanted o (yielded ops a.tmps) = true) (hk : kd k = .tail) (hne : Ne D) (ty : TypeId) (x y : Operand) (ho : o.op = .store ty x y)
  (b i : Nat) (cs : Array Value) (hx : a.eval x = .pointer (some ⟨b, i, none⟩)) (hy : a.eval y = .agg cs) (ht : Dist ops fr a → ∀ W, D W → W.there b i cs.size) (hi : (P.info? ty).map (·.size) = some cs.size) (h1 : cs.all (·.oneCell') = true)
  (h : wpMixF P ops w kd sp fr E rest (k + 1) (a.put o.dst undef) (fun W' => ∃ W, D W ∧ W' = W.setCells b i cs.toList)) : wpMixF P ops w kd sp fr E (o :: rest) k a D :=
 mixF_tail hw hk hne (fun W => W.setCells b i cs.toList) (fun hd W hW => by
  unfold execOp
  simp only [ho, hx, hy, Instr.storeAt, Instr.sureAddr, Sem.run_bind, Sem.run_pure, Result.andThen_ok, run_storeVar_mid W b i ty cs (ht hd W hW) hi h1]) (fun W => by rw [setCells_size]; exact zL _) h
theorem mixF_nil (h : E a D) : wpMixF P ops w kd sp fr E [] k a D := h
end
end
def valF (v : Value) : Told := ⟨fun u => u = v, fun _ _ => True⟩
theorem valF_st {v : Value} : ∀ u W U, (valF v).R u W → Grown W U → (valF v).R u U := fun _ _ _ _ _ => trivial
theorem valF_of {P : Program} {f : FuncId} {args : Array Value} {v : Value} {W : World} (h : Calls P f args W fun e w' => e = .returned v ∧ Below W.heap.size W w') : Calls P f args W fun e w' => ∃ u, e = .returned u ∧ ((valF v).S u ∧ (valF v).R u w') ∧ Grown W w' :=
 h.mono fun _ _ ⟨he, hb⟩ => ⟨v, he, ⟨rfl, trivial⟩, hb⟩
def newF (w : World) (T : TypeId) (cs : Array Value) : Told := ⟨fun v => ∃ g, v = .pointer (some ⟨g, 0, none⟩), fun v W => ∀ g, v = .pointer (some ⟨g, 0, none⟩) → w.heap.size ≤ g ∧ Blk W g T cs⟩
theorem newF_st {w : World} {T : TypeId} {cs : Array Value} : ∀ v W U, (newF w T cs).R v W → Grown W U → (newF w T cs).R v U := fun _ _ _ h k g hg => ⟨(h g hg).1, (h g hg).2.on k⟩
theorem newF_makes {P : Program} {w : World} {a : Act} {o : Oper} {T : TypeId} {z : Value} {cs : Array Value} (ho : o.op = .alloc T) (hz : ∀ W, (zeroValue T).run P W = .ok z W) (hc : z.cells = cs) : Makes P w o (newF w T cs).S (newF w T cs).R a := fun W hW => by
 have hr : (execOp a.eval o).run P W = .ok (.value (.pointer (some ⟨W.heap.size, 0, none⟩))) (W.alloc (.cells cs T)) := by
  unfold execOp
  simp only [ho, Instr.alloc, Sem.run_bind, hz, Result.andThen_ok, newVar, newRow, newObj, hc]
  rfl
 unfold Oper.goes
 rw [hr]
 refine ⟨⟨⟨_, rfl⟩, fun g hg => ?_⟩, bAlloc (Below.refl _ _) _⟩
 simp only [Value.pointer.injEq, Option.some.injEq, Addr.mk.injEq, and_true] at hg
 subst hg
 exact ⟨Below.size hW, Blk.new _ _ _⟩
end
section
def evI (e : Ev) : List Int := [e.frame, e.emitter, e.kind, e.ord, e.asset, e.gain, e.pan, e.prio, e.len]
def k9 : List IntKind := [.i64, .i64, .i64, .i64, .i64, .i64, .i64, .i64, .i64]
theorem evI_inj {a b : Ev} (h : evI a = evI b) : a = b := by
 cases a; cases b
 simp only [evI, List.cons.injEq, and_true] at h
 simp [h]
instance : DecidableEq Ev := fun a b => if h : evI a = evI b then isTrue (evI_inj h) else isFalse (fun e => h (by rw [e]))
end
section
structure ToldR where
 S : Value → Prop
 R : Value → World → Prop
 rw_ : Bool
section
variable {P : Program} {ops : Array Oper} {md : Region.Mode} {w : World} {row : Option Nat} {kd : Nat → Kd} {sp : Nat → ToldR}
def nextM (t : ToldR) (m : Nat) : Nat := if t.rw_ then 1 else m
end
end
section
instance : DecidableEq Ev := fun a b => if h : evI a = evI b then isTrue (evI_inj h) else isFalse (fun e => h (by rw [e]))
end
end Go.Proofs.YtibeihcpehikoaaGreat
