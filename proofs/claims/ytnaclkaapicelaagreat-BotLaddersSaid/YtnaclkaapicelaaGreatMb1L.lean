/-
  The walks beneath: PlayP, RgSt, Played, MixS, Match.
-/
import Derived.RangeFuncNested
import Derived.RangeFuncBound
import Derived.RangeFuncCalls
import Derived.RangeFuncLeaves
import Derived.OwnWalkIn
import Derived.Shelf.Abstract
import Derived.Shelf.RegionOpen
import Derived.TacticsInMore
import Derived.LoopNIn
import Derived.LoopIn
import Derived.Outline
import Derived.Great.BuildSlice
import Derived.Test.YtnaclkaapicelaaGreatMa5
import Derived.Test.YtnaclkaapicelaaGreatBot3
import Derived.Test.YtnaclkaapicelaaGreatOwn
import Derived.Test.YtnaclkaapicelaaGreatBot4
import Derived.Test.YtnaclkaapicelaaGreatMa3
import Derived.Test.YtnaclkaapicelaaGreatMRunL
import Derived.Test.YtnaclkaapicelaaGreatEventIns
import Derived.Test.YtnaclkaapicelaaGreatMa4
namespace Go.Proofs.YtnaclkaapicelaaGreat
open Go.RowKit
set_option maxRecDepth 100000
theorem fit32 {n : Int} (h : -2147483648 ≤ n ∧ n ≤ 2147483647) : (Lit.int .i32 n).wf = true := by
  have : IntKind.i32.min ≤ n ∧ n ≤ IntKind.i32.max := h
  simpa [Lit.wf] using this
theorem fit64 {n : Int} (h : -9223372036854775808 ≤ n ∧ n ≤ 9223372036854775807) : (Lit.int .i64 n).wf = true := by
  have : IntKind.i64.min ≤ n ∧ n ≤ IntKind.i64.max := h
  simpa [Lit.wf] using this
theorem fitu32 {n : Int} (h : 0 ≤ n ∧ n ≤ 4294967295) : (Lit.int .u32 n).wf = true := by
  have : IntKind.u32.min ≤ n ∧ n ≤ IntKind.u32.max := h
  simpa [Lit.wf] using this
/-- A state that may be fits its kinds. -/
theorem StM.fit {S : Nat → Int} (h : StM S) : FitS S := fun j hj => by
  by_cases h4 : j < 4
  · have : j = 0 ∨ j = 1 ∨ j = 2 ∨ j = 3 := by omega
    rcases this with rfl | rfl | rfl | rfl
    · exact fit64 (by have := h.fr; omega)
    · exact fitu32 (by have := h.dc; unfold U32 at this; omega)
    · exact fit64 (by have := h.rd; omega)
    · exact fit64 (by have := h.lf; omega)
  · by_cases h24 : j < 24
    · obtain ⟨i, m, rfl, hi, hm⟩ : ∃ i m, j = 4 + i * 10 + m ∧ i < 2 ∧ m < 10 := ⟨(j - 4) / 10, (j - 4) % 10, by omega, by omega, by omega⟩
      have p := h.pl i hi
      rw [kdS_p i m hi hm, show S (4 + i * 10 + m) = getP S i m from rfl]
      have wx := p.wx
      have wy := p.wy
      unfold F32 at wx wy
      have : m = 0 ∨ m = 1 ∨ m = 2 ∨ m = 3 ∨ m = 4 ∨ m = 5 ∨ m = 6 ∨ m = 7 ∨ m = 8 ∨ m = 9 := by omega
      rcases this with rfl | rfl | rfl | rfl | rfl | rfl | rfl | rfl | rfl | rfl
      · exact fit32 (by have := p.ax; omega)
      · exact fit32 (by have := p.ay; omega)
      · exact fit32 (by omega)
      · exact fit32 (by omega)
      · exact fit64 (by have := p.fc; omega)
      · exact fit64 (by have := p.hp; omega)
      · exact fit64 (by have := p.cl; omega)
      · exact fit64 (by have := p.wd; omega)
      · exact fit64 (by have := p.dn; omega)
      · exact fit64 (by have := p.sc; omega)
    · obtain ⟨k, m, rfl, hk, hm⟩ : ∃ k m, j = 24 + k * 6 + m ∧ k < 6 ∧ m < 6 := ⟨(j - 24) / 6, (j - 24) % 6, by omega, by omega, by omega⟩
      have p := h.sh k hk
      rw [kdS_s k m hm, show S (24 + k * 6 + m) = getS S k m from rfl]
      have wx := p.wx
      have wy := p.wy
      unfold F32 at wx wy
      have : m = 0 ∨ m = 1 ∨ m = 2 ∨ m = 3 ∨ m = 4 ∨ m = 5 := by omega
      rcases this with rfl | rfl | rfl | rfl | rfl | rfl
      · exact fit32 (by have := p.ax; omega)
      · exact fit32 (by have := p.ay; omega)
      · exact fit32 (by omega)
      · exact fit32 (by omega)
      · exact fit64 (by have := p.ow; omega)
      · exact fit64 (by have := p.lf; omega)
theorem press_bd (S : Nat → Int) (who skill : Int) : 0 ≤ pressZ S who skill ∧ pressZ S who skill ≤ 63 := by
  unfold pressZ
  split
  · exact pressTo_bd _ _ _
  · omega
/-- One frame: what both press, the next state, its events. -/
def rdM (a b : Int) (S : Nat → Int) : (Nat × Nat) × (Nat → Int) × List Ev := (((pressZ S 0 a).toNat, (pressZ S 1 b).toNat), stepS (pressZ S 0 a).toNat (pressZ S 1 b).toNat S)
/-- The state behind so many frames. -/
def stM (a b : Int) (S : Nat → Int) : Nat → Nat → Int
  | 0 => S
  | k + 1 => (rdM a b (stM a b S k)).2.1
def preM (a b : Int) (S : Nat → Int) (k : Nat) : List ((Nat × Nat) × (Nat → Int) × List Ev) := (List.range k).map fun j => rdM a b (stM a b S j)
theorem preM_succ (a b : Int) (S : Nat → Int) (k : Nat) : preM a b S (k + 1) = preM a b S k ++ [rdM a b (stM a b S k)] := by
  unfold preM
  rw [List.range_succ, List.map_append]; rfl
theorem preM_length (a b : Int) (S : Nat → Int) (k : Nat) : (preM a b S k).length = k := by unfold preM; simp
theorem stM_ok {a b : Int} {S : Nat → Int} (h : StOk S) (h0 : S 0 = 0) (h2 : S 2 = 0) : ∀ k, k ≤ 100000 → StOk (stM a b S k) ∧ stM a b S k 0 = (k : Int) ∧ stM a b S k 2 ≤ (k : Int) ∧ 0 ≤ stM a b S k 2
  | 0, _ => ⟨h, h0, by show S 2 ≤ _; rw [h2]; decide, by show 0 ≤ S 2; rw [h2]; decide⟩
  | k + 1, hk => by
    obtain ⟨k1, k2, k3, k4⟩ := stM_ok h h0 h2 k (by omega)
    obtain ⟨q1, q2, q3, q4, q5⟩ := stepS_ok (pressZ (stM a b S k) 0 a).toNat (pressZ (stM a b S k) 1 b).toNat k1 (by omega) (by omega)
    refine ⟨q1, ?_, ?_, ?_⟩
    · show (stepS _ _ (stM a b S k)).1 0 = _
      rw [q3, k2]; omega
    · show (stepS _ _ (stM a b S k)).1 2 ≤ _
      omega
    · show 0 ≤ (stepS _ _ (stM a b S k)).1 2
      omega
end Go.Proofs.YtnaclkaapicelaaGreat

namespace Go.Proofs.YtnaclkaapicelaaGreat
open Go.RowKit
section
variable {α : Type} {P : Program} {n : Nat}
/-- What an iterator may turn of its own: cells laid since the loop began and ahead of the first round (blocks B to m). -/
def TurnsOwn (B m : Nat) (A : World) (row : Option Nat) : Prop := ∀ r, row = some r → B ≤ r ∧ r < m ∧ ∃ o : Obj, A.heap[r]? = some o ∧ o.isCells = true
/-- The contract of an iterator that keeps state in cells: it yields what Yp allows, at most N times; what has come in the end is told by S. -/
def SeqSt (n : Nat) (P : Program) (gf : Nat) (lb : Array Value) (encs : α → Array Value) (Yp : Nat → List α → α → World → Prop) (Kp : World → World → Prop) (S : List α → Prop) (w0 : World) : Prop :=
  ∀ (l : Nat) (J : Nat → List α → World → Prop) (W : World), Below w0.heap.size w0 W →
    (∀ m pre A A' row, J m pre A → A.grownBy A' row → TurnsOwn W.heap.size m A row → J m pre A') →
    (∀ A, W.grownBy A none → J A.heap.size [] A) →
    (∀ m pre x A, W.heap.size ≤ m → J m pre A → Yp m pre x A → YieldAt Fence.wide (n - 1) P l (encs x) A fun e A' => e = .returned (.bool true) ∧ J m (pre ++ [x]) A' ∧ Kp A A') →
    CallsIn Fence.wide n P gf (#[.func (.yield l) #[] #[]] ++ lb) W fun e A => (∃ v, e = .returned v) ∧ ∃ m xs, W.heap.size ≤ m ∧ S xs ∧ J m xs A
/-- How a round's body is left: it goes on. -/
def goesOn (B : Nat) (Kp : World → World → Prop) (I : List α → World → Prop) (xs : List α) (W : World) : Exit → Act → World → Prop
  | .normal, _, W' => KeepsFrom B W W' ∧ Kp W W' ∧ I xs W'
  | _, _, _ => False
theorem wpIn_rangeFunc_st {g : Operand} {ps : Array Tmp} {assign body : Code} {Q : Exit → Act → World → Prop} {a : Act} {w : World} (h1 : 1 ≤ n) {gf : Nat} {lb : Array Value} (hg : a.eval g = .func (.func gf) #[] lb) (eg : ∀ args w, (callFunc gf args).run P w = .ok (.enter gf args) w)
    {encs : α → Array Value} {Yp : Nat → List α → α → World → Prop} {Kp : World → World → Prop} {S : List α → Prop} (hseq : SeqSt (n - 1) P gf lb encs Yp Kp S w) (hps : ∀ x, (encs x).size = ps.size)
    (hKt : ∀ {A B C : World}, Kp A B → Kp B C → Kp A C) (hKb : ∀ (W : World) (l : Nat) (o o' : Obj), w.heap.size ≤ l → W.heap[l]? = some o → o.isCells = false → Kp W (W.putObj l o'))
    (I : Nat → List α → World → Prop) (hI : ∀ m pre A A' row, I m pre A → A.grownBy A' row → (∀ r, row = some r → w.heap.size ≤ r ∧ ((∃ o : Obj, A.heap[r]? = some o ∧ o.isCells = false) ∨ (r < m ∧ ∃ o : Obj, A.heap[r]? = some o ∧ o.isCells = true))) → I m pre A')
    (h0 : ∀ A, w.grownBy A none → I A.heap.size [] A) (Ax : α → Act → World → Prop) (hAx : ∀ x a' A l o o', Ax x a' A → w.heap.size ≤ l → A.heap[l]? = some o → o.isCells = false → Ax x a' (A.putObj l o'))
    (hassign : ∀ (l m : Nat) (pre : List α) (x : α) (W : World) (K : Act → World → Prop), w.heap.size ≤ m → I m pre W → Yp m pre x W → (∀ a' W', KeepsFrom w.heap.size W W' → Kp W W' → I m pre W' → Yp m pre x W' → Ax x a' W' → K a' W') →
      assign.wpIn (Fence.wide.inRound l) (n - 1 - 1) P (Exit.then K (fun _ _ _ => False)) { tmps := (ps.zip (encs x)).foldl (fun t (p, v) => t.setIfInBounds p v) a.tmps, defers := [] } W)
    (hYp : ∀ m pre x A l o o', Yp m pre x A → w.heap.size ≤ l → A.heap[l]? = some o → o.isCells = false → Yp m pre x (A.putObj l o'))
    (hbody : ∀ (l m : Nat) (pre : List α) (x : α) (a' : Act) (W : World), w.heap.size ≤ m → I m pre W → Yp m pre x W → Ax x a' W → body.wpIn (Fence.wide.inRound l) (n - 1 - 1) P (goesOn w.heap.size Kp (I m) (pre ++ [x]) W) a' W)
    (hdone : ∀ (D m : Nat) (xs : List α) (W : World), w.heap.size ≤ D → S xs → I m xs W → W.heap[D]? = some (.deferred (some [])) → Q .normal { a with defers := { target := .collected D, args := #[] } :: a.defers } W) :
    (Code.rangeFunc g ps assign body).wpIn Fence.wide n P Q a w := by
  refine wpIn_rangeFunc fun fn _ => ?_
  obtain ⟨rc, hrc⟩ : ∃ rc : LoopState → Loop, rc = fun st => { state := st, pending := none, fn := fn, tmps := a.tmps, params := ps, assign := assign, body := body, defers := w.heap.size } := ⟨_, rfl⟩
  obtain ⟨V, hV⟩ : ∃ V, (w.alloc (.deferred (some []))).alloc (.loop (rc .ready)) = V := ⟨_, rfl⟩
  have hz : V.heap.size = w.heap.size + 2 := by rw [← hV]; simp
  have hgV : w.grownBy V none := by rw [← hV]; exact (World.grownBy_alloc w _ none).trans (World.grownBy_alloc _ _ none)
  have hbV : Below w.heap.size w V := by rw [← hV]; exact (((Below.refl _ w).alloc (Nat.le_refl _) _).alloc (by simp) _)
  have hl0 : V.heap[w.heap.size + 1]? = some (.loop (rc .ready)) := by
    rw [← hV]
    have := World.alloc_heap_new (w.alloc (.deferred (some []))) (.loop (rc .ready))
    rwa [World.size_alloc] at this
  have hd0 : V.heap[w.heap.size]? = some (.deferred (some [])) := by
    rw [← hV]
    exact (Below.heap_alloc _ _ _ (by simp)).trans (World.alloc_heap_new w _)
  refine ⟨w.heap.size + 1, [{ target := .collected w.heap.size, args := #[] }], V, { target := .fn (.func gf) lb, args := #[.func (.yield (w.heap.size + 1)) #[] #[]] }, V, gf, #[.func (.yield (w.heap.size + 1)) #[] #[]] ++ lb, V, ?_, ?_, fun _ _ => trivial, ?_, fun _ => h1, ?_⟩
  · rw [← hV, hrc]; exact run_enterLoop_outer _ _ _ _ _
  · simp only [resolve, hg]
    simp [go_sem]
  · simp [invoke, go_sem, eg]
  · refine (hseq (w.heap.size + 1) (fun m pre W => I m pre W ∧ W.heap[w.heap.size + 1]? = some (.loop (rc .ready)) ∧ W.heap[w.heap.size]? = some (.deferred (some []))) V hbV ?_ ?_ ?_).mono ?_
    · -- it abides growth and the iterator's own turns
      rintro m pre A A' row ⟨hi, hl, hd⟩ hgr hrow
      have hne : ∀ (k : Nat) (o : Obj), A.heap[k]? = some o → o.isCells = false → A'.heap[k]? = some o := fun k o hk ho => by
        rw [hgr.block k (Array.getElem?_eq_some_iff.1 hk).1 (fun e => by
          obtain ⟨-, -, o', ho', hc⟩ := hrow k e.symm
          rw [hk] at ho'; cases ho'; rw [ho] at hc; cases hc)]
        exact hk
      refine ⟨hI m pre A A' row hi hgr (fun r e => ?_), hne _ _ hl rfl, hne _ _ hd rfl⟩
      obtain ⟨q1, q2, q3⟩ := hrow r e
      exact ⟨by omega, .inr ⟨q2, q3⟩⟩
    · -- ahead of the first round
      intro A hA
      refine ⟨h0 A (hgV.trans hA), ?_, ?_⟩
      · rw [hA.block _ (by omega) (by simp)]; exact hl0
      · rw [hA.block _ (by omega) (by simp)]; exact hd0
    · -- one round
      rintro m pre x A hm ⟨hi, hl, hd⟩ hyp
      have hy := run_yield (P := P) (args := encs x) hl (by rw [hrc]; exact hps x)
      rw [hrc] at hy
      refine ⟨fn, _, assign, body, hy, roundIn_of_wpIn trivial (hassign _ m pre x A _ (by omega) hi hyp ?_)⟩
      intro a' B hkf hkp hib hyb hax
      have hlB := hkf.same _ _ (by omega) hl rfl
      have hdB := hkf.same _ _ (Nat.le_refl _) hd rfl
      have hltB : w.heap.size + 1 < B.heap.size := (Array.getElem?_eq_some_iff.1 hlB).1
      refine ⟨_, run_beginRound hlB (by rw [hrc]), ?_⟩
      have hput : ∀ (C : World) (o o' : Obj), C.heap[w.heap.size + 1]? = some o → o.isCells = false → ∀ m pre, I m pre C → I m pre (C.putObj (w.heap.size + 1) o') := fun C o o' hC ho m pre h =>
        hI m pre C _ _ h (grownBy_putObj' C (w.heap.size + 1) o') (fun r e => by cases e; exact ⟨by omega, .inl ⟨o, hC, ho⟩⟩)
      obtain ⟨C, hC⟩ : ∃ C, B.putObj (w.heap.size + 1) (.loop { rc .ready with state := .busy }) = C := ⟨_, rfl⟩
      have hlC : C.heap[w.heap.size + 1]? = some (.loop { rc .ready with state := .busy }) := by rw [← hC]; exact World.putObj_heap_same hltB
      have hdC : C.heap[w.heap.size]? = some (.deferred (some [])) := by rw [← hC]; exact (World.putObj_heap_other (by omega)).trans hdB
      have hKC : Kp B C := by rw [← hC]; exact hKb _ _ _ _ (by omega) hlB rfl
      have hiC : I m pre C := by rw [← hC]; exact hput B _ _ hlB rfl m pre hib
      have hyC : Yp m pre x C := by rw [← hC]; exact hYp _ _ _ _ _ _ _ hyb (by omega) hlB rfl
      have haC : Ax x a' C := by rw [← hC]; exact hAx _ _ _ _ _ _ hax (by omega) hlB rfl
      rw [hC]
      refine wpIn_mono (hbody (w.heap.size + 1) m pre x a' C (by omega) hiC hyC haC) ?_
      intro e a3 E hp
      cases e with
      | normal =>
        obtain ⟨hkE, hkpE, hiE⟩ := hp
        have hlE := hkE.same _ _ (by omega) hlC rfl
        have hdE := hkE.same _ _ (Nat.le_refl _) hdC rfl
        have hltE : w.heap.size + 1 < E.heap.size := (Array.getElem?_eq_some_iff.1 hlE).1
        have hr := run_endRound (P := P) none hlE
        rw [hrc] at hr hlE
        refine ⟨_, _, hr, rfl, ⟨?_, ?_, ?_⟩, ?_⟩
        · exact hput E _ _ hlE rfl m _ hiE
        · rw [hrc]; exact World.putObj_heap_same hltE
        · exact (World.putObj_heap_other (by omega)).trans hdE
        · exact hKt hkp (hKt hKC (hKt hkpE (hKb _ _ _ _ (by omega) hlE rfl)))
      | ret => exact hp.elim
      | exit id => exact hp.elim
      | goto t => exact hp.elim
      | panic ch => exact hp.elim
      | outgrown => exact hp.elim
    · -- behind the iterator
      rintro e A ⟨⟨v, rfl⟩, m, xs, hm, hS, hi, hl, hd⟩
      have hlt : w.heap.size + 1 < A.heap.size := (Array.getElem?_eq_some_iff.1 hl).1
      have hr := run_endLoop (P := P) hl (by rw [hrc]; simp)
      rw [hrc] at hr
      refine ⟨none, _, hr, hdone w.heap.size m xs _ (Nat.le_refl _) hS ?_ ((World.putObj_heap_other (by omega)).trans hd)⟩
      exact hI m xs A _ _ hi (grownBy_putObj' A (w.heap.size + 1) _) (fun r e => by cases e; exact ⟨by omega, .inl ⟨_, hl, rfl⟩⟩)
/-! ### a region of a round's body, by the plain laws -/
theorem oper_round {l : Nat} {o : Oper} {a : Act} {w : World} {K : Act → World → Prop} {Q : Exit → Act → World → Prop} (hd : ∀ c, o.op ≠ .defer c) (h : o.wp P a w K Q) : o.wpIn (Fence.wide.inRound l) n P a w K Q := by
  refine ⟨fun _ _ => trivial, ?_⟩
  rw [Oper.semAt_plain _ _ _ hd]
  unfold Oper.wp at h
  generalize (execOp a.eval o).run P w = r at h
  cases r with
  | ok x w' =>
    cases x with
    | value v => exact h
    | skip => exact h
    | defer d => exact h
    | enter f args => exact ⟨fun e => (by cases e), callsIn_wide.2 h⟩
    | row row args => exact ⟨fun e => (by cases e), fun c cs _ => let ⟨v, w', r, s⟩ := h c cs; ⟨v, w', r, stepsIn_wide.2 s⟩⟩
    | _ => exact h.elim
  | halt x w' =>
    cases x with
    | panic v => exact h
    | _ => exact h.elim
def noDefer (ops : Array Oper) : Bool := ops.all fun o => match o.op with | .defer _ => false | _ => true
theorem noDefer_at {ops : Array Oper} (h : noDefer ops = true) {i : Nat} {o : Oper} (ho : ops[i]? = some o) : ∀ c, o.op ≠ .defer c := fun c e => by
  have := Array.all_eq_true_iff_forall_mem.1 h o (Array.mem_of_getElem? ho)
  rw [e] at this; cases this
theorem op_round {l : Nat} {ops : Array Oper} {i : Nat} {a : Act} {w : World} {K : Act → World → Prop} {Q : Exit → Act → World → Prop} (hd : noDefer ops = true) (hno : ¬ LetsOut Q) (h : wpOp P ops Q i K a w) : wpOpIn (Fence.wide.inRound l) n P ops Q i K a w := by
  unfold wpOp at h
  unfold wpOpIn
  cases ho : ops[i]? with
  | none => rw [ho] at h; exact h
  | some o =>
    rw [ho] at h
    simp only at h ⊢
    by_cases hw : Region.wanted o (yielded ops a.tmps) = true
    · rw [if_pos hw] at h ⊢
      rcases h with h | ⟨-, h⟩
      · exact oper_round (noDefer_at hd ho) h
      · exact absurd h hno
    · rw [if_neg hw] at h ⊢
      exact ⟨fun _ _ => trivial, h⟩
theorem any_round {l : Nat} {ops : Array Oper} {md : Region.Mode} {Q : Exit → Act → World → Prop} (hd : noDefer ops = true) (hno : ¬ LetsOut Q) : ∀ (f : Nat) (listed : Array Bool) (a : Act) (w : World), wpAny P md ops Q f listed a w → wpAnyIn (Fence.wide.inRound l) n P md ops Q f listed a w
  | 0, _, _, _, h => h
  | f + 1, _, _, _, h => ⟨h.1, fun i hi => by
    have := op_round (l := l) (n := n) hd hno (h.2 i hi)
    exact wpOpIn_mono (fun a w => any_round hd hno f _ a w) this⟩
/-- **A region that draws its order, in a round.** -/
theorem wp_region_round {l id : Nat} {ops : Array Oper} {Q : Exit → Act → World → Prop} {a : Act} {w : World} (hm : P.follows .mixedOrders = true) (hd : noDefer ops = true) (hno : ¬ LetsOut Q)
    (h : wpAny P .any ops Q ops.size (Array.replicate ops.size false) a { w with drawn := w.drawn + 1 }) : (Code.region id ops true).wpIn (Fence.wide.inRound l) n P Q a w :=
  wpIn_region_any hm (any_round hd hno _ _ _ _ h)
end
end Go.Proofs.YtnaclkaapicelaaGreat

namespace Go.Proofs.YtnaclkaapicelaaGreat
open Go.RowKit Go.Shelf
attribute [local go_sem] Oper.semAt_some
set_option maxRecDepth 100000
set_option linter.unusedSimpArgs false
/-- What is yielded in a round. -/
structure Rnd where
  x : Nat
  y : Nat
  T : Nat → Int
  L : List Ev
  A : Option Addr
  c : Nat
def Rnd.g2 (r : Rnd) : List Value := stCells r.T ++ [.slice r.A r.L.length r.c]
def Rnd.encs (r : Rnd) : Array Value := #[.agg #[.int .u8 r.x, .int .u8 r.y], .agg r.g2.toArray]
def Rnd.core (r : Rnd) : (Nat × Nat) × (Nat → Int) × List Ev := ((r.x, r.y), r.T, r.L)
def YpM (N : Nat) (pre : List Rnd) (r : Rnd) (A : World) : Prop := OwnL A 0 65 9 (.slice r.A r.L.length r.c) Ev.cells r.L ∧ r.L.length ≤ 22 ∧ pre.length < N
/-- Blocks of other types than the rows', and not the caller's boxes, lie as they lay. -/
def KpX (X : Nat → Prop) (A B : World) : Prop := A.heap.size ≤ B.heap.size ∧ ∀ r t cs, Blk A r t cs → t ≠ 65 → t ≠ 34 → ¬ X r → Blk B r t cs
theorem grown_of {A B : World} (h : Below A.heap.size A B) : A.grownBy B none := ⟨h.os, h.tape, h.output, h.size, fun k hk _ => h.block k hk⟩
theorem grownBy_setCells (w : World) (g o : Nat) (vs : List Value) : w.grownBy (w.setCells g o vs) (some g) :=
  ⟨(setCells_rest w g vs o).1, (setCells_rest w g vs o).2.1, (setCells_rest w g vs o).2.2, by rw [setCells_size]; exact Nat.le_refl _, fun k _ hne => setCells_block w g vs o k (fun e => hne (by rw [e]))⟩
theorem built_g2 (T : Nat → Int) (A : Option Addr) (n c : Nat) : Tryz.prog.built 102 [(0, .agg (stCells T).toArray), (1, .slice A n c)] = some (stCells T ++ [Value.slice A n c]).toArray := by
  have hu : ∃ z, (Tryz.prog.info? 102).bind (·.zero) = some z ∧ z.cells.size = 61 := by
    cases h : (Tryz.prog.info? 102).bind (·.zero) with
    | none =>
      have : ((Tryz.prog.info? 102).bind (·.zero)).isSome = true := by kernel_rfl
      rw [h] at this; cases this
    | some z =>
      have : ((Tryz.prog.info? 102).bind (·.zero)).map (·.cells.size) = some 61 := by kernel_rfl
      rw [h] at this
      exact ⟨z, rfl, by simpa using this⟩
  obtain ⟨z, hz, hs⟩ := hu
  rw [built_struct (places := [(0, 60), (60, 1)]) Tryz.underlying102 hz (by kernel_rfl)]
  exact fill_two _ _ (stCells T) [.slice A n c] _ _ rfl rfl (by rw [stCells_length]; rfl) (by rw [stCells_length]; rfl) (by rw [hs, stCells_length]; rfl)
/-- A value known, in a fence. -/
theorem wpListIn_runs {F : Fence} {n : Nat} {P : Program} {ops : Array Oper} {rest : List Oper} {o : Oper} {a : Act} {w : World} {Q : Exit → Act → World → Prop} (v : Value) (hw : Region.wanted o (yielded ops a.tmps) = true) (hd : ∀ c, o.op ≠ .defer c) (ha : o.about P w a.eval = none) (hr : RunsTo P o a w v) (h : wpListIn F n P ops Q rest (a.put o.dst v) w) : wpListIn F n P ops Q (o :: rest) a w := by
  unfold wpListIn
  rw [if_pos hw]
  refine ⟨fun f hf => (by rw [ha] at hf; cases hf), ?_⟩
  rw [Oper.semAt_plain _ _ _ hd]
  unfold RunsTo at hr
  rw [hr]
  exact h
theorem runs_load {P : Program} {o : Oper} {a : Act} {w : World} (ty : TypeId) (x : Operand) (ho : o.op = .load ty x) (b i : Nat) (hx : a.eval x = .pointer (some ⟨b, i, none⟩)) (cs : List Value) (d : TypeDesc) (hc : w.rangeAt b i cs) (hu : P.underlying ty = some d) (hd : d.isRow = true) (hi : (P.info? ty).map (·.size) = some cs.length) : RunsTo P o a w (.agg cs.toArray) := by
  unfold RunsTo execOp
  simp only [ho, hx, Instr.loadAt, Instr.sureAddr, Sem.run_bind, Sem.run_pure, Result.andThen_ok, run_loadVar_mid w b i ty cs d hc hu hd hi]
/-- A store of many cells, in a fence. -/
theorem wpListIn_store {F : Fence} {n : Nat} {P : Program} {ops : Array Oper} {rest : List Oper} {o : Oper} {a : Act} {w : World} {Q : Exit → Act → World → Prop} (hw : Region.wanted o (yielded ops a.tmps) = true) (ha : o.about P w a.eval = none) (ty : TypeId) (x y : Operand) (ho : o.op = .store ty x y) (b i : Nat) (cs : Array Value) (hx : a.eval x = .pointer (some ⟨b, i, none⟩)) (hy : a.eval y = .agg cs) (ht : w.there b i cs.size) (hi : (P.info? ty).map (·.size) = some cs.size) (h1 : cs.all (·.oneCell') = true)
    (h : wpListIn F n P ops Q rest (a.put o.dst undef) (w.setCells b i cs.toList)) : wpListIn F n P ops Q (o :: rest) a w := by
  unfold wpListIn
  rw [if_pos hw]
  refine ⟨fun f hf => (by rw [ha] at hf; cases hf), ?_⟩
  rw [Oper.semAt_plain _ _ _ (by rw [ho]; intro c e; cases e)]
  have hr : (execOp a.eval o).run P w = .ok .skip (w.setCells b i cs.toList) := by
    unfold execOp
    simp only [ho, hx, hy, Instr.storeAt, Instr.sureAddr, Sem.run_bind, Sem.run_pure, Result.andThen_ok, run_storeVar_mid w b i ty cs ht hi h1]
  rw [hr]
  exact h
/-- A call of yield: what comes of the round goes on. -/
theorem wpListIn_yield {F : Fence} {n : Nat} {P : Program} {ops : Array Oper} {rest : List Oper} {o : Oper} {a : Act} {w w' : World} {Q : Exit → Act → World → Prop} {l : Nat} {fn : FuncId} {tms : Array Value} {assign body : Code} {v : Value} {R : World → Prop}
    (hw : Region.wanted o (yielded ops a.tmps) = true) (hd : ∀ c, o.op ≠ .defer c) (ha : o.about P w a.eval = none) (hr : (execOp a.eval o).run P w = .ok (.round l fn tms assign body) w') (hn : F.depth.isSome = true → 1 ≤ n)
    (hR : RoundIn F (n - 1) P l fn tms assign body w' fun e A => e = .returned v ∧ R A) (h : ∀ A, R A → wpListIn F n P ops Q rest (a.put o.dst v) A) : wpListIn F n P ops Q (o :: rest) a w := by
  unfold wpListIn
  rw [if_pos hw]
  refine ⟨fun f hf => (by rw [ha] at hf; cases hf), ?_⟩
  rw [Oper.semAt_plain _ _ _ hd, hr]
  refine ⟨hn, hR.mono ?_⟩
  rintro e A ⟨rfl, hA⟩
  exact h A hA
theorem runs_yield {P : Program} {o : Oper} {a : Act} {w w' : World} {c : Call} {l : Nat} {r : Next} (g : Operand) (args : List Operand) (ho : o.op = .call c) (hc : c.callee = .value g) (hg : a.eval g = .func (.yield l) #[] #[]) (ha : c.args = args.toArray) {vs : Array Value} (hy : (Instr.yield l vs).run P w = .ok r w') (hv : (args.map a.eval).toArray = vs := by rfl) : (execOp a.eval o).run P w = .ok r w' := by
  subst hv
  unfold execOp
  simp only [ho, resolve, hc, hg, ha]
  simp [Deferred.ofValue, invoke, go_sem]
  simpa using hy
theorem zero_pb (W : World) : (zeroValue 34).run Tryz.prog W = .ok (.agg #[.int .u8 0, .int .u8 0]) W := by kernel_rfl
theorem built_pb (x y : Int) : Tryz.prog.built 34 [(0, .int .u8 x), (1, .int .u8 y)] = some #[.int .u8 x, .int .u8 y] := by kernel_rfl
set_option maxHeartbeats 16000000 in
theorem played_seq (n : Nat) (hn : 1 ≤ n) (seed a b : Int) (N : Nat) (X : Nat → Prop) (w : World) (bs bf bk : Nat) (hs : U32 seed) (hN : N ≤ 5000) (h1 : Blk w bs 22 #[.int .u32 seed]) (h2 : Blk w bf 3 #[.int .i64 N]) (h3 : Blk w bk 100 #[.int .i64 a, .int .i64 b]) (hx : ∀ r, X r → r < w.heap.size ∧ r ≠ bs ∧ r ≠ bf ∧ r ≠ bk) :
    SeqSt n Tryz.prog 97 #[.pointer (some ⟨bs, 0, none⟩), .pointer (some ⟨bf, 0, none⟩), .pointer (some ⟨bk, 0, none⟩)] Rnd.encs (fun _ => YpM N) (KpX X) (fun xs => xs.map Rnd.core = preM a b (beginS seed) N) w := by
  intro l J W hW hJ hJ0 hY
  have HJ := Lib.hid hJ
  have HJ0 := Lib.hid hJ0
  have HY := Lib.hid hY
  have HOK := Lib.hid (begin_ok hs)
  obtain ⟨T0, hT0⟩ : ∃ T0, beginS seed = T0 := ⟨_, rfl⟩
  have hbeg := fun V => gBegin_any seed V
  have hz : T0 0 = 0 ∧ T0 2 = 0 := by rw [← hT0]; exact ⟨rfl, rfl⟩
  rw [hT0] at hbeg HOK ⊢
  obtain ⟨C0, hC0⟩ : ∃ C0 : Array Value, (stCells T0).toArray = C0 := ⟨_, rfl⟩
  rw [hC0] at hbeg
  have hsz : C0.size = 60 := by rw [← hC0, List.size_toArray, stCells_length]
  have H1C : Hid (C0.all (·.oneCell') = true) := Lib.hid (by rw [← hC0]; exact all_oneCell_toArray (int_one _))
  have HSZ : Hid ((Tryz.prog.info? 33).map (·.size) = some C0.size) := Lib.hid (by rw [hsz]; kernel_rfl)
  have HSI := Lib.hid hsz
  have HC0 := Lib.hid hC0
  have HBEG := Lib.hid hbeg
  have HZ := Lib.hid hz
  have B1 := Lib.hid (h1.on hW)
  have B2 := Lib.hid (h2.on hW)
  have B3 := Lib.hid (h3.on hW)
  have hwW := hW.size
  have c1 := B1.out.cell 0
  simp only [List.getElem?_toArray, List.getElem?_cons_zero] at c1
  have l1 := B1.out.lt
  clear hJ hJ0 hY hbeg hsz hC0 hT0 hz
  refine callsIn_of_wp Tryz.func97 rfl trivial ?_ rfl
  simp only [Tryz.ntmps97, List.size_toArray, List.length_cons, List.length_nil, Nat.reduceAdd, Nat.reduceSub, Array.replicate_succ, Array.replicate_zero, List.push_toArray, List.append_toArray, List.nil_append, List.cons_append]
  refine wpIn_wide.2 ?_
  go_upto_region 1 with (first
    | (go_at_call 11; refine (HBEG.out _).mono ?_; rintro e w3 ⟨rfl, hb3⟩; have HB3 := Lib.hid hb3; clear hb3)
    | (refine wpList_store_mid rfl 33 (.tmp 5) (.tmp 11) rfl w3.heap.size 0 C0 rfl rfl (there_new _ _ _ (by rw [HSI.out]; rfl)) HSZ.out H1C.out ?_))
  refine named_put (F := fun W => Code.wp _ _ _ _ W) (by rw [Array.length_toList, HSI.out]; rfl) ?_
  intro w4 hk4 hb4 hz4
  rw [Array.toArray_toList, ← HC0.out] at hk4
  have hb40 := bTrans HB3.out hb4
  have hg4 := hk4.lt
  have hge4 : W.heap.size ≤ w3.heap.size := HB3.out.size
  obtain ⟨gs, hgs⟩ : ∃ gs, w3.heap.size = gs := ⟨_, rfl⟩
  rw [hgs] at hk4 hg4 hge4 ⊢
  have HS4 := Lib.hid hk4
  have HB4 := Lib.hid hb40
  have HJ4 := Lib.hid (HJ0.out w4 (grown_of hb40))
  have c2 := (B2.out.on hb40).cell 0
  simp only [List.getElem?_toArray, List.getElem?_cons_zero] at c2
  have l2 := (B2.out.on hb40).lt
  clear hk4 hb4 hz4 hb40 hgs HB3 HBEG H1C HSZ HJ0 c1 l1
  go_wp2_with fail
  obtain ⟨m, hm⟩ : ∃ m, w4.heap.size = m := ⟨_, rfl⟩
  rw [hm] at HJ4 hg4
  have hWm : W.heap.size ≤ m := by omega
  go_loopw [13] (fun v wr => ∃ (k : Nat) (pre : List Rnd), k ≤ N ∧ v = .int .i64 k ∧ Hid (pre.map Rnd.core = preM a b T0 k) ∧ Hid (J m pre wr) ∧ Hid (Blk wr gs 33 (stCells (stM a b T0 k)).toArray) ∧ Hid (Blk wr bk 100 #[.int .i64 a, .int .i64 b]) ∧ m ≤ wr.heap.size) (fun v _ => N - (intOf v).toNat)
  case atStart => exact ⟨0, [], Nat.zero_le _, rfl, Lib.hid rfl, HJ4, HS4, Lib.hid (B3.out.on HB4.out), by omega⟩
  case round =>
  obtain ⟨k, pre, hk, rfl, HP, HJK, HS, HK, hmr⟩ := hrel
  clear HS4 HB4 HJ4 c2 l2 hm
  by_cases hlt : k < N
  · as_aux_lemma =>
    obtain ⟨q1, q2, q3, q4⟩ := stM_ok (a := a) (b := b) HOK.out HZ.out.1 HZ.out.2 k (by omega)
    have hsucc : stM a b T0 (k + 1) = (rdM a b (stM a b T0 k)).2.1 := rfl
    have hpsucc := preM_succ a b T0 k
    obtain ⟨S, hS⟩ : ∃ S, stM a b T0 k = S := ⟨_, rfl⟩
    rw [hS] at q1 q2 q3 q4 hsucc hpsucc HS
    have hx0 := press_bd S 0 a
    have hy0 := press_bd S 1 b
    obtain ⟨x, hxn⟩ := Int.eq_ofNat_of_zero_le hx0.1
    obtain ⟨y, hyn⟩ := Int.eq_ofNat_of_zero_le hy0.1
    obtain ⟨T', L', hTL⟩ : ∃ T' L', stepS x y S = (T', L') := ⟨_, _, rfl⟩
    have hrd : rdM a b S = ((x, y), T', L') := by
      unfold rdM
      rw [hxn, hyn]
      show ((x, y), stepS x y S) = _
      rw [hTL]
    rw [hrd] at hsucc hpsucc
    have hl22 : L'.length ≤ 22 := by
      have := (stepS_ok x y q1 (by omega) (by omega)).2.1
      rw [hTL] at this; exact this
    have hpr0 := fun V => press_any S V 0 a q1.m.fit
    have hpr1 := fun V => press_any S V 1 b q1.m.fit
    rw [hxn] at hpr0
    rw [hyn] at hpr1
    have hstp := fun V => gStep_yes (w := V) q1 (by omega) (show x < 64 by omega) (show y < 64 by omega)
    simp only [hTL] at hstp
    obtain ⟨j, hj⟩ : ∃ j, L'.length = j := ⟨_, rfl⟩
    simp only [hj] at hstp
    obtain ⟨C1, hC1⟩ : ∃ C1 : Array Value, (stCells T').toArray = C1 := ⟨_, rfl⟩
    rw [hC1] at hstp
    have hsz1 : C1.size = 60 := by rw [← hC1, List.size_toArray, stCells_length]
    have H1C : Hid (C1.all (·.oneCell') = true) := Lib.hid (by rw [← hC1]; exact all_oneCell_toArray (int_one _))
    have HSZ : Hid ((Tryz.prog.info? 33).map (·.size) = some C1.size) := Lib.hid (by rw [hsz1]; kernel_rfl)
    have HS1 := Lib.hid hsz1
    have HC1 := Lib.hid hC1
    have HPR0 : Hid (∀ V, Calls Tryz.prog 46 #[.agg (stCells S).toArray, .int .i64 0, .int .i64 a] V fun e w' => e = .returned (.int .u8 (x : Int)) ∧ Below V.heap.size V w') := Lib.hid hpr0
    have HPR1 : Hid (∀ V, Calls Tryz.prog 46 #[.agg (stCells S).toArray, .int .i64 1, .int .i64 b] V fun e w' => e = .returned (.int .u8 (y : Int)) ∧ Below V.heap.size V w') := Lib.hid hpr1
    have HST := Lib.hid hstp
    have HTN : Hid (stM a b T0 (k + 1) = T') := Lib.hid hsucc
    have HPN : Hid (preM a b T0 (k + 1) = preM a b T0 k ++ [((x, y), T', L')]) := Lib.hid hpsucc
    have HJL := Lib.hid hj
    have HL22 := Lib.hid hl22
    have hpl : pre.length = k := by
      have := congrArg List.length HP.out
      rwa [List.length_map, preM_length] at this
    have p0 := HK.out.cell 0
    have p1 := HK.out.cell 1
    simp only [List.getElem?_toArray, List.getElem?_cons_zero, List.getElem?_cons_succ] at p0 p1
    have hlk := HK.out.lt
    have hlg := HS.out.lt
    clear q1 q2 q3 q4 hsucc hpsucc hS hx0 hy0 hxn hyn hTL hrd hl22 hpr0 hpr1 hstp hj hC1 hsz1 HOK HZ
    go_upto_region 3 with fail
    have hKp := Keeps.base wr
    refine wp_region_mixedT [.held, .pure, .held, .make, .held, .pure, .held, .make, .pure, .make, .tail] (fun | 3 => valF (.int .u8 (x : Int)) | 7 => valF (.int .u8 (y : Int)) | _ => newTold wr 34 #[.int .u8 0, .int .u8 0]) (by kernel_rfl) (by kernel_rfl) ?_
    refine mix_load rfl rfl (by assumption) 33 (.tmp 5) rfl gs 0 rfl (stCells S) _ hlg (Blk.range HS.out) Tryz.underlying33 rfl (by kernel_rfl) ?_
    simp only [Act.put, List.setIfInBounds_toArray, List.set_cons_zero, List.set_cons_succ]
    repeat (first | (refine mix_pure rfl rfl rfl (fun K hK => ?_); go_big_quiet_op; refine hK _ ?_; clear hK K) | (refine mix_held rfl rfl rfl (by assumption) (fun K hK => ?_); go_big_quiet_op; refine hK _ ?_; clear hK K))
    refine mix_make rfl rfl (by assumption) valF_st (fun V hV => ?_) ?_
    · have HS2 := Lib.hid (valF_of (HPR0.out V))
      go_simp
      exact HS2.out
    rintro _ rfl hKp2
    simp only [Act.put, List.setIfInBounds_toArray, List.set_cons_zero, List.set_cons_succ]
    refine mix_load rfl rfl (by assumption) 33 (.tmp 5) rfl gs 0 rfl (stCells S) _ hlg (Blk.range HS.out) Tryz.underlying33 rfl (by kernel_rfl) ?_
    simp only [Act.put, List.setIfInBounds_toArray, List.set_cons_zero, List.set_cons_succ]
    repeat (first | (refine mix_pure rfl rfl rfl (fun K hK => ?_); go_big_quiet_op; refine hK _ ?_; clear hK K) | (refine mix_held rfl rfl rfl (by assumption) (fun K hK => ?_); go_big_quiet_op; refine hK _ ?_; clear hK K))
    refine mix_make rfl rfl (by assumption) valF_st (fun V hV => ?_) ?_
    · have HS2 := Lib.hid (valF_of (HPR1.out V))
      go_simp
      exact HS2.out
    rintro _ rfl hKp3
    simp only [Act.put, List.setIfInBounds_toArray, List.set_cons_zero, List.set_cons_succ]
    refine mix_built rfl rfl 34 [(0, .tmp 18), (1, .tmp 22)] rfl _ _ rfl (built_pb x y) ?_
    simp only [Act.put, List.setIfInBounds_toArray, List.set_cons_zero, List.set_cons_succ]
    refine mix_make rfl rfl (by assumption) newTold_st (newTold_makes rfl zero_pb rfl) ?_
    rintro v ⟨g6, rfl⟩ hKp4
    simp only [Act.put, List.setIfInBounds_toArray, List.set_cons_zero, List.set_cons_succ]
    refine mix_store rfl rfl 34 (.tmp 6) (.tmp 23) rfl g6 0 #[.int .u8 (x : Int), .int .u8 (y : Int)] rfl rfl (fun V hV => ?_) (by kernel_rfl) (by simp [Value.oneCell']) ?_
    · exact Blk.there (hV.2 g6 rfl).2 (by show 0 + 2 ≤ 2; decide)
    simp only [Act.put, List.setIfInBounds_toArray, List.set_cons_zero, List.set_cons_succ]
    refine mix_nil ?_
    rintro V' ⟨V, hD, rfl⟩
    obtain ⟨⟨⟨hg, -⟩, -⟩, hR⟩ := hD
    obtain ⟨hge, hBg⟩ := hR g6 rfl
    have hg : Grown wr V := hg
    have hn6 := hBg.whole [.int .u8 (x : Int), .int .u8 (y : Int)] rfl
    have hs6 := (HS.out.on hg).farC (show gs ≠ g6 by omega) 0 [.int .u8 (x : Int), .int .u8 (y : Int)]
    have hk6 := (HK.out.on hg).farC (show bk ≠ g6 by omega) 0 [.int .u8 (x : Int), .int .u8 (y : Int)]
    have hb6 := bSetCells hg hge 0 [.int .u8 (x : Int), .int .u8 (y : Int)]
    obtain ⟨w6, hw6⟩ : ∃ w6, V.setCells g6 0 [.int .u8 (x : Int), .int .u8 (y : Int)] = w6 := ⟨_, rfl⟩
    rw [hw6] at hn6 hs6 hk6 hb6
    first | rw [hw6] | (show Exit.then _ _ _ _ (V.setCells g6 0 [.int .u8 (x : Int), .int .u8 (y : Int)]); rw [hw6])
    have HN6 := Lib.hid hn6
    have HS6 := Lib.hid hs6
    have HK6 := Lib.hid hk6
    have HJ6 := Lib.hid (HJ.out m pre wr w6 none HJK.out (grown_of hb6) (fun r e => by cases e))
    have hmr6 : m ≤ w6.heap.size := Nat.le_trans hmr (Below.size hb6)
    have hgm6 : m ≤ g6 := by omega
    clear hw6 hn6 hs6 hk6 hb6 hg hge hBg hR hKp hKp2 hKp3 hKp4 HPR0 HPR1 HS HK HJK p0 p1 hlk hlg hmr
    have q0 := HN6.out.cell 0
    have q1 := HN6.out.cell 1
    simp only [List.getElem?_toArray, List.getElem?_cons_zero, List.getElem?_cons_succ] at q0 q1
    have hl6 := HN6.out.lt
    have hlg6 := HS6.out.lt
    go_upto_region 5 with (first
      | (refine wpList_load_mid rfl 33 (.tmp 5) rfl gs 0 rfl (stCells S) _ (Blk.range HS6.out) Tryz.underlying33 rfl (by kernel_rfl) ?_)
      | (go_at_call 8; refine (HST.out _).mono ?_; rintro e w7 ⟨AN, cN, rfl, ho7, hb7⟩; have HO7 := Lib.hid ho7; have HB7 := Lib.hid hb7; clear ho7 hb7)
      | (refine wpList_store_mid rfl 33 (.tmp 7) (.tmp 28) rfl w7.heap.size 0 C1 rfl rfl (there_new _ _ _ (by rw [HS1.out]; rfl)) HSZ.out H1C.out ?_))
    refine named_put (F := fun W => Code.wp _ _ _ _ W) (by rw [Array.length_toList, HS1.out]; rfl) ?_
    intro w8 hk8 hb8 hz8
    rw [Array.toArray_toList, ← HC1.out] at hk8
    have hb68 := bTrans HB7.out hb8
    have HJ8 := Lib.hid (HJ.out m pre w6 w8 none HJ6.out (grown_of hb68) (fun r e => by cases e))
    have HN8 := Lib.hid (HN6.out.on hb68)
    have HS8 := Lib.hid (HS6.out.on hb68)
    have HK8 := Lib.hid (HK6.out.on hb68)
    have HO8 := Lib.hid (HO7.out.below hb8)
    have HG8 := Lib.hid hk8
    have hl8 := hk8.lt
    have hgm8 : m ≤ w7.heap.size := Nat.le_trans hmr6 HB7.out.size
    obtain ⟨g7, hg7⟩ : ∃ g7, w7.heap.size = g7 := ⟨_, rfl⟩
    rw [hg7] at HG8 hl8 hgm8 ⊢
    clear hk8 hb8 hz8 hb68 hg7 HB7 HO7 HN6 HS6 HK6 HJ6 HST H1C HSZ q0 q1 hl6 hlg6
    have q0 := HN8.out.cell 0
    have q1 := HN8.out.cell 1
    simp only [List.getElem?_toArray, List.getElem?_cons_zero, List.getElem?_cons_succ] at q0 q1
    have hl6 := HN8.out.lt
    obtain ⟨G, hG⟩ : ∃ G : Array Value, (stCells T' ++ [Value.slice AN j cN]).toArray = G := ⟨_, rfl⟩
    have hbt := built_g2 T' AN j cN
    rw [hG] at hbt
    have HBT := Lib.hid hbt
    obtain ⟨fn, tmps, assign, body, hy, hR⟩ := HY.out m pre ⟨x, y, T', L', AN, cN⟩ w8 hWm HJ8.out ⟨by have := HO8.out.more (Nat.zero_le _); rw [← HJL.out] at this; exact this, HL22.out, by rw [hpl]; exact hlt⟩
    unfold Rnd.encs Rnd.g2 at hy
    dsimp only at hy
    rw [HJL.out, hG] at hy
    clear hbt hG
    refine (wpIn_wide (n := n)).1 ?_
    apply wpIn_region_lit
    refine wpListIn_runs (.int .i64 0) rfl (by intro c h; cases h) rfl rfl ?_
    simp only [Act.put, List.setIfInBounds_toArray, List.set_cons_zero, List.set_cons_succ]
    refine wpListIn_runs (.bool false) rfl (by intro c h; cases h) rfl rfl ?_
    simp only [Act.put, List.setIfInBounds_toArray, List.set_cons_zero, List.set_cons_succ]
    refine wpListIn_runs (.bool false) rfl (by intro c h; cases h) rfl rfl ?_
    simp only [Act.put, List.setIfInBounds_toArray, List.set_cons_zero, List.set_cons_succ]
    refine wpListIn_runs (.func (.yield l) #[] #[]) rfl (by intro c h; cases h) rfl rfl ?_
    simp only [Act.put, List.setIfInBounds_toArray, List.set_cons_zero, List.set_cons_succ]
    refine wpListIn_runs (.agg #[.int .u8 x, .int .u8 y]) rfl (by intro c h; cases h) rfl (runs_load 34 (.tmp 6) rfl g6 0 rfl [.int .u8 x, .int .u8 y] _ (Blk.range HN8.out) Tryz.underlying34 rfl (by kernel_rfl)) ?_
    simp only [Act.put, List.setIfInBounds_toArray, List.set_cons_zero, List.set_cons_succ]
    refine wpListIn_runs (.agg (stCells T').toArray) rfl (by intro c h; cases h) rfl (runs_load 33 (.tmp 7) rfl g7 0 rfl (stCells T') _ (Blk.range HG8.out) Tryz.underlying33 rfl (by kernel_rfl)) ?_
    simp only [Act.put, List.setIfInBounds_toArray, List.set_cons_zero, List.set_cons_succ]
    refine wpListIn_runs (.slice AN j cN) rfl (by intro c h; cases h) rfl rfl ?_
    simp only [Act.put, List.setIfInBounds_toArray, List.set_cons_zero, List.set_cons_succ]
    refine wpListIn_runs (.agg G) ?_ ?_ ?_ ?_ ?_
    · rfl
    · intro c h; cases h
    · rfl
    · exact runs_built 102 [(0, .tmp 36), (1, .tmp 37)] rfl G [(0, .agg (stCells T').toArray), (1, .slice AN j cN)] rfl HBT.out w8
    simp only [Act.put, List.setIfInBounds_toArray, List.set_cons_zero, List.set_cons_succ]
    refine wpListIn_yield (l := l) (fn := fn) (tms := tmps) (assign := assign) (body := body) (v := .bool true) ?_ ?_ ?_ ?_ (fun _ => hn) hR ?_
    · rfl
    · intro c h; cases h
    · rfl
    · exact runs_yield (.tmp 34) [.tmp 35, .tmp 38] rfl rfl rfl rfl hy
    rintro w9 ⟨hJ9, hk9⟩
    simp only [Act.put, List.setIfInBounds_toArray, List.set_cons_zero, List.set_cons_succ]
    refine wpListIn_runs (.bool false) rfl (by intro c h; cases h) rfl rfl ?_
    simp only [Act.put, List.setIfInBounds_toArray, List.set_cons_zero, List.set_cons_succ]
    refine wpListIn_runs (.bool false) rfl (by intro c h; cases h) rfl rfl ?_
    simp only [Act.put, List.setIfInBounds_toArray, List.set_cons_zero, List.set_cons_succ]
    refine wpListIn_nil ?_
    go_upto_region 6 with fail
    obtain ⟨hz9, hk9⟩ := hk9
    have hG9 := hk9 g7 _ _ HG8.out (by decide) (by decide) (fun e => by have := (hx _ e).1; omega)
    have hS9 := hk9 gs _ _ HS8.out (by decide) (by decide) (fun e => by have := (hx _ e).1; omega)
    have hK9 := hk9 bk _ _ HK8.out (by decide) (by decide) (fun e => (hx _ e).2.2.2 rfl)
    have HI := Lib.hid (int_one T')
    obtain ⟨CL, hCL⟩ : ∃ CL, stCells T' = CL := ⟨_, rfl⟩
    have hlen : CL.length = 60 := by rw [← hCL, stCells_length]
    rw [hCL] at hG9 HI
    have hone := all_oneCell_toArray HI.out
    have hsz9 : (Tryz.prog.info? 33).map (·.size) = some CL.toArray.size := by rw [List.size_toArray, hlen]; kernel_rfl
    have hlg9 := hG9.lt
    have hls9 := hS9.lt
    apply wp_region_lit
    refine wpList_load_mid rfl 33 (.tmp 7) rfl g7 0 rfl CL _ (Blk.range hG9) Tryz.underlying33 rfl (by rw [hlen]; kernel_rfl) ?_
    simp only [Act.put, List.setIfInBounds_toArray, List.set_cons_zero, List.set_cons_succ]
    refine wpList_store_mid rfl 33 (.tmp 5) (.tmp 42) rfl gs 0 CL.toArray rfl rfl (Blk.there hS9 (by rw [List.size_toArray, List.size_toArray, stCells_length, hlen]; decide)) hsz9 hone ?_
    have hne9 : bk ≠ gs := by have := h3.lt; omega
    have hS10 : Blk (w9.setCells gs 0 CL.toArray.toList) gs 33 CL.toArray := hS9.whole CL (by rw [List.size_toArray, stCells_length, hlen])
    have hK10 : Blk (w9.setCells gs 0 CL.toArray.toList) bk 100 #[.int .i64 a, .int .i64 b] := hK9.farC hne9 0 CL
    have hJ10 := HJ.out m _ w9 (w9.setCells gs 0 CL.toArray.toList) (some gs) hJ9 (grownBy_setCells _ _ _ _) (fun r e => by cases e; exact ⟨hge4, hg4, _, hS9, rfl⟩)
    have hz10 : m ≤ (w9.setCells gs 0 CL.toArray.toList).heap.size := by rw [setCells_size]; omega
    obtain ⟨w10, hw10⟩ : ∃ w10, w9.setCells gs 0 CL.toArray.toList = w10 := ⟨_, rfl⟩
    rw [hw10] at hS10 hK10 hJ10 hz10 ⊢
    simp only [Act.put, List.setIfInBounds_toArray, List.set_cons_zero, List.set_cons_succ]
    refine wpList_nil ?_
    clear hw10 hG9 hS9 hK9 hone hsz9 hlg9 hls9 HG8 HS8 HK8 HO8 HN8 hk9
    go_wp2_with fail
    go_roundw
    · refine ⟨k + 1, pre ++ [⟨x, y, T', L', AN, cN⟩], by omega, by push_cast; rfl, Lib.hid ?_, Lib.hid hJ10, Lib.hid ?_, Lib.hid hK10, hz10⟩
      · rw [List.map_append, HP.out, HPN.out]; rfl
      · rw [HTN.out, hCL]; exact hS10
    · have e1 : intOf (Value.int .i64 ((k : Int) + 1)) = (k : Int) + 1 := rfl
      have e2 : intOf (Value.int .i64 (k : Int)) = (k : Int) := rfl
      rw [e1, e2]; omega
  · have hkN : k = N := by omega
    rw [hkN] at HP
    go_wp2_with fail
    go_end0
    exact ⟨⟨_, rfl⟩, m, pre, hWm, HP.out, HJK.out⟩
end Go.Proofs.YtnaclkaapicelaaGreat

namespace Go.Proofs.YtnaclkaapicelaaGreat
open Go.RowKit
/-- A world come of w: of the blocks that were there none but those of X may have turned. -/
structure ComeX (X : Nat → Prop) (w W : World) : Prop where
  os : W.os = w.os
  tape : W.tape = w.tape
  output : W.output = w.output
  size : w.heap.size ≤ W.heap.size
  block : ∀ k, k < w.heap.size → ¬ X k → W.heap[k]? = w.heap[k]?
theorem ComeX.refl (X : Nat → Prop) (w : World) : ComeX X w w := ⟨rfl, rfl, rfl, Nat.le_refl _, fun _ _ _ => rfl⟩
theorem ComeX.trans {X : Nat → Prop} {w W U : World} (h : ComeX X w W) (k : ComeX X W U) : ComeX X w U :=
  ⟨k.os.trans h.os, k.tape.trans h.tape, k.output.trans h.output, Nat.le_trans h.size k.size, fun i hi hx => (k.block i (Nat.lt_of_lt_of_le hi h.size) hx).trans (h.block i hi hx)⟩
theorem ComeX.grown {X : Nat → Prop} {w W U : World} {row : Option Nat} (h : ComeX X w W) (k : W.grownBy U row) (hr : ∀ r, row = some r → r < w.heap.size → X r) : ComeX X w U :=
  ⟨k.os.trans h.os, k.tape.trans h.tape, k.output.trans h.output, Nat.le_trans h.size k.size, fun i hi hx => (k.block i (Nat.lt_of_lt_of_le hi h.size) (fun e => hx (hr i e.symm hi))).trans (h.block i hi hx)⟩
theorem ComeX.below {X : Nat → Prop} {w W U : World} (h : ComeX X w W) (k : Below W.heap.size W U) : ComeX X w U :=
  ⟨k.os.trans h.os, k.tape.trans h.tape, k.output.trans h.output, Nat.le_trans h.size k.size, fun i hi hx => (k.block i (Nat.lt_of_lt_of_le hi h.size)).trans (h.block i hi hx)⟩
theorem ComeX.cell {X : Nat → Prop} {w W : World} (h : ComeX X w W) {b o : Nat} (hb : b < w.heap.size) (hx : ¬ X b) : W.cell? ⟨b, o, none⟩ = w.cell? ⟨b, o, none⟩ := by
  unfold World.cell?
  rw [h.block b hb hx]
theorem ComeX.of_grown (X : Nat → Prop) {w W : World} (h : Grown w W) : ComeX X w W := (ComeX.refl X w).below h
theorem ComeX.blk {X : Nat → Prop} {w W : World} (h : ComeX X w W) {b : Nat} {t : TypeId} {cs : Array Value} (k : Blk w b t cs) (hx : ¬ X b) : Blk W b t cs := (h.block b k.lt hx).trans k
section
variable {P : Program} {ops : Array Oper} {md : Region.Mode} {X : Nat → Prop} {w : World} {kd : Nat → Kd}
def msStep (P : Program) (ops : Array Oper) (X : Nat → Prop) (w : World) (kd : Nat → Kd) (o : Oper) (i : Nat) (K : Act → (World → Prop) → Prop) (a : Act) (D : World → Prop) : Prop :=
  if Region.wanted o (yielded ops a.tmps) = true then
    match kd i with
    | .pure => ∃ v, (∀ W, RunsTo P o a W v) ∧ K (a.put o.dst v) D
    | .held => (∀ W, D W → ComeX X w W) ∧ ∃ v, (∀ W, ComeX X w W → RunsTo P o a W v) ∧ K (a.put o.dst v) D
    | .make => (∀ W, D W → ComeX X w W) ∧ ∃ (S : Value → Prop) (R : Value → World → Prop), (∀ W, D W → Oper.goes P o a W (fun u W' => (S u ∧ R u W') ∧ ComeX X W W')) ∧ ∀ v, S v → Ne (fun W => R v W ∧ ComeX X w W) → K (a.put o.dst v) (fun W => R v W ∧ ComeX X w W)
    | .tail => ∃ (S : Value → Prop) (R : Value → World → Prop), (∀ W, D W → Oper.goes P o a W (fun u W' => S u ∧ R u W')) ∧ ∀ v, S v → Ne (R v) → K (a.put o.dst v) (R v)
  else K (a.put o.dst undef) D
def msOp (P : Program) (ops : Array Oper) (X : Nat → Prop) (w : World) (kd : Nat → Kd) (i : Nat) (K : Act → (World → Prop) → Prop) (a : Act) (D : World → Prop) : Prop :=
  match ops[i]? with
  | none => K a D
  | some o => msStep P ops X w kd o i K a D
theorem msStep_mono {o : Oper} {i : Nat} {a : Act} {D : World → Prop} {K K' : Act → (World → Prop) → Prop} (hne : Ne D) (h : ∀ a D, Ne D → K a D → K' a D) (hh : msStep P ops X w kd o i K a D) : msStep P ops X w kd o i K' a D := by
  unfold msStep at *
  split
  · rename_i hw
    rw [if_pos hw] at hh
    cases hk : kd i <;> rw [hk] at hh <;> simp only at hh ⊢
    · obtain ⟨v, h1, h2⟩ := hh; exact ⟨v, h1, h _ _ hne h2⟩
    · obtain ⟨h0, v, h1, h2⟩ := hh; exact ⟨h0, v, h1, h _ _ hne h2⟩
    · obtain ⟨h0, S, R, h1, h2⟩ := hh; exact ⟨h0, S, R, h1, fun v hv hn => h _ _ hn (h2 v hv hn)⟩
    · obtain ⟨S, R, h1, h2⟩ := hh; exact ⟨S, R, h1, fun v hv hn => h _ _ hn (h2 v hv hn)⟩
  · rename_i hw; rw [if_neg hw] at hh; exact h _ _ hne hh
theorem msOp_mono {i : Nat} {a : Act} {D : World → Prop} {K K' : Act → (World → Prop) → Prop} (hne : Ne D) (h : ∀ a D, Ne D → K a D → K' a D) (hh : msOp P ops X w kd i K a D) : msOp P ops X w kd i K' a D := by
  unfold msOp at *
  split
  · rename_i ho; simp only [ho] at hh; exact h _ _ hne hh
  · rename_i o ho; simp only [ho] at hh; exact msStep_mono hne h hh
theorem msStep_some {o : Oper} {i : Nat} {a : Act} {D : World → Prop} {K : Act → (World → Prop) → Prop} (hne : Ne D) (hh : msStep P ops X w kd o i K a D) : ∃ a' D', Ne D' ∧ K a' D' := by
  unfold msStep at hh
  split at hh
  · cases hk : kd i <;> rw [hk] at hh <;> simp only at hh
    · obtain ⟨v, -, h2⟩ := hh; exact ⟨_, _, hne, h2⟩
    · obtain ⟨-, v, -, h2⟩ := hh; exact ⟨_, _, hne, h2⟩
    · obtain ⟨h0, S, R, h1, h2⟩ := hh
      obtain ⟨W, hW⟩ := hne
      obtain ⟨v, W', ⟨hs, hr⟩, hg⟩ := goes_some (h1 W hW)
      have hn : Ne (fun W => R v W ∧ ComeX X w W) := ⟨W', hr, (h0 W hW).trans hg⟩
      exact ⟨_, _, hn, h2 v hs hn⟩
    · obtain ⟨S, R, h1, h2⟩ := hh
      obtain ⟨W, hW⟩ := hne
      obtain ⟨v, W', hs, hr⟩ := goes_some (h1 W hW)
      exact ⟨_, _, ⟨W', hr⟩, h2 v hs ⟨W', hr⟩⟩
  · exact ⟨_, _, hne, hh⟩
/-- Which kinds may come in either order. -/
def swapS (a b : Kd) : Bool := match a, b with
  | .pure, _ => true
  | _, .pure => true
  | .tail, _ => false
  | _, .tail => false
  | .make, .make => false
  | _, _ => true
theorem msStep_swap {i j : Nat} {oi oj : Oper} (hap : oi.apart ops oj = true) (hsi : ∀ cs b, oi.op ≠ .select cs b) (hsj : ∀ cs b, oj.op ≠ .select cs b) (hk : swapS (kd i) (kd j) = true) {K : Act → (World → Prop) → Prop} {a : Act} {D : World → Prop} (hne : Ne D)
    (h : msStep P ops X w kd oi i (fun a1 D1 => msStep P ops X w kd oj j K a1 D1) a D) : msStep P ops X w kd oj j (fun a2 D2 => msStep P ops X w kd oi i K a2 D2) a D := by
  obtain ⟨h1, h2, h3⟩ := Oper.apart_spec hap
  have ei : ∀ (a : Act) u, execOp (a.put oj.dst u).eval oi = execOp a.eval oi := fun a u => execOp_put oi hsi a oj.dst u h3
  have ej : ∀ (a : Act) u, execOp (a.put oi.dst u).eval oj = execOp a.eval oj := fun a u => execOp_put oj hsj a oi.dst u h1
  have wi : ∀ (a : Act) u, Region.wanted oi (yielded ops (a.put oj.dst u).tmps) = Region.wanted oi (yielded ops a.tmps) := fun a u => wanted_put oi a oj.dst u h3
  have wj : ∀ (a : Act) u, Region.wanted oj (yielded ops (a.put oi.dst u).tmps) = Region.wanted oj (yielded ops a.tmps) := fun a u => wanted_put oj a oi.dst u h1
  have pc : ∀ (a : Act) u v, (a.put oi.dst u).put oj.dst v = (a.put oj.dst v).put oi.dst u := fun a u v => Act.put_comm a u v h2
  have ri : ∀ (a : Act) u W v, RunsTo P oi (a.put oj.dst u) W v ↔ RunsTo P oi a W v := fun a u W v => by unfold RunsTo; rw [ei]
  have rj : ∀ (a : Act) u W v, RunsTo P oj (a.put oi.dst u) W v ↔ RunsTo P oj a W v := fun a u W v => by unfold RunsTo; rw [ej]
  have gi : ∀ (a : Act) u W T, Oper.goes P oi (a.put oj.dst u) W T ↔ Oper.goes P oi a W T := fun a u W T => by unfold Oper.goes; rw [ei]
  have gj : ∀ (a : Act) u W T, Oper.goes P oj (a.put oi.dst u) W T ↔ Oper.goes P oj a W T := fun a u W T => by unfold Oper.goes; rw [ej]
  unfold msStep at h ⊢
  simp only [wi, wj, ri, rj, gi, gj] at h ⊢
  by_cases hwi : Region.wanted oi (yielded ops a.tmps) = true
  · by_cases hwj : Region.wanted oj (yielded ops a.tmps) = true
    · simp only [hwi, hwj, if_true] at h ⊢
      cases hki : kd i <;> cases hkj : kd j <;> rw [hki, hkj] at hk <;> simp only [hki, hkj] at h ⊢
      case tail.tail => simp [swapS] at hk
      case tail.held => simp [swapS] at hk
      case tail.make => simp [swapS] at hk
      case held.tail => simp [swapS] at hk
      case make.tail => simp [swapS] at hk
      case make.make => simp [swapS] at hk
      case pure.pure =>
        obtain ⟨v, hv, u, hu, hK⟩ := h
        exact ⟨u, hu, v, hv, by rw [← pc]; exact hK⟩
      case pure.held =>
        obtain ⟨v, hv, hD, u, hu, hK⟩ := h
        exact ⟨hD, u, hu, v, hv, by rw [← pc]; exact hK⟩
      case pure.make =>
        obtain ⟨v, hv, hD, S, R, hM, hK⟩ := h
        exact ⟨hD, S, R, hM, fun u hu hn => ⟨v, hv, by rw [← pc]; exact hK u hu hn⟩⟩
      case pure.tail =>
        obtain ⟨v, hv, S, R, hg, hK⟩ := h
        exact ⟨S, R, hg, fun u hu hn => ⟨v, hv, by rw [← pc]; exact hK u hu hn⟩⟩
      case held.pure =>
        obtain ⟨hD, v, hv, u, hu, hK⟩ := h
        exact ⟨u, hu, hD, v, hv, by rw [← pc]; exact hK⟩
      case held.held =>
        obtain ⟨hD, v, hv, -, u, hu, hK⟩ := h
        exact ⟨hD, u, hu, hD, v, hv, by rw [← pc]; exact hK⟩
      case held.make =>
        obtain ⟨hD, v, hv, -, S, R, hM, hK⟩ := h
        exact ⟨hD, S, R, hM, fun u hu hn => ⟨fun W hW => hW.2, v, hv, by rw [← pc]; exact hK u hu hn⟩⟩
      case make.pure =>
        obtain ⟨hD, S, R, hM, hK⟩ := h
        obtain ⟨W, hW⟩ := hne
        obtain ⟨v0, W', ⟨hs0, hr0⟩, hg0⟩ := goes_some (hM W hW)
        obtain ⟨u, hu, -⟩ := hK v0 hs0 ⟨W', hr0, (hD W hW).trans hg0⟩
        refine ⟨u, hu, hD, S, R, hM, fun v hv hn => ?_⟩
        obtain ⟨u', hu', hK'⟩ := hK v hv hn
        have : u' = u := runsTo_uniq (hu' W) (hu W)
        subst this
        rw [← pc]; exact hK'
      case make.held =>
        obtain ⟨hD, S, R, hM, hK⟩ := h
        obtain ⟨W, hW⟩ := hne
        obtain ⟨v0, W', ⟨hs0, hr0⟩, hg0⟩ := goes_some (hM W hW)
        obtain ⟨-, u, hu, -⟩ := hK v0 hs0 ⟨W', hr0, (hD W hW).trans hg0⟩
        refine ⟨hD, u, hu, hD, S, R, hM, fun v hv hn => ?_⟩
        obtain ⟨-, u', hu', hK'⟩ := hK v hv hn
        have : u' = u := runsTo_uniq (hu' w (ComeX.refl X w)) (hu w (ComeX.refl X w))
        subst this
        rw [← pc]; exact hK'
      case tail.pure =>
        obtain ⟨S, R, hg, hK⟩ := h
        obtain ⟨W, hW⟩ := hne
        obtain ⟨v0, W', hs0, hr0⟩ := goes_some (hg W hW)
        obtain ⟨u, hu, -⟩ := hK v0 hs0 ⟨W', hr0⟩
        refine ⟨u, hu, S, R, hg, fun v hv hn => ?_⟩
        obtain ⟨u', hu', hK'⟩ := hK v hv hn
        have : u' = u := runsTo_uniq (hu' W) (hu W)
        subst this
        rw [← pc]; exact hK'
    · simp only [hwi, hwj, if_true, Bool.false_eq_true, if_false] at h ⊢
      cases hki : kd i <;> simp only [hki] at h ⊢
      · obtain ⟨v, hv, hK⟩ := h; exact ⟨v, hv, by rw [← pc]; exact hK⟩
      · obtain ⟨hD, v, hv, hK⟩ := h; exact ⟨hD, v, hv, by rw [← pc]; exact hK⟩
      · obtain ⟨hD, S, R, hM, hK⟩ := h; exact ⟨hD, S, R, hM, fun v hv hn => by rw [← pc]; exact hK v hv hn⟩
      · obtain ⟨S, R, hg, hK⟩ := h; exact ⟨S, R, hg, fun v hv hn => by rw [← pc]; exact hK v hv hn⟩
  · by_cases hwj : Region.wanted oj (yielded ops a.tmps) = true
    · simp only [hwi, hwj, if_true, Bool.false_eq_true, if_false] at h ⊢
      cases hkj : kd j <;> simp only [hkj] at h ⊢
      · obtain ⟨v, hv, hK⟩ := h; exact ⟨v, hv, by rw [← pc]; exact hK⟩
      · obtain ⟨hD, v, hv, hK⟩ := h; exact ⟨hD, v, hv, by rw [← pc]; exact hK⟩
      · obtain ⟨hD, S, R, hM, hK⟩ := h; exact ⟨hD, S, R, hM, fun v hv hn => by rw [← pc]; exact hK v hv hn⟩
      · obtain ⟨S, R, hg, hK⟩ := h; exact ⟨S, R, hg, fun v hv hn => by rw [← pc]; exact hK v hv hn⟩
    · simp only [hwi, hwj, Bool.false_eq_true, if_false] at h ⊢
      rw [← pc]; exact h
def wpAnyS (P : Program) (md : Region.Mode) (ops : Array Oper) (X : Nat → Prop) (w : World) (kd : Nat → Kd) (E : Act → (World → Prop) → Prop) : Nat → Array Bool → Act → (World → Prop) → Prop
  | 0, listed, a, D => Region.ready md ops listed = [] ∧ E a D
  | f + 1, listed, a, D => (Region.ready md ops listed = [] → E a D) ∧ ∀ i ∈ Region.ready md ops listed, msOp P ops X w kd i (wpAnyS P md ops X w kd E f (listed.setIfInBounds i true)) a D
theorem wpOp_of_msOp {i : Nat} {a : Act} {D : World → Prop} {K : Act → (World → Prop) → Prop} {K' : Act → World → Prop} {Q' : Exit → Act → World → Prop} {W : World} (hW : D W)
    (h : ∀ a D W', D W' → K a D → K' a W') (hh : msOp P ops X w kd i K a D) : wpOp P ops Q' i K' a W := by
  unfold msOp at hh
  unfold wpOp
  split
  · rename_i ho; simp only [ho] at hh; exact h _ _ _ hW hh
  · rename_i o ho
    simp only [ho] at hh
    unfold msStep at hh
    split
    · rename_i hw
      rw [if_pos hw] at hh
      left
      cases hk : kd i <;> rw [hk] at hh <;> simp only at hh
      · obtain ⟨v, h1, h2⟩ := hh
        have h1 := h1 W
        unfold RunsTo at h1
        unfold Oper.wp
        rw [h1]
        exact h _ _ _ hW h2
      · obtain ⟨hD, v, h1, h2⟩ := hh
        have h1 := h1 W (hD W hW)
        unfold RunsTo at h1
        unfold Oper.wp
        rw [h1]
        exact h _ _ _ hW h2
      · obtain ⟨hD, S, R, hM, hK⟩ := hh
        exact Oper.wp_of_goes (hM W hW) fun v W' ⟨⟨hs, hr⟩, hg⟩ => h _ _ W' ⟨hr, (hD W hW).trans hg⟩ (hK v hs ⟨W', hr, (hD W hW).trans hg⟩)
      · obtain ⟨S, R, hg, hK⟩ := hh
        exact Oper.wp_of_goes (hg W hW) fun v W' ⟨hs, hr⟩ => h _ _ W' hr (hK v hs ⟨W', hr⟩)
    · rename_i hw; rw [if_neg hw] at hh; exact h _ _ _ hW hh
theorem wpAny_of_S {Q : Exit → Act → World → Prop} : ∀ (f : Nat) (listed : Array Bool) (a : Act) (D : World → Prop) (W : World), D W → wpAnyS P md ops X w kd (fun a D => ∀ W, D W → Q .normal a W) f listed a D → wpAny P md ops Q f listed a W
  | 0, _, _, _, _, hW, h => ⟨h.1, h.2 _ hW⟩
  | f + 1, _, _, _, _, hW, h => ⟨fun h0 => h.1 h0 _ hW, fun i hi => wpOp_of_msOp hW (fun a' D' W' hW' h' => wpAny_of_S f _ a' D' W' hW' h') (h.2 i hi)⟩
theorem wpAnyS_first {E : Act → (World → Prop) → Prop} {i : Nat} {oi : Oper} (hi : ops[i]? = some oi) (hsel : ∀ (j : Nat) (o : Oper) cs b, ops[j]? = some o → o.op ≠ .select cs b)
    (hsw : ∀ j, j < ops.size → j ≠ i → swapS (kd i) (kd j) = false → waitsT md ops 3 j i = true ∨ waitsT md ops 3 i j = true) :
    ∀ (f : Nat) (listed : Array Bool) (a : Act) (D : World → Prop), Ne D → Closed md ops listed →
      (∀ j oj, ops[j]? = some oj → j ≠ i → listed.getD j true = false → (∀ e ∈ oj.after, Region.binds md e = true → e.on ≠ i) → oi.apart ops oj = true) →
      i ∈ Region.ready md ops listed → msOp P ops X w kd i (wpAnyS P md ops X w kd E f (listed.setIfInBounds i true)) a D → wpAnyS P md ops X w kd E (f + 1) listed a D := by
  intro f
  induction f with
  | zero =>
    intro listed a D hne _ _ hr H
    refine ⟨fun h => (by rw [h] at hr; cases hr), fun j hj => ?_⟩
    by_cases hji : j = i
    · subst hji; exact H
    · unfold msOp at H
      rw [hi] at H
      obtain ⟨a', D', -, h0, -⟩ := msStep_some hne H
      have := ready_mono hj hji
      rw [h0] at this; cases this
  | succ f ih =>
    intro listed a D hne hcl hfree hr H
    refine ⟨fun h => (by rw [h] at hr; cases hr), fun j hj => ?_⟩
    by_cases hji : j = i
    · subst hji; exact H
    · obtain ⟨hjun, oj, hoj, hall⟩ := mem_ready.1 hj
      have hun := (mem_ready.1 hr).1
      have hnot : ∀ e ∈ oj.after, Region.binds md e = true → e.on ≠ i := fun e he hb heq => by
        have h1 := hall e he hb
        rw [heq, getD_both hun] at h1
        cases h1
      have hap := hfree j oj hoj hji hjun hnot
      have hswap : swapS (kd i) (kd j) = true := by
        cases hs : swapS (kd i) (kd j) with
        | true => rfl
        | false =>
          rcases hsw j (Array.getElem?_eq_some_iff.1 hoj).1 hji hs with h1 | h1
          · have h2 := waitsT_ready hcl 3 j i hj h1
            rw [getD_both hun] at h2; cases h2
          · have h2 := waitsT_ready hcl 3 i j hr h1
            rw [getD_both hjun] at h2; cases h2
      have hfree' : ∀ k ok, ops[k]? = some ok → k ≠ i → (listed.setIfInBounds j true).getD k true = false →
          (∀ e ∈ ok.after, Region.binds md e = true → e.on ≠ i) → oi.apart ops ok = true := fun k ok hk hki hun' hno => by
        refine hfree k ok hk hki ?_ hno
        by_cases hjk : j = k
        · subst hjk; exact hjun
        · rw [getD_set_ne true hjk] at hun'; exact hun'
      have hri := ready_mono hr (Ne.symm hji)
      unfold msOp at H
      rw [hi] at H
      have H2 : msStep P ops X w kd oi i (fun a1 D1 => msStep P ops X w kd oj j (wpAnyS P md ops X w kd E f ((listed.setIfInBounds i true).setIfInBounds j true)) a1 D1) a D :=
        msStep_mono hne (fun a1 D1 _ hK => by
          have := hK.2 j (ready_mono hj hji)
          unfold msOp at this
          rw [hoj] at this
          exact this) H
      have H3 := msStep_swap hap (fun cs b => hsel i oi cs b hi) (fun cs b => hsel j oj cs b hoj) hswap hne H2
      unfold msOp
      rw [hoj]
      refine msStep_mono hne (fun a2 D2 hne2 h3 => ih (listed.setIfInBounds j true) a2 D2 hne2 (hcl.set hj) hfree' hri ?_) H3
      unfold msOp
      rw [hi, Array.setIfInBounds_comm _ _ hji]
      exact h3
def wpMixS (P : Program) (ops : Array Oper) (X : Nat → Prop) (w : World) (kd : Nat → Kd) (E : Act → (World → Prop) → Prop) : List Oper → Nat → Act → (World → Prop) → Prop
  | [], _, a, D => E a D
  | o :: rest, k, a, D => msStep P ops X w kd o k (wpMixS P ops X w kd E rest (k + 1)) a D
def mixSB (md : Region.Mode) (ops : Array Oper) (kd : Nat → Kd) : Bool :=
  Region.lexB md ops && (List.range ops.size).all fun i => (List.range ops.size).all fun j => decide (j = i) || (swapS (kd i) (kd j) || (waitsT md ops 3 j i || waitsT md ops 3 i j))
theorem wpAnyS_lex {E : Act → (World → Prop) → Prop} (hs : Region.noSelect ops = true) (hsw : ∀ i j, i < ops.size → j < ops.size → j ≠ i → swapS (kd i) (kd j) = false → waitsT md ops 3 j i = true ∨ waitsT md ops 3 i j = true) :
    ∀ (l : List Oper) (k : Nat) (listed : Array Bool) (a : Act) (D : World → Prop), Ne D → Closed md ops listed → (∀ j, l[j]? = ops[k + j]?) →
    Region.lexFrom md ops l.length k listed = true → wpMixS P ops X w kd E l k a D → wpAnyS P md ops X w kd E l.length listed a D
  | [], _, _, _, _, _, _, _, hB, h => ⟨by simpa [Region.lexFrom] using hB, h⟩
  | o :: l, k, listed, a, D, hne, hcl, hl, hB, h => by
    have h0 : ops[k]? = some o := by simpa using (hl 0).symm
    simp only [List.length_cons, Region.lexFrom, Bool.and_eq_true] at hB
    obtain ⟨⟨hr, hf⟩, hB'⟩ := hB
    have hk : k < ops.size := (Array.getElem?_eq_some_iff.1 h0).1
    refine wpAnyS_first h0 (Region.noSelect_spec hs) (fun j hjl hj hsw' => hsw k j hk hjl hj hsw') l.length listed a D hne hcl (Region.free_spec h0 hf) (by simpa using hr) ?_
    unfold msOp
    rw [h0]
    exact msStep_mono hne (fun a' D' hne' h' => wpAnyS_lex hs hsw l (k + 1) _ a' D' hne' (hcl.set (by simpa using hr)) (fun j => by have := hl (j + 1); simpa [Nat.add_assoc, Nat.add_comm 1 j] using this) hB' h') h
/-- **The law**, before it is a region. -/
theorem any_mixedS {Q : Exit → Act → World → Prop} {a : Act} {w : World} {l : List Oper} (X : Nat → Prop) (kds : List Kd) (hB : mixSB .any l.toArray (fun i => kds.getD i .pure) = true)
    (h : wpMixS P l.toArray X w (fun i => kds.getD i .pure) (fun a D => ∀ W, D W → Q .normal a W) l 0 a (Grown w)) : wpAny P .any l.toArray Q l.toArray.size (Array.replicate l.toArray.size false) a { w with drawn := w.drawn + 1 } := by
  simp only [mixSB, Bool.and_eq_true] at hB
  obtain ⟨hlex, hall⟩ := hB
  simp only [Region.lexB, Bool.and_eq_true] at hlex
  have hg0 : Grown w { w with drawn := w.drawn + 1 } := (Below.refl _ _).drew
  refine (wpAny_of_S (X := X) (w := w) (kd := fun i => kds.getD i .pure) _ _ _ (Grown w) _ hg0 ?_)
  have := wpAnyS_lex (P := P) (md := .any) (X := X) (w := w) (kd := fun i => kds.getD i .pure) (E := fun a D => ∀ W, D W → Q .normal a W) hlex.1 (fun i j hi hjl hj hs => by
    have h1 := List.all_eq_true.1 (List.all_eq_true.1 hall i (List.mem_range.2 hi)) j (List.mem_range.2 hjl)
    simp only [Bool.or_eq_true, decide_eq_true_eq] at h1
    rcases h1 with h1 | h1 | h1 | h1
    · exact absurd h1 hj
    · rw [hs] at h1; cases h1
    · exact .inl h1
    · exact .inr h1) l 0 (Array.replicate l.toArray.size false) a (Grown w) ⟨w, Grown.refl w⟩ (Closed.none _ _ _) (by simp) (by simpa using hlex.2) h
  simpa using this
theorem wp_region_mixedS {id : Nat} {Q : Exit → Act → World → Prop} {a : Act} {w : World} {l : List Oper} (X : Nat → Prop) (kds : List Kd) (hm : P.follows .mixedOrders = true) (hB : mixSB .any l.toArray (fun i => kds.getD i .pure) = true)
    (h : wpMixS P l.toArray X w (fun i => kds.getD i .pure) (fun a D => ∀ W, D W → Q .normal a W) l 0 a (Grown w)) : (Code.region id l.toArray true).wp P Q a w :=
  wp_region_any hm (any_mixedS X kds hB h)
/-! ### the walk's steps -/
structure ExtX (X : Nat → Prop) (w : World) where
  world : World
  come : ComeX X w world
instance ExtX.some (X : Nat → Prop) (w : World) : Nonempty (ExtX X w) := ⟨⟨w, ComeX.refl X w⟩⟩
theorem ExtX.cell (x : ExtX X w) (b o : Nat) (hb : b < w.heap.size) (hx : ¬ X b) : x.world.cell? ⟨b, o, none⟩ = w.cell? ⟨b, o, none⟩ := x.come.cell hb hx
attribute [go_sem] ExtX.cell
section
variable {E : Act → (World → Prop) → Prop} {a : Act} {o : Oper} {rest : List Oper} {k : Nat} {D : World → Prop}
theorem mixS_skip (hw : Region.wanted o (yielded ops a.tmps) = false) (h : wpMixS P ops X w kd E rest (k + 1) (a.put o.dst undef) D) : wpMixS P ops X w kd E (o :: rest) k a D := by
  unfold wpMixS msStep
  rw [if_neg (by rw [hw]; decide)]
  exact h
theorem mixS_pure (hw : Region.wanted o (yielded ops a.tmps) = true) (hk : kd k = .pure) (hp : valOp o.op = true)
    (h : ∀ K : Act → Prop, (∀ a, wpMixS P ops X w kd E rest (k + 1) a D → K a) → o.quiet P a (fun _ => True) K) : wpMixS P ops X w kd E (o :: rest) k a D := by
  unfold wpMixS msStep
  rw [if_pos hw, hk]
  obtain ⟨v, h1, h2⟩ := h _ fun _ h => h
  exact ⟨v, fun W => runs_of_quiet hp (h1 W trivial), h2⟩
theorem mixS_held (hw : Region.wanted o (yielded ops a.tmps) = true) (hk : kd k = .held) (hp : valOp o.op = true) (hD : ∀ W, D W → ComeX X w W)
    (h : ∀ K : Act → Prop, (∀ a, wpMixS P ops X w kd E rest (k + 1) a D → K a) → o.quiet P a (fun w' => ∃ x : ExtX X w, w' = x.world) K) : wpMixS P ops X w kd E (o :: rest) k a D := by
  unfold wpMixS msStep
  rw [if_pos hw, hk]
  obtain ⟨v, h1, h2⟩ := h _ fun _ h => h
  exact ⟨hD, v, fun W hW => runs_of_quiet hp (h1 W ⟨⟨W, hW⟩, rfl⟩), h2⟩
theorem mixS_load (hw : Region.wanted o (yielded ops a.tmps) = true) (hk : kd k = .held) (hD : ∀ W, D W → ComeX X w W) (ty : TypeId) (x : Operand) (ho : o.op = .load ty x)
    (b i : Nat) (hx : a.eval x = .pointer (some ⟨b, i, none⟩)) (cs : List Value) (d : TypeDesc) (hb : b < w.heap.size) (hx2 : ¬ X b) (hc : w.rangeAt b i cs)
    (hu : P.underlying ty = some d) (hd : d.isRow = true) (hi : (P.info? ty).map (·.size) = some cs.length)
    (h : wpMixS P ops X w kd E rest (k + 1) (a.put o.dst (.agg cs.toArray)) D) : wpMixS P ops X w kd E (o :: rest) k a D := by
  unfold wpMixS msStep
  rw [if_pos hw, hk]
  refine ⟨hD, _, fun W hW => ?_, h⟩
  have hc' : W.rangeAt b i cs := fun j v hv => (hW.cell hb hx2).trans (hc j v hv)
  unfold RunsTo execOp
  simp only [ho, hx, Instr.loadAt, Instr.sureAddr, Sem.run_bind, Sem.run_pure, Result.andThen_ok, run_loadVar_mid W b i ty cs d hc' hu hd hi]
theorem mixS_act (hw : Region.wanted o (yielded ops a.tmps) = true) (hk : kd k = .make) (hD : ∀ W, D W → ComeX X w W) (S : Value → Prop) (R : Value → World → Prop) (hM : ∀ W, D W → Oper.goes P o a W (fun u W' => (S u ∧ R u W') ∧ ComeX X W W'))
    (h : ∀ v, S v → wpMixS P ops X w kd E rest (k + 1) (a.put o.dst v) (fun W => R v W ∧ ComeX X w W)) : wpMixS P ops X w kd E (o :: rest) k a D := by
  unfold wpMixS msStep
  rw [if_pos hw, hk]
  exact ⟨hD, S, R, hM, fun v hv _ => h v hv⟩
/-- A last operation that writes. -/
theorem mixS_tail (hw : Region.wanted o (yielded ops a.tmps) = true) (hk : kd k = .tail) (T : World → World) (hT : ∀ W, D W → (execOp a.eval o).run P W = .ok .skip (T W))
    (h : wpMixS P ops X w kd E rest (k + 1) (a.put o.dst undef) (fun W' => ∃ W, D W ∧ W' = T W)) : wpMixS P ops X w kd E (o :: rest) k a D := by
  unfold wpMixS msStep
  rw [if_pos hw, hk]
  refine ⟨fun v => v = undef, fun _ W' => ∃ W, D W ∧ W' = T W, fun W hW => ?_, fun v hv _ => by subst hv; exact h⟩
  unfold Oper.goes
  rw [hT W hW]
  exact ⟨rfl, W, hW, rfl⟩
theorem mixS_store (hw : Region.wanted o (yielded ops a.tmps) = true) (hk : kd k = .tail) (ty : TypeId) (x y : Operand) (ho : o.op = .store ty x y)
    (b i : Nat) (cs : Array Value) (hx : a.eval x = .pointer (some ⟨b, i, none⟩)) (hy : a.eval y = .agg cs) (ht : ∀ W, D W → W.there b i cs.size) (hi : (P.info? ty).map (·.size) = some cs.size) (h1 : cs.all (·.oneCell') = true)
    (h : wpMixS P ops X w kd E rest (k + 1) (a.put o.dst undef) (fun W' => ∃ W, D W ∧ W' = W.setCells b i cs.toList)) : wpMixS P ops X w kd E (o :: rest) k a D :=
  mixS_tail hw hk (fun W => W.setCells b i cs.toList) (fun W hW => by
    unfold execOp
    simp only [ho, hx, hy, Instr.storeAt, Instr.sureAddr, Sem.run_bind, Sem.run_pure, Result.andThen_ok, run_storeVar_mid W b i ty cs (ht W hW) hi h1]) h
theorem mixS_nil (h : E a D) : wpMixS P ops X w kd E [] k a D := h
end
end
end Go.Proofs.YtnaclkaapicelaaGreat

namespace Go.Proofs.YtnaclkaapicelaaGreat
open Go.RowKit Go.Shelf
attribute [local go_sem] Oper.semAt_some
set_option maxRecDepth 100000
set_option linter.unusedSimpArgs false
set_option maxHeartbeats 4000000 in
theorem played_any (seed a b : Int) (N : Nat) (w : World) : Calls Tryz.prog 48 #[.int .u32 seed, .agg #[.int .i64 a, .int .i64 b], .int .i64 N] w fun e w' => (∃ bs bf bk, e = .returned (.func (.func 97) #[] #[.pointer (some ⟨bs, 0, none⟩), .pointer (some ⟨bf, 0, none⟩), .pointer (some ⟨bk, 0, none⟩)]) ∧ w.heap.size ≤ bs ∧ w.heap.size ≤ bf ∧ w.heap.size ≤ bk ∧ Blk w' bs 22 #[.int .u32 seed] ∧ Blk w' bf 3 #[.int .i64 N] ∧ Blk w' bk 100 #[.int .i64 a, .int .i64 b]) ∧ Below w.heap.size w w' := by
  go_enter Tryz.func48, Tryz.ntmps48
  go_wp2_with fail
  refine named3 (F := fun W => bodyPost _ _ _ _ _ W) ?_
  intro w1 k0 k1 k2 hb1 hz1
  refine bodyPost_ret (v := .func (.func 97) #[] #[.pointer (some ⟨w.heap.size, 0, none⟩), .pointer (some ⟨w.heap.size + 1 + 1, 0, none⟩), .pointer (some ⟨w.heap.size + 1, 0, none⟩)]) (by simp [results, Tryz.results48, go_sem]) rfl ⟨⟨_, _, _, rfl, by omega, by omega, by omega, k0, k2, k1⟩, hb1⟩
section
variable {P : Program} {a : Act} {o : Oper}
theorem goes_mono {W : World} {T T' : Value → World → Prop} (h : Oper.goes P o a W T) (ht : ∀ v w', T v w' → T' v w') : Oper.goes P o a W T' := by
  unfold Oper.goes at *
  generalize (execOp a.eval o).run P W = r at *
  cases r with
  | ok n w' =>
    cases n <;> simp only [Oper.goesUpon] at h ⊢
    case value u => exact ht _ _ h
    case skip => exact ht _ _ h
    case enter f args => exact h.mono fun e w'' ⟨v, he, hh⟩ => ⟨v, he, ht _ _ hh⟩
  | halt x w' => simp only [Oper.goesUpon] at h
/-- A slice put into a variable. -/
theorem run_storeSl (w : World) (b i : Nat) (ty : TypeId) (p : Option Addr) (l c : Nat) (ht : w.there b i 1) (hi : (P.info? ty).map (·.size) = some 1) : (storeVar ty ⟨b, i, none⟩ (.slice p l c)).run P w = .ok () (w.setCell ⟨b, i, none⟩ (.slice p l c)) := by
  obtain ⟨h1, h2⟩ := ht 0 (by decide)
  rw [Nat.add_zero] at h1 h2
  cases hq : P.info? ty with
  | none => simp [hq] at hi
  | some q =>
    have hs : q.size = 1 := by simpa [hq] using hi
    have := run_storeCells_cells (P := P) b i [.slice p l c] 0 w (fun j hj => by obtain rfl : j = 0 := by simpa using hj
                                                                                 simpa using h1) (fun j hj => by obtain rfl : j = 0 := by simpa using hj
                                                                                                                 simpa using h2) (fun v hv => by obtain rfl := List.mem_singleton.1 hv; rfl)
    simp only [Nat.add_zero] at this
    simp [storeVar, sizeOf, typeInfo, hq, Value.cells, hs, this, World.setCells]
/-- A new row, written out. -/
theorem goes_bs {W : World} (t e : TypeId) (len : Nat) (parts : Array (Nat × Operand)) (ho : o.op = .buildSlice t len parts) (cells : Array Value) (ie : TypeInfo) (z : Value)
    (hu : P.underlying t = some (.slice e)) (hie : P.info? e = some ie) (hz : ie.zero = some z) (hsmall : ¬ len * ie.size > 2 ^ 24) (hpos : ¬ len * ie.size = 0)
    (hf : Instr.fill (fun i => some (i * ie.size, ie.size)) ((Array.range (len * ie.size)).map (z.cells[· % z.cells.size]!)) (parts.map fun (i, x) => (i, a.eval x)).toList = some cells) :
    Oper.goes P o a W (fun v W' => v = .slice (some ⟨W.heap.size, 0, none⟩) len len ∧ W' = W.alloc (.cells cells e)) := by
  unfold Oper.goes execOp
  simp only [ho, Sem.run_bind, run_buildSlice W t e len _ cells ie z hu hie hz hsmall hpos hf, Result.andThen_ok]
  exact ⟨rfl, rfl⟩
/-- An append, wherever what is added lies. -/
theorem goes_app {W : World} (s x : Operand) (t : TypeId) (ho : o.op = .call { callee := .builtin .append, args := #[s, x], argTypes := #[t, t] })
    (base : Nat) (e : TypeId) (i : TypeInfo) (z : Value) (size bytes : Nat) (ht : P.underlying t = some (.slice e)) (hi : P.info? e = some i) (hz : i.zero = some z)
    (hsize : i.size = size) (hby : i.bytes = bytes) (hzs : z.cells.size = size) (hsz : 0 < size)
    (v : Value) (n : Nat) (xs : List Value) (hs : a.eval s = v) (hown : W.ownsRow base e size v n xs)
    (B : Nat) (A : Option Addr) (m c : Nat) (news : List Value) (hx : a.eval x = .slice A m c) (hl : news.length = m * size) (hr : Rd W B A news) (hA : A = none → m = 0) (h1 : ∀ u ∈ news, u.oneCell' = true)
    (h63 : n + m ≤ maxLen) (hbytes : (n + m) * bytes ≤ 140737488355328) (hbase : base ≤ W.heap.size) :
    Oper.goes P o a W (fun v' W' => W'.ownsRow base e size v' (n + m) (xs ++ news) ∧ W.grownBy W' v.ownBlock) := by
  obtain ⟨v', w', hrun, h2, h3, -⟩ := append_rd_run (P := P) W base t o.type e i z size bytes ht hi hz hsize hby hzs hsz v n xs hown B A m c news hl hr hA h1 h63 hbytes hbase
  have hr : (execOp a.eval o).run P W = .ok (.value v') w' := by
    unfold execOp
    simp only [ho, resolve, invoke, builtin, Sem.run_bind, Sem.run_pure, Result.andThen_ok, List.map_toArray, List.map_cons, List.map_nil, hs, hx, hrun]
  unfold Oper.goes
  rw [hr]
  exact ⟨h2, h3⟩
end
theorem goes_app_ev {W : World} {o : Oper} {a : Act} (s x : Operand) (ho : o.op = .call { callee := .builtin .append, args := #[s, x], argTypes := #[36, 36] }) (base : Nat) (u : Value) (L M : List Ev) (hown : OwnL W base 65 9 u Ev.cells L) (hs : a.eval s = u)
    (B : Nat) (A : Option Addr) (m c : Nat) (hm : m = M.length) (hx : a.eval x = .slice A m c) (hr : Rd W B A (M.flatMap Ev.cells)) (hn : L.length + M.length ≤ 1000000000) (hbase : base ≤ W.heap.size) :
    Oper.goes Tryz.prog o a W (fun v' W' => OwnL W' base 65 9 v' Ev.cells (L ++ M) ∧ W.grownBy W' u.ownBlock) := by
  subst hm
  obtain ⟨i0, hi0, hz0, hz1, hz2⟩ := info_parts Tryz.infoEv
  refine goes_mono (goes_app s x 36 ho base 65 i0 _ 9 72 Tryz.underlying36 hi0 hz0 hz1 hz2 rfl (by decide) u L.length (L.flatMap Ev.cells) hs hown B A M.length c (M.flatMap Ev.cells) hx (length_flatMap_const _ _ Ev.cells_length _) hr (rd_none Ev.cells_length (by decide) hr) (evs_oneCell M) (by unfold maxLen; omega) (by omega) hbase) ?_
  rintro v' W' ⟨h2, h3⟩
  exact ⟨OwnL.app rfl h2, h3⟩
theorem infoPb : (Tryz.prog.info? 34).map (fun i => (i.zero, i.size, i.bytes)) = some (some (.agg #[.int .u8 0, .int .u8 0]), 2, 2) := by kernel_rfl
theorem pbs_oneCell (l : List (Nat × Nat)) : ∀ u ∈ l.flatMap pbCells, u.oneCell' = true := fun u hu => by
  obtain ⟨q, -, hq⟩ := List.mem_flatMap.1 hu
  simp only [pbCells, List.mem_cons, List.not_mem_nil, or_false] at hq
  rcases hq with rfl | rfl <;> rfl
theorem goes_app_pb {W : World} {o : Oper} {a : Act} (s x : Operand) (ho : o.op = .call { callee := .builtin .append, args := #[s, x], argTypes := #[47, 47] }) (base : Nat) (u : Value) (L M : List (Nat × Nat)) (hown : OwnL W base 34 2 u pbCells L) (hs : a.eval s = u)
    (B : Nat) (A : Option Addr) (m c : Nat) (hm : m = M.length) (hx : a.eval x = .slice A m c) (hr : Rd W B A (M.flatMap pbCells)) (hn : L.length + M.length ≤ 1000000000) (hbase : base ≤ W.heap.size) :
    Oper.goes Tryz.prog o a W (fun v' W' => OwnL W' base 34 2 v' pbCells (L ++ M) ∧ W.grownBy W' u.ownBlock) := by
  subst hm
  obtain ⟨i0, hi0, hz0, hz1, hz2⟩ := info_parts infoPb
  refine goes_mono (goes_app s x 47 ho base 34 i0 _ 2 2 Tryz.underlying47 hi0 hz0 hz1 hz2 rfl (by decide) u L.length (L.flatMap pbCells) hs hown B A M.length c (M.flatMap pbCells) hx (length_flatMap_const _ _ pbCells_length _) hr (rd_none pbCells_length (by decide) hr) (pbs_oneCell M) (by unfold maxLen; omega) (by omega) hbase) ?_
  rintro v' W' ⟨h2, h3⟩
  exact ⟨OwnL.app rfl h2, h3⟩
theorem goes_bs_pb {W : World} {o : Oper} {a : Act} (y : Operand) (ho : o.op = .buildSlice 47 1 #[(0, y)]) (p : Nat × Nat) (hy : a.eval y = .agg (pbCells p).toArray) : Oper.goes Tryz.prog o a W (fun v W' => v = .slice (some ⟨W.heap.size, 0, none⟩) 1 1 ∧ W' = W.alloc (.cells (pbCells p).toArray 34)) := by
  obtain ⟨i0, hi0, hz0, hz1, hz2⟩ := info_parts infoPb
  refine goes_bs 47 34 1 _ ho _ i0 _ Tryz.underlying47 hi0 hz0 (by rw [hz1]; decide) (by rw [hz1]; decide) ?_
  rw [hz1]
  simp only [List.map_toArray, List.map_cons, List.map_nil, hy]
  simp [Instr.fill, pbCells, go_sem]
/-- The state behind the rounds that have come. -/
def lastM (S : Nat → Int) : List Rnd → (Nat → Int)
  | [] => S
  | r :: l => lastM r.T l
theorem lastM_snoc : ∀ (pre : List Rnd) (S : Nat → Int) (r : Rnd), lastM S (pre ++ [r]) = r.T
  | [], _, _ => rfl
  | x :: l, _, r => lastM_snoc l x.T r
section
variable {α : Type} {A A' W : World} {m : Nat} {E : TypeId} {k : Nat} {v : Value} {f : α → List Value} {l : List α}
theorem OwnL.isRow (h : OwnL A m E k v f l) {g : Nat} (hg : v.ownBlock = some g) : m ≤ g ∧ ∃ cur fz, A.heap[g]? = some (.cells cur E fz) := by
  rcases h.2 with ⟨rfl, _⟩ | ⟨g1, cap, cur, rfl, hb, h1, _⟩
  · simp [Value.ownBlock] at hg
  · simp only [Value.ownBlock, Option.some.injEq] at hg
    subst hg
    exact ⟨hb, _, _, h1⟩
/-- What turns is no cells, or lies below the row. -/
theorem OwnL.away {B : Nat} {row : Option Nat} (h : OwnL A m E k v f l) (hg : A.grownBy A' row) (hr : ∀ r, row = some r → B ≤ r ∧ ((∃ o : Obj, A.heap[r]? = some o ∧ o.isCells = false) ∨ (r < m ∧ ∃ o : Obj, A.heap[r]? = some o ∧ o.isCells = true))) : OwnL A' m E k v f l := by
  refine h.kept hg ?_
  cases hv : v.ownBlock with
  | none => exact .inl rfl
  | some g =>
    refine .inr fun e => ?_
    obtain ⟨h1, cur, fz, h2⟩ := h.isRow hv
    rcases (hr g e.symm).2 with ⟨o, ho, hc⟩ | ⟨hlt, -⟩
    · rw [h2] at ho; cases ho; cases hc
    · omega
theorem OwnL.putObj (h : OwnL A m E k v f l) {i : Nat} {o o' : Obj} (ho : A.heap[i]? = some o) (hc : o.isCells = false) : OwnL (A.putObj i o') m E k v f l := by
  refine h.kept (grownBy_putObj' A i o') ?_
  cases hv : v.ownBlock with
  | none => exact .inl rfl
  | some g =>
    refine .inr fun e => ?_
    obtain ⟨h1, cur, fz, h2⟩ := h.isRow hv
    cases e
    rw [h2] at ho; cases ho; cases hc
theorem OwnL.farC (h : OwnL A m E k v f l) {b : Nat} (hb : v.ownBlock ≠ some b) (i : Nat) (vs : List Value) : OwnL (A.setCells b i vs) m E k v f l := h.kept (grownBy_setCells A b i vs) (.inr hb)
theorem OwnL.ne_low (h : OwnL A m E k v f l) {b : Nat} (hb : b < m) : v.ownBlock ≠ some b := fun e => by have := (h.isRow e).1; omega
theorem Blk.putObj {g : Nat} {t : TypeId} {cs : Array Value} (h : Blk A g t cs) {i : Nat} {o o' : Obj} (ho : A.heap[i]? = some o) (hc : o.isCells = false) : Blk (A.putObj i o') g t cs := by
  have hne : g ≠ i := fun e => by
    rw [← e] at ho
    have h' : A.heap[g]? = some (.cells cs t (0, 0)) := h
    rw [h'] at ho; cases ho; cases hc
  exact (World.putObj_heap_other hne).trans h
end
/-- What is so between the rounds of a match. -/
structure MI (T0 : Nat → Int) (w0 b8 b12 b13 b14 : Nat) (w : World) (m : Nat) (pre : List Rnd) (W : World) : Prop where
  below : Below w0 w W
  s8 : ∃ Z : Array Value, Z.size = 60 ∧ Blk W b8 33 Z
  s12 : Blk W b12 33 (stCells (lastM T0 pre)).toArray
  rows : ∃ A1 c1 A2 c2, Blk W b13 47 #[.slice A1 (pre.map fun r => (r.x, r.y)).length c1] ∧ Blk W b14 36 #[.slice A2 (pre.flatMap (·.L)).length c2] ∧ OwnL W m 34 2 (.slice A1 (pre.map fun r => (r.x, r.y)).length c1) pbCells (pre.map fun r => (r.x, r.y)) ∧ OwnL W m 65 9 (.slice A2 (pre.flatMap (·.L)).length c2) Ev.cells (pre.flatMap (·.L))
  size : m ≤ W.heap.size
  short : (pre.flatMap (·.L)).length ≤ 22 * pre.length
  low : b14 < m ∧ w0 ≤ m
theorem MI.keeps {T0 : Nat → Int} {w0 b8 b12 b13 b14 : Nat} {w : World} {m : Nat} {pre : List Rnd} {A A' : World} {row : Option Nat} {B : Nat} (h : MI T0 w0 b8 b12 b13 b14 w m pre A) (hg : A.grownBy A' row) (hB : w0 ≤ B ∧ b8 < B ∧ b12 < B ∧ b13 < B ∧ b14 < B) (hw : w0 ≤ A.heap.size)
    (hr : ∀ r, row = some r → B ≤ r ∧ ((∃ o : Obj, A.heap[r]? = some o ∧ o.isCells = false) ∨ (r < m ∧ ∃ o : Obj, A.heap[r]? = some o ∧ o.isCells = true))) : MI T0 w0 b8 b12 b13 b14 w m pre A' := by
  have hne : ∀ b, b < B → row ≠ some b := fun b hb e => by have := (hr b e).1; omega
  obtain ⟨Z, hZ, h8⟩ := h.s8
  obtain ⟨A1, c1, A2, c2, r1, r2, r3, r4⟩ := h.rows
  exact ⟨h.below.grown hg hw (fun k e => by have := (hr k e).1; omega), ⟨Z, hZ, h8.grown hg (hne _ hB.2.1)⟩, h.s12.grown hg (hne _ hB.2.2.1), ⟨A1, c1, A2, c2, r1.grown hg (hne _ hB.2.2.2.1), r2.grown hg (hne _ hB.2.2.2.2), r3.away hg hr, r4.away hg hr⟩, Nat.le_trans h.size hg.size, h.short, h.low⟩
theorem KpX.trans {X : Nat → Prop} {A B C : World} (h : KpX X A B) (k : KpX X B C) : KpX X A C := ⟨Nat.le_trans h.1 k.1, fun r t cs hr h1 h2 hx => k.2 r t cs (h.2 r t cs hr h1 h2 hx) h1 h2 hx⟩
theorem KpX.put {X : Nat → Prop} (W : World) (l : Nat) (o o' : Obj) (ho : W.heap[l]? = some o) (hc : o.isCells = false) : KpX X W (W.putObj l o') := ⟨(grownBy_putObj' W l o').size, fun _ _ _ hr _ _ _ => hr.putObj ho hc⟩
theorem KpX.of_grown {X : Nat → Prop} {A B : World} (h : Below A.heap.size A B) : KpX X A B := ⟨h.size, fun _ _ _ hr _ _ _ => hr.on h⟩
section
variable {P : Program} {ops : Array Oper} {X : Nat → Prop} {w : World} {kd : Nat → Kd} {E : Act → (World → Prop) → Prop} {a : Act} {o : Oper} {rest : List Oper} {k : Nat} {D : World → Prop}
theorem mixS_run (v : Value) (hw : Region.wanted o (yielded ops a.tmps) = true) (hk : kd k = .pure) (hr : ∀ W, RunsTo P o a W v) (h : wpMixS P ops X w kd E rest (k + 1) (a.put o.dst v) D) : wpMixS P ops X w kd E (o :: rest) k a D := by
  unfold wpMixS msStep
  rw [if_pos hw, hk]
  exact ⟨v, hr, h⟩
theorem runs_loadSl {W : World} (ty e : TypeId) (x : Operand) (ho : o.op = .load ty x) (b i : Nat) (hx : a.eval x = .pointer (some ⟨b, i, none⟩)) (hu : P.underlying ty = some (.slice e)) {v : Value} (hc : W.cell? ⟨b, i, none⟩ = some v) : RunsTo P o a W v := by
  unfold RunsTo execOp
  simp only [ho, hx, Instr.loadAt, Instr.sureAddr, Sem.run_bind, Sem.run_pure, Result.andThen_ok]
  simp [loadVar, isAgg, run_underlying hu, hc]
theorem mixS_hrun (v : Value) (hw : Region.wanted o (yielded ops a.tmps) = true) (hk : kd k = .held) (hD : ∀ W, D W → ComeX X w W) (hr : ∀ W, ComeX X w W → RunsTo P o a W v) (h : wpMixS P ops X w kd E rest (k + 1) (a.put o.dst v) D) : wpMixS P ops X w kd E (o :: rest) k a D := by
  unfold wpMixS msStep
  rw [if_pos hw, hk]
  exact ⟨hD, v, hr, h⟩
theorem mixS_storeSl (hw : Region.wanted o (yielded ops a.tmps) = true) (hk : kd k = .tail) (ty : TypeId) (x y : Operand) (ho : o.op = .store ty x y) (b i : Nat) (p : Option Addr) (l c : Nat) (hx : a.eval x = .pointer (some ⟨b, i, none⟩)) (hy : a.eval y = .slice p l c) (ht : ∀ W, D W → W.there b i 1) (hi : (P.info? ty).map (·.size) = some 1)
    (h : wpMixS P ops X w kd E rest (k + 1) (a.put o.dst undef) (fun W' => ∃ W, D W ∧ W' = W.setCell ⟨b, i, none⟩ (.slice p l c))) : wpMixS P ops X w kd E (o :: rest) k a D :=
  mixS_tail hw hk (fun W => W.setCell ⟨b, i, none⟩ (.slice p l c)) (fun W hW => by
    unfold execOp
    simp only [ho, hx, hy, Instr.storeAt, Instr.sureAddr, Sem.run_bind, Sem.run_pure, Result.andThen_ok, run_storeSl W b i ty p l c (ht W hW) hi]) h
theorem goes_store {W : World} (ty : TypeId) (x y : Operand) (ho : o.op = .store ty x y) (b i : Nat) (cs : Array Value) (hx : a.eval x = .pointer (some ⟨b, i, none⟩)) (hy : a.eval y = .agg cs) (ht : W.there b i cs.size) (hi : (P.info? ty).map (·.size) = some cs.size) (h1 : cs.all (·.oneCell') = true) {T : Value → World → Prop} (hT : T undef (W.setCells b i cs.toList)) : Oper.goes P o a W T := by
  unfold Oper.goes execOp
  simp only [ho, hx, hy, Instr.storeAt, Instr.sureAddr, Sem.run_bind, Sem.run_pure, Result.andThen_ok, run_storeVar_mid W b i ty cs ht hi h1]
  exact hT
theorem goes_runs {W : World} {v : Value} {T : Value → World → Prop} (h : RunsTo P o a W v) (ht : T v W) : Oper.goes P o a W T := by
  unfold Oper.goes
  unfold RunsTo at h
  rw [h]
  exact ht
end
theorem named_put2 {F : World → Prop} {W : World} {cs zs G : Array Value} {T1 T2 : TypeId} (hz : G.size = zs.size) (h : ∀ W2, Blk W2 W.heap.size T1 cs → Blk W2 (W.heap.size + 1) T2 G → Below W.heap.size W W2 → W2.heap.size = W.heap.size + 2 → F W2) : F (((W.alloc (.cells cs T1)).alloc (.cells zs T2)).setCells (W.heap.size + 1) 0 G.toList) := by
  have hs : (W.alloc (.cells cs T1)).heap.size = W.heap.size + 1 := World.size_alloc _ _
  have hn : Blk ((W.alloc (.cells cs T1)).alloc (.cells zs T2)) (W.heap.size + 1) T2 zs := by
    have := Blk.new (W.alloc (.cells cs T1)) T2 zs
    rwa [hs] at this
  have h2 := hn.whole G.toList (by rw [Array.length_toList, hz])
  rw [Array.toArray_toList] at h2
  exact h _ (((Blk.new W T1 cs).alloc _).farC (by omega) 0 _) h2 (bSetCells (bAlloc (bAlloc (Below.refl _ _) _) _) (by omega) 0 _) (by rw [setCells_size]; simp)
theorem there_new1 (w : World) (o : Obj) (cs : Array Value) (T : TypeId) {n : Nat} (h : cs.size = n) : ((w.alloc o).alloc (.cells cs T)).there (w.heap.size + 1) 0 n := by
  have := there_new (w.alloc o) cs T h
  rwa [World.size_alloc] at this
theorem rounds_core {a b : Int} {S : Nat → Int} {N : Nat} {xs : List Rnd} (h : xs.map Rnd.core = preM a b S N) : lastM S xs = stM a b S N ∧ (xs.map fun r => (r.x, r.y)) = (preM a b S N).map (·.1) ∧ (xs.flatMap (·.L)) = (preM a b S N).flatMap (·.2.2) := by
  refine ⟨?_, ?_, ?_⟩
  · cases N with
    | zero =>
      have : xs = [] := by
        have := congrArg List.length h
        rw [List.length_map, preM_length] at this
        exact List.eq_nil_of_length_eq_zero this
      rw [this]; rfl
    | succ k =>
      rw [preM_succ] at h
      obtain ⟨ys, zs, rfl, h1, h2⟩ := List.map_eq_append_iff.1 h
      obtain ⟨r, rfl, hr⟩ : ∃ r, zs = [r] ∧ r.core = rdM a b (stM a b S k) := by
        cases zs with
        | nil => simp at h2
        | cons z t =>
          simp only [List.map_cons, List.cons.injEq, List.map_eq_nil_iff] at h2
          exact ⟨z, by rw [h2.2], h2.1⟩
      rw [lastM_snoc]
      show _ = (rdM a b (stM a b S k)).2.1
      rw [← hr]; rfl
  · rw [← h, List.map_map]; rfl
  · rw [← h, List.flatMap_map]; rfl
set_option maxHeartbeats 8000000 in
theorem match_any (seed a b : Int) (N : Nat) (w : World) (hs : U32 seed) (ha : 0 ≤ a ∧ a ≤ 3) (hb : 0 ≤ b ∧ b ≤ 3) (hN : N ≤ 5000) :
    Calls Tryz.prog 18 #[.int .u32 seed, .int .i64 a, .int .i64 b, .int .i64 N] w fun e w' => ∃ v1 v2 : Value, e = .returned (.tuple #[.agg (stCells (stM a b (beginS seed) N)).toArray, v1, v2, .int .i64 0]) ∧ OwnL w' w.heap.size 34 2 v1 pbCells ((preM a b (beginS seed) N).map (·.1)) ∧ OwnL w' w.heap.size 65 9 v2 Ev.cells ((preM a b (beginS seed) N).flatMap (·.2.2)) ∧ Below w.heap.size w w' := by
  have g1 : inB a 0 3 = true := decide_eq_true ha
  have g2 : inB b 0 3 = true := decide_eq_true hb
  have g3 : inB (N : Int) 0 5000 = true := decide_eq_true (by omega)
  have HW1 := fun V => bw a 0 3 V _ g1
  have HW2 := fun V => bw b 0 3 V _ g2
  have HW3 := fun V => bw (N : Int) 0 5000 V _ g3
  have H1 := Lib.hid HW1
  have H2 := Lib.hid HW2
  have H3 := Lib.hid HW3
  obtain ⟨T0, hT0⟩ : ∃ T0, beginS seed = T0 := ⟨_, rfl⟩
  have hbeg := fun V => gBegin_any seed V
  rw [hT0] at hbeg
  obtain ⟨C0, hC0⟩ : ∃ C0 : Array Value, (stCells T0).toArray = C0 := ⟨_, rfl⟩
  rw [hC0] at hbeg
  have hsz : C0.size = 60 := by rw [← hC0, List.size_toArray, stCells_length]
  have H1C : Hid (C0.all (·.oneCell') = true) := Lib.hid (by rw [← hC0]; exact all_oneCell_toArray (int_one _))
  have HSZ : Hid ((Tryz.prog.info? 33).map (·.size) = some C0.size) := Lib.hid (by rw [hsz]; kernel_rfl)
  have HSI := Lib.hid hsz
  have HC0 := Lib.hid hC0
  have HT0 := Lib.hid hT0
  have HBEG := Lib.hid hbeg
  clear hbeg hsz hC0 hT0 HW1 HW2 HW3 g1 g2 g3
  rw [HT0.out]
  refine (callsIn_wide (n := 3)).1 ?_
  refine callsIn_of_wp_marks Tryz.func18 rfl trivial ?_ rfl
  simp only [Tryz.ntmps18, List.size_toArray, List.length_cons, List.length_nil, Nat.reduceAdd, Nat.reduceSub, Array.replicate_succ, Array.replicate_zero, List.push_toArray, List.append_toArray, List.nil_append, List.cons_append]
  refine wpIn_wide.2 ?_
  go_upto_region 1 with fail
  refine named1 (F := fun W => Code.wp _ _ _ _ W) ?_
  intro w1 k8 hb1 hz1
  have HK8 := Lib.hid k8
  have HB1 := Lib.hid hb1
  have HZ1 := Lib.hid hz1
  clear k8 hb1 hz1
  go_upto_region 4 with (first
    | (go_at_call 47; first | ((with_reducible refine (H1.out _).mono ?_); rintro e w2 ⟨rfl, rfl⟩) | ((with_reducible refine (H2.out _).mono ?_); rintro e w2 ⟨rfl, rfl⟩) | ((with_reducible refine (H3.out _).mono ?_); rintro e w2 ⟨rfl, rfl⟩))
    | (go_at_call 11; refine (HBEG.out _).mono ?_; rintro e w3 ⟨rfl, hb3⟩; have HB3 := Lib.hid hb3; clear hb3)
    | (refine wpList_store_mid rfl 33 (.tmp 12) (.tmp 32) rfl w3.heap.size 0 C0 rfl rfl (there_new _ _ _ (by rw [HSI.out]; rfl)) HSZ.out H1C.out ?_))
  refine named_put (F := fun W => Code.wp _ _ _ _ W) (by rw [Array.length_toList, HSI.out]; rfl) ?_
  intro w4 k12 hb4 hz4
  rw [Array.toArray_toList, ← HC0.out] at k12
  have hb14 := bTrans (bTrans HB1.out HB3.out) hb4
  have hge4 : w.heap.size + 1 ≤ w3.heap.size := by have := HB3.out.size; have := HZ1.out; omega
  obtain ⟨b12, hb12⟩ : ∃ b12, w3.heap.size = b12 := ⟨_, rfl⟩
  rw [hb12] at k12 hge4 ⊢
  have HK12 := Lib.hid k12
  have HK84 := Lib.hid ((HK8.out.on HB3.out).on hb4)
  have HB4 := Lib.hid hb14
  clear k12 hb4 hz4 hb14 hb12 HB3 HBEG H1C HSZ HSI HK8 HB1 HZ1 H1 H2 H3 HC0
  go_upto_region 6 with fail
  refine named2 (F := fun W => Code.wp _ _ _ _ W) ?_
  intro w5 k13 k14 hb5 hz5
  obtain ⟨b13, hb13⟩ : ∃ b13, w4.heap.size = b13 := ⟨_, rfl⟩
  have hl12 := HK12.out.lt
  rw [hb13] at k13 k14 hz5 hl12 ⊢
  have HK13 := Lib.hid k13
  have HK14 := Lib.hid k14
  have HK125 := Lib.hid (HK12.out.on hb5)
  have HK85 := Lib.hid (HK84.out.on hb5)
  have HB5 := Lib.hid (bTrans HB4.out hb5)
  have HZ5 := Lib.hid hz5
  clear k13 k14 hb5 hz5 hb13 HK12 HK84 HB4
  have HPL := Lib.hid (fun V => played_any seed a b N V)
  go_wp2_with (first | (go_at_call 48; refine (HPL.out _).mono ?_; rintro e w6 ⟨⟨bs, bf, bk, rfl, hs1, hs2, hs3, p1, p2, p3⟩, hb6⟩; have HP1 := Lib.hid p1; have HP2 := Lib.hid p2; have HP3 := Lib.hid p3; have HB6 := Lib.hid hb6; clear p1 p2 p3 hb6))
  refine (wpIn_wide (n := 3)).1 ?_
  have hb14 : b13 + 1 < w5.heap.size := by have := HZ5.out; omega
  have hs56 := HB6.out.size
  have h0 : w.heap.size ≤ w6.heap.size := Nat.le_trans HB5.out.size hs56
  refine wpIn_rangeFunc_st (by decide) (gf := 97) (lb := #[.pointer (some ⟨bs, 0, none⟩), .pointer (some ⟨bf, 0, none⟩), .pointer (some ⟨bk, 0, none⟩)]) rfl (enters_of Tryz.func97 (by kernel_rfl) rfl)
    (played_seq 2 (by decide) seed a b N (fun k => k = b12 ∨ k = b13 ∨ k = b13 + 1) w6 bs bf bk hs hN HP1.out HP2.out HP3.out (fun r e => by rcases e with rfl | rfl | rfl <;> (refine ⟨?_, ?_, ?_, ?_⟩ <;> omega))) (fun _ => rfl) (fun h k => KpX.trans h k) (fun W l o o' _ ho hc => KpX.put W l o o' ho hc)
    (fun m pre W => MI T0 w.heap.size w.heap.size b12 b13 (b13 + 1) w m pre W) (fun m pre A A' row h hg hr => h.keeps hg (B := w6.heap.size) ⟨h0, by omega, by omega, by omega, by omega⟩ h.below.size hr)
    (fun A hg => ?start) (fun x a' A => ∃ b15 b16, w6.heap.size ≤ b15 ∧ w6.heap.size ≤ b16 ∧ Blk A b15 34 #[.int .u8 x.x, .int .u8 x.y] ∧ Blk A b16 102 x.g2.toArray ∧ a' = { tmps := #[.int .u32 seed, .int .i64 a, .int .i64 b, .int .i64 N, undef, undef, undef, undef, .pointer (some ⟨w.heap.size, 0, none⟩), .slice none 0 0, .slice none 0 0, .int .i64 0, .pointer (some ⟨b12, 0, none⟩), .pointer (some ⟨b13, 0, none⟩), .pointer (some ⟨b13 + 1, 0, none⟩), .pointer (some ⟨b15, 0, none⟩), .pointer (some ⟨b16, 0, none⟩), .int .i64 a, .bool true, .bool false, .bool false, .int .i64 b, .bool true, .bool false, .bool false, .bool false, .int .i64 N, .bool true, .bool false, .bool false, undef, .int .u32 seed, .agg C0, .int .u32 seed, .int .i64 a, .int .i64 b, .agg #[.int .i64 a, .int .i64 b], .int .i64 N, .func (.func 97) #[] #[.pointer (some ⟨bs, 0, none⟩), .pointer (some ⟨bf, 0, none⟩), .pointer (some ⟨bk, 0, none⟩)], .agg #[.int .u8 x.x, .int .u8 x.y], .agg x.g2.toArray, undef, undef, undef, undef, undef, undef, undef, undef, undef, undef, undef, undef, undef], defers := [] }) (fun x a' A l o o' h hl ho hc => by obtain ⟨b15, b16, h1, h2, h3, h4, h5⟩ := h; exact ⟨b15, b16, h1, h2, h3.putObj ho hc, h4.putObj ho hc, h5⟩)
    ?assign (fun _ pre x A l o o' h hl ho hc => ⟨h.1.putObj ho hc, h.2⟩) ?body ?done
  case assign =>
    rintro l m pre x W K hm hI ⟨hO, hl22, hlt⟩ hK
    obtain ⟨G, hG⟩ : ∃ G : Array Value, x.g2.toArray = G := ⟨_, rfl⟩
    unfold Rnd.encs
    rw [hG]
    have hgs : G.size = 61 := by rw [← hG, List.size_toArray]; unfold Rnd.g2; rw [List.length_append, stCells_length]; rfl
    have HGS := Lib.hid hgs
    have HG1 : Hid (G.all (·.oneCell') = true) := Lib.hid (by
      rw [← hG]
      refine all_oneCell_toArray fun u hu => ?_
      unfold Rnd.g2 at hu
      rw [List.mem_append, List.mem_singleton] at hu
      rcases hu with hu | rfl
      · exact int_one _ u hu
      · rfl)
    have HGI : Hid ((Tryz.prog.info? 102).map (·.size) = some G.size) := Lib.hid (by rw [hgs]; kernel_rfl)
    have HG := Lib.hid hG
    have HI := Lib.hid hI
    clear hgs hG hI
    gi_wp2_with (first | (refine wpListIn_store rfl rfl 102 (.tmp 16) (.tmp 40) rfl (W.heap.size + 1) 0 G rfl rfl (there_new1 _ _ _ _ (by rw [HGS.out]; rfl)) HGI.out HG1.out ?_))
    refine named_put2 (F := fun W2 => K _ W2) (by rw [HGS.out]; rfl) ?_
    intro W2 k15 k16 hb2 hz2
    have hBW : w6.heap.size ≤ W.heap.size := Nat.le_trans hm HI.out.size
    refine hK _ W2 ⟨hb2.size, fun k o _ hk _ => (hb2.block k (Array.getElem?_eq_some_iff.1 hk).1).trans hk⟩ (KpX.of_grown hb2) (HI.out.keeps (grown_of hb2) (B := w6.heap.size) ⟨h0, by omega, by omega, by omega, by omega⟩ HI.out.below.size (fun r e => by cases e)) ⟨hO.below hb2, hl22, hlt⟩ ⟨W.heap.size, W.heap.size + 1, by omega, by omega, k15, by rw [HG.out]; exact k16, ?_⟩
    rw [HG.out]
  case start =>
    have hbA : Below w6.heap.size w6 A := ⟨hg.os, hg.tape, hg.output, hg.size, fun k hk => hg.block k hk (by simp)⟩
    have hb56 := bTrans HB6.out hbA
    exact ⟨bTrans HB5.out hb56, ⟨_, rfl, HK85.out.on hb56⟩, HT0.out ▸ HK125.out.on hb56, ⟨none, 0, none, 0, HK13.out.on hb56, HK14.out.on hb56, OwnL.nil, OwnL.nil⟩, Nat.le_refl _, Nat.zero_le _, by have := hg.size; omega, Nat.le_trans h0 hg.size⟩
  case body =>
    rintro l m pre x a' W hm hI ⟨hO, hl22, hlt⟩ ⟨b15, b16, h15, h16, k15, k16, rfl⟩
    obtain ⟨A1, c1, A2, c2, r1, r2, r3, r4⟩ := hI.rows
    have hBW : w6.heap.size ≤ W.heap.size := Nat.le_trans hm hI.size
    obtain ⟨n1, hn1⟩ : ∃ n1, (pre.map fun r => (r.x, r.y)).length = n1 := ⟨_, rfl⟩
    obtain ⟨n2, hn2⟩ : ∃ n2, (pre.flatMap (·.L)).length = n2 := ⟨_, rfl⟩
    obtain ⟨j, hj⟩ : ∃ j, x.L.length = j := ⟨_, rfl⟩
    rw [hn1] at r1 r3
    rw [hn2] at r2 r4
    rw [hj] at hO
    obtain ⟨X, hX⟩ : ∃ X : Nat → Prop, X = fun k => (Value.slice A1 n1 c1).ownBlock = some k ∨ (Value.slice A2 n2 c2).ownBlock = some k := ⟨_, rfl⟩
    have hXm : ∀ k, X k → m ≤ k ∧ ∃ cur E fz, W.heap[k]? = some (.cells cur E fz) ∧ (E = 34 ∨ E = 65) := fun k hk => by
      rw [hX] at hk
      rcases hk with hk | hk
      · obtain ⟨q1, cur, fz, q2⟩ := r3.isRow hk; exact ⟨q1, cur, _, fz, q2, .inl rfl⟩
      · obtain ⟨q1, cur, fz, q2⟩ := r4.isRow hk; exact ⟨q1, cur, _, fz, q2, .inr rfl⟩
    have hXb : ∀ k, k < w6.heap.size → ¬ X k := fun k hk e => by have := (hXm k e).1; omega
    have k12 := hI.s12
    have nx12 := hXb b12 (by omega)
    have nx13 := hXb b13 (by omega)
    have nx14 := hXb (b13 + 1) (by omega)
    have nx16 : ¬ X b16 := fun e => by
      obtain ⟨-, cur, E, fz, q, hE⟩ := hXm _ e
      have h' : W.heap[b16]? = some (.cells x.g2.toArray 102 (0, 0)) := k16
      rw [h'] at q; cases q
      rcases hE with h | h <;> cases h
    have l12 := k12.lt
    have l13 := r1.lt
    have l14 := r2.lt
    have l15 := k15.lt
    have l16 := k16.lt
    have c13 := r1.cell 0
    have c14 := r2.cell 0
    simp only [List.getElem?_toArray, List.getElem?_cons_zero] at c13 c14
    have g16 : x.g2 = stCells x.T ++ [.slice x.A j x.c] := by unfold Rnd.g2; rw [hj]
    have c16 : W.cell? ⟨b16, 60, none⟩ = some (.slice x.A j x.c) := by
      rw [k16.cell, g16, List.getElem?_toArray, List.getElem?_append_right (by rw [stCells_length]; exact Nat.le_refl _), stCells_length]; rfl
    have rg16 : W.rangeAt b16 0 (stCells x.T) := fun i v hv => by
      rw [k16.cell, g16, List.getElem?_toArray, Nat.zero_add, List.getElem?_append_left (List.getElem?_eq_some_iff.1 hv).1, hv]
    have hcome : ∀ W', Grown W W' → ComeX X W W' := fun W' h => ComeX.of_grown X h
    obtain ⟨CT, hCT⟩ : ∃ CT, stCells x.T = CT := ⟨_, rfl⟩
    have hlen : CT.length = 60 := by rw [← hCT, stCells_length]
    have hone := all_oneCell_toArray (int_one x.T)
    rw [hCT] at rg16 hone
    have hszT : (Tryz.prog.info? 33).map (·.size) = some CT.length := by rw [hlen]; kernel_rfl
    apply wpIn_block
    refine wp_region_round (by kernel_rfl) (by kernel_rfl) (fun ⟨_, _, e⟩ => e) ?_
    refine any_mixedS X [.pure, .held, .held, .make, .make, .make, .held, .pure, .held, .make, .tail, .tail, .tail] (by kernel_rfl) ?_
    dsimp only
    repeat (first | (refine mixS_pure rfl rfl rfl (fun K hK => ?_); go_big_quiet_op; refine hK _ ?_; clear hK K) | (refine mixS_held rfl rfl rfl (by assumption) (fun K hK => ?_); go_big_quiet_op; refine hK _ ?_; clear hK K))
    refine mixS_load rfl rfl hcome 33 (.tmp 41) rfl b16 0 rfl CT _ l16 nx16 rg16 Tryz.underlying33 rfl hszT ?_
    simp only [Act.put, List.setIfInBounds_toArray, List.set_cons_zero, List.set_cons_succ]
    refine mixS_hrun (.slice A1 n1 c1) rfl rfl hcome (fun V hV => runs_loadSl 47 34 (.tmp 13) rfl b13 0 rfl Tryz.underlying47 ((hV.cell l13 nx13).trans c13)) ?_
    simp only [Act.put, List.setIfInBounds_toArray, List.set_cons_zero, List.set_cons_succ]
    refine mixS_act rfl rfl hcome (fun v => v = .agg (pbCells (x.x, x.y)).toArray) (fun _ V => Grown W V) (fun V hV => goes_runs (runs_load 34 (.tmp 15) rfl b15 0 rfl (pbCells (x.x, x.y)) _ (Blk.range (k15.on hV)) Tryz.underlying34 rfl (by kernel_rfl)) ⟨⟨rfl, hV⟩, ComeX.refl X V⟩) ?_
    rintro _ rfl
    simp only [Act.put, List.setIfInBounds_toArray, List.set_cons_zero, List.set_cons_succ]
    refine mixS_act rfl rfl (fun _ h => h.2) (fun v => ∃ g, v = .slice (some ⟨g, 0, none⟩) 1 1) (fun v V => Grown W V ∧ ∃ g, v = .slice (some ⟨g, 0, none⟩) 1 1 ∧ Blk V g 34 (pbCells (x.x, x.y)).toArray) (fun V hV => goes_mono (goes_bs_pb (.tmp 44) rfl (x.x, x.y) rfl) ?_) ?_
    · rintro v V' ⟨rfl, rfl⟩
      exact ⟨⟨⟨_, rfl⟩, bAlloc hV.1 _, _, rfl, Blk.new _ _ _⟩, (ComeX.refl X V).below (bAlloc (Below.refl _ _) _)⟩
    rintro _ ⟨g, rfl⟩
    simp only [Act.put, List.setIfInBounds_toArray, List.set_cons_zero, List.set_cons_succ]
    refine mixS_act rfl rfl (fun _ h => h.2) (fun v => ∃ A c, v = .slice A (n1 + 1) c) (fun v V => OwnL V m 34 2 v pbCells ((pre.map fun r => (r.x, r.y)) ++ [(x.x, x.y)]) ∧ OwnL V m 65 9 (.slice A2 n2 c2) Ev.cells (pre.flatMap (·.L)) ∧ OwnL V 0 65 9 (.slice x.A j x.c) Ev.cells x.L) (fun V hV => goes_mono (goes_app_pb (.tmp 43) (.tmp 45) rfl m (.slice A1 n1 c1) (pre.map fun r => (r.x, r.y)) [(x.x, x.y)] (r3.below hV.1.1) rfl V.heap.size (some ⟨g, 0, none⟩) 1 1 rfl rfl ?_ ?_ ?_) ?_) ?_
    · obtain ⟨-, g1, e1, hb1⟩ := hV.1
      simp only [Value.slice.injEq, Option.some.injEq, Addr.mk.injEq, and_true] at e1
      subst e1
      exact fun _ => ⟨g, 0, rfl, hb1.lt, fun i u hu => by rw [Nat.zero_add, hb1.cell, List.getElem?_toArray, ← hu]; rfl⟩
    · rw [hn1]; simp only [List.length_singleton]; have : n1 = pre.length := by rw [← hn1, List.length_map]
      omega
    · exact Nat.le_trans hI.size hV.1.1.size
    · rintro v V' ⟨ho, hg⟩
      obtain ⟨A', c', e'⟩ := ho.shape
      have hne : ∀ (A3 : Option Addr) (n3 c3 : Nat) (m3 : Nat) (L3 : List Ev), OwnL V m3 65 9 (.slice A3 n3 c3) Ev.cells L3 → OwnL V' m3 65 9 (.slice A3 n3 c3) Ev.cells L3 := fun A3 n3 c3 m3 L3 h3 => h3.kept hg (by
        cases hb : (Value.slice A1 n1 c1).ownBlock with
        | none => cases hb3 : (Value.slice A3 n3 c3).ownBlock with
          | none => exact .inl rfl
          | some q => exact .inr (by simp)
        | some q => exact .inr (OwnL.apart h3 (r3.below hV.1.1) (by decide) hb))
      refine ⟨⟨⟨A', c', ?_⟩, ho, hne _ _ _ _ _ (r4.below hV.1.1), hne _ _ _ _ _ (hO.below hV.1.1)⟩, (ComeX.refl X V).grown hg (fun r e _ => by rw [hX]; exact .inl e)⟩
      rw [e', List.length_append, hn1]; rfl
    rintro _ ⟨A5, c5, rfl⟩
    simp only [Act.put, List.setIfInBounds_toArray, List.set_cons_zero, List.set_cons_succ]
    refine mixS_hrun (.slice A2 n2 c2) rfl rfl (fun _ h => h.2) (fun V hV => runs_loadSl 36 65 (.tmp 14) rfl (b13 + 1) 0 rfl Tryz.underlying36 ((hV.cell l14 nx14).trans c14)) ?_
    simp only [Act.put, List.setIfInBounds_toArray, List.set_cons_zero, List.set_cons_succ]
    repeat (first | (refine mixS_pure rfl rfl rfl (fun K hK => ?_); go_big_quiet_op; refine hK _ ?_; clear hK K) | fail)
    refine mixS_hrun (.slice x.A j x.c) rfl rfl (fun _ h => h.2) (fun V hV => runs_loadSl 36 65 (.tmp 48) rfl b16 60 rfl Tryz.underlying36 ((hV.cell l16 nx16).trans c16)) ?_
    simp only [Act.put, List.setIfInBounds_toArray, List.set_cons_zero, List.set_cons_succ]
    refine mixS_act rfl rfl (fun _ h => h.2) (fun v => ∃ A c, v = .slice A (n2 + j) c) (fun v V => OwnL V m 65 9 v Ev.cells ((pre.flatMap (·.L)) ++ x.L) ∧ OwnL V m 34 2 (.slice A5 (n1 + 1) c5) pbCells ((pre.map fun r => (r.x, r.y)) ++ [(x.x, x.y)])) (fun V hV => goes_mono (goes_app_ev (.tmp 47) (.tmp 49) rfl m (.slice A2 n2 c2) (pre.flatMap (·.L)) x.L hV.1.2.1 rfl V.heap.size x.A j x.c hj.symm rfl ?_ ?_ ?_) ?_) ?_
    · exact hV.1.2.2.rd
    · have := hI.short
      rw [hn2] at this ⊢
      omega
    · exact Nat.le_trans hI.size hV.2.size
    · rintro v V' ⟨ho, hg⟩
      obtain ⟨A', c', e'⟩ := ho.shape
      refine ⟨⟨⟨A', c', ?_⟩, ho, hV.1.1.kept hg ?_⟩, (ComeX.refl X V).grown hg (fun r e _ => by rw [hX]; exact .inr e)⟩
      · rw [e', List.length_append, hn2, hj]
      · cases hb : (Value.slice A2 n2 c2).ownBlock with
        | none => cases hb3 : (Value.slice A5 (n1 + 1) c5).ownBlock with
          | none => exact .inl rfl
          | some q => exact .inr (by simp)
        | some q => exact .inr (OwnL.apart hV.1.1 hV.1.2.1 (by decide) hb)
    rintro _ ⟨A9, c9, rfl⟩
    simp only [Act.put, List.setIfInBounds_toArray, List.set_cons_zero, List.set_cons_succ]
    refine mixS_store rfl rfl 33 (.tmp 12) (.tmp 42) rfl b12 0 CT.toArray rfl rfl (fun V hV => Blk.there (hV.2.blk k12 nx12) (by rw [List.size_toArray, List.size_toArray, stCells_length, hlen]; decide)) (by rw [List.size_toArray]; exact hszT) hone ?_
    simp only [Act.put, List.setIfInBounds_toArray, List.set_cons_zero, List.set_cons_succ]
    refine mixS_storeSl rfl rfl 47 (.tmp 13) (.tmp 46) rfl b13 0 A5 (n1 + 1) c5 rfl rfl (fun V' hV => by
      obtain ⟨V, hV, rfl⟩ := hV
      exact Blk.there ((hV.2.blk r1 nx13).farC (by omega) 0 _) (Nat.le_refl 1)) (by kernel_rfl) ?_
    simp only [Act.put, List.setIfInBounds_toArray, List.set_cons_zero, List.set_cons_succ]
    refine mixS_storeSl rfl rfl 36 (.tmp 14) (.tmp 50) rfl (b13 + 1) 0 A9 (n2 + j) c9 rfl rfl (fun V' hV => by
      obtain ⟨V1, ⟨V, hV, rfl⟩, rfl⟩ := hV
      exact Blk.there (((hV.2.blk r2 nx14).farC (by omega) 0 _).farG (by omega) 0 _) (Nat.le_refl 1)) (by kernel_rfl) ?_
    simp only [Act.put, List.setIfInBounds_toArray, List.set_cons_zero, List.set_cons_succ]
    refine mixS_nil ?_
    rintro W8 ⟨W7, ⟨W6, ⟨W5, ⟨⟨ho9, ho5⟩, hC⟩, rfl⟩, rfl⟩, rfl⟩
    have hlow : ∀ k, k ≠ b12 → k ≠ b13 → k ≠ b13 + 1 → (((W5.setCells b12 0 CT.toArray.toList).setCell ⟨b13, 0, none⟩ (.slice A5 (n1 + 1) c5)).setCell ⟨b13 + 1, 0, none⟩ (.slice A9 (n2 + j) c9)).heap[k]? = W5.heap[k]? := fun k e1 e2 e3 =>
      (Below.heap_setCell _ _ _ k e3).trans ((Below.heap_setCell _ _ _ k e2).trans (setCells_block W5 b12 _ 0 k e1))
    have hsz8 : (((W5.setCells b12 0 CT.toArray.toList).setCell ⟨b13, 0, none⟩ (.slice A5 (n1 + 1) c5)).setCell ⟨b13 + 1, 0, none⟩ (.slice A9 (n2 + j) c9)).heap.size = W5.heap.size := by simp [World.setCell, setCells_size]
    have hrest := setCells_rest W5 b12 CT.toArray.toList 0
    have t12 := ((hC.blk k12 nx12).whole CT.toArray.toList (by rw [List.size_toArray, stCells_length]; simp [hlen]))
    have t13 := ((hC.blk r1 nx13).farC (show b13 ≠ b12 by omega) 0 CT.toArray.toList).set 0 (.slice A5 (n1 + 1) c5)
    have t14 := (((hC.blk r2 nx14).farC (show b13 + 1 ≠ b12 by omega) 0 CT.toArray.toList).farG (show b13 + 1 ≠ b13 by omega) 0 (.slice A5 (n1 + 1) c5)).set 0 (.slice A9 (n2 + j) c9)
    have e1 : ((pre ++ [x]).map fun r => (r.x, r.y)) = (pre.map fun r => (r.x, r.y)) ++ [(x.x, x.y)] := by rw [List.map_append]; rfl
    have e2 : ((pre ++ [x]).flatMap (·.L)) = (pre.flatMap (·.L)) ++ x.L := by rw [List.flatMap_append]; simp
    obtain ⟨Z, hZ, k8⟩ := hI.s8
    have hm1 : b13 + 1 < m := by omega
    refine ⟨⟨by rw [hsz8]; exact hC.size, fun k o hk ho hc => ?_⟩, ⟨by rw [hsz8]; exact hC.size, fun r t cs hr ht1 ht2 hx => ?_⟩, ⟨⟨hrest.1.trans (hC.os.trans hI.below.os), hrest.2.1.trans (hC.tape.trans hI.below.tape), hrest.2.2.trans (hC.output.trans hI.below.output), by rw [hsz8]; exact Nat.le_trans hI.below.size hC.size, fun k hk => ?_⟩, ⟨Z, hZ, ?_⟩, ?_, ⟨A5, c5, A9, c9, ?_, ?_, ?_, ?_⟩, by rw [hsz8]; exact Nat.le_trans hI.size hC.size, ?_, hI.low⟩⟩
    · rw [hlow k (by omega) (by omega) (by omega), hC.block k (Array.getElem?_eq_some_iff.1 ho).1 (fun e => by
        obtain ⟨-, cur, E, fz, q, -⟩ := hXm k e
        rw [q] at ho; cases ho; cases hc)]
      exact ho
    · refine (hlow r (fun e => hx (.inl e)) (fun e => hx (.inr (.inl e))) (fun e => hx (.inr (.inr e)))).trans ((hC.block r hr.lt (fun e => ?_)).trans hr)
      obtain ⟨-, cur, E, fz, q, hE⟩ := hXm r e
      have h' : W.heap[r]? = some (.cells cs t (0, 0)) := hr
      rw [h'] at q; cases q
      rcases hE with h | h
      · exact ht2 h
      · exact ht1 h
    · rw [hlow k (by omega) (by omega) (by omega), hC.block k (Nat.lt_of_lt_of_le hk hI.below.size) (hXb k (by omega)), hI.below.block k hk]
    · exact (hlow _ (by omega) (by omega) (by omega)).trans (hC.blk k8 (hXb _ (by omega)))
    · rw [lastM_snoc, hCT]
      exact (t12.farG (by omega) 0 _).farG (by omega) 0 _
    · rw [e1, List.length_append, hn1]
      exact t13.farG (by omega) 0 _
    · rw [e2, List.length_append, hn2, hj]
      exact t14
    · rw [e1, List.length_append, hn1]
      exact ((ho5.farC (ho5.ne_low (by omega)) 0 _).farG (ho5.ne_low (by omega)) 0 _).farG (ho5.ne_low (by omega)) 0 _
    · rw [e2, List.length_append, hn2, hj]
      exact ((ho9.farC (ho9.ne_low (by omega)) 0 _).farG (ho9.ne_low (by omega)) 0 _).farG (ho9.ne_low (by omega)) 0 _
    · have := hI.short
      rw [e2, List.length_append, List.length_append, List.length_singleton]
      omega
  case done =>
    rintro D m xs W hD hS hI hK
    obtain ⟨Z, hZ, k8⟩ := hI.s8
    obtain ⟨A1, c1, A2, c2, r1, r2, r3, r4⟩ := hI.rows
    have k12 := hI.s12
    have hB := hI.below
    obtain ⟨hm, hm0⟩ := hI.low
    rw [HT0.out] at hS
    obtain ⟨f1, f2, f3⟩ := rounds_core hS
    rw [f1] at k12
    rw [f2] at r1 r3
    rw [f3] at r2 r4
    obtain ⟨n1, hn1⟩ : ∃ n1, ((preM a b T0 N).map (·.1)).length = n1 := ⟨_, rfl⟩
    obtain ⟨n2, hn2⟩ : ∃ n2, ((preM a b T0 N).flatMap (·.2.2)).length = n2 := ⟨_, rfl⟩
    rw [hn1] at r1 r3
    rw [hn2] at r2 r4
    obtain ⟨CF, hCF⟩ : ∃ CF, stCells (stM a b T0 N) = CF := ⟨_, rfl⟩
    have hlen : CF.length = 60 := by rw [← hCF, stCells_length]
    have hone := all_oneCell_toArray (int_one (stM a b T0 N))
    rw [hCF] at hone k12
    have hszT : (Tryz.prog.info? 33).map (·.size) = some CF.length := by rw [hlen]; kernel_rfl
    have l12 := k12.lt
    have l13 := r1.lt
    have l14 := r2.lt
    have c13 := r1.cell 0
    have c14 := r2.cell 0
    simp only [List.getElem?_toArray, List.getElem?_cons_zero] at c13 c14
    obtain ⟨X, hX⟩ : ∃ X : Nat → Prop, X = fun k => k = w.heap.size := ⟨_, rfl⟩
    have nx12 : ¬ X b12 := by rw [hX]; show ¬ (b12 = _); omega
    have nx13 : ¬ X b13 := by rw [hX]; show ¬ (b13 = _); omega
    have nx14 : ¬ X (b13 + 1) := by rw [hX]; show ¬ (b13 + 1 = _); omega
    have hcome : ∀ W', Grown W W' → ComeX X W W' := fun W' h => ComeX.of_grown X h
    clear hI f1 f2 f3 hS
    go_upto_region 10 with fail
    refine wp_region_mixedS X [.held, .held, .held, .make, .pure, .pure, .pure] (by kernel_rfl) (by kernel_rfl) ?_
    refine mixS_load rfl rfl hcome 33 (.tmp 12) rfl b12 0 rfl CF _ l12 nx12 (Blk.range k12) Tryz.underlying33 rfl hszT ?_
    simp only [Act.put, List.setIfInBounds_toArray, List.set_cons_zero, List.set_cons_succ]
    refine mixS_hrun (.slice A1 n1 c1) rfl rfl hcome (fun V hV => runs_loadSl 47 34 (.tmp 13) rfl b13 0 rfl Tryz.underlying47 ((hV.cell l13 nx13).trans c13)) ?_
    simp only [Act.put, List.setIfInBounds_toArray, List.set_cons_zero, List.set_cons_succ]
    refine mixS_hrun (.slice A2 n2 c2) rfl rfl hcome (fun V hV => runs_loadSl 36 65 (.tmp 14) rfl (b13 + 1) 0 rfl Tryz.underlying36 ((hV.cell l14 nx14).trans c14)) ?_
    simp only [Act.put, List.setIfInBounds_toArray, List.set_cons_zero, List.set_cons_succ]
    refine mixS_act rfl rfl hcome (fun v => v = undef) (fun _ V' => ∃ V, Grown W V ∧ V' = V.setCells w.heap.size 0 CF.toArray.toList) (fun V hV => goes_store 33 (.tmp 8) (.tmp 51) rfl w.heap.size 0 CF.toArray rfl rfl (Blk.there (k8.on hV) (by rw [List.size_toArray, hlen, hZ]; decide)) (by rw [List.size_toArray]; exact hszT) hone ⟨⟨rfl, V, hV, rfl⟩, ?_⟩) ?_
    · exact (ComeX.refl X V).grown (grownBy_setCells V w.heap.size 0 _) (fun r e _ => by cases e; rw [hX])
    rintro _ rfl
    simp only [Act.put, List.setIfInBounds_toArray, List.set_cons_zero, List.set_cons_succ]
    repeat (first | (refine mixS_pure rfl rfl rfl (fun K hK => ?_); go_big_quiet_op; refine hK _ ?_; clear hK K) | fail)
    refine mixS_nil ?_
    rintro W8 ⟨⟨W7, hg7, rfl⟩, -⟩
    have k88 : Blk (W7.setCells w.heap.size 0 CF.toArray.toList) w.heap.size 33 CF.toArray := (k8.on hg7).whole CF (by rw [hlen, hZ])
    have hB8 : Below w.heap.size w (W7.setCells w.heap.size 0 CF.toArray.toList) := bSetCells (bTrans hB hg7) (Nat.le_refl _) 0 _
    have hK8 : (W7.setCells w.heap.size 0 CF.toArray.toList).heap[D]? = some (.deferred (some [])) := (setCells_block W7 _ _ 0 D (by omega)).trans ((hg7.block D (Array.getElem?_eq_some_iff.1 hK).1).trans hK)
    have q3 := (r3.below hg7).farC (r3.ne_low (show w.heap.size < m by omega)) 0 CF.toArray.toList
    have q4 := (r4.below hg7).farC (r4.ne_low (show w.heap.size < m by omega)) 0 CF.toArray.toList
    obtain ⟨W9, hW9⟩ : ∃ W9, W7.setCells w.heap.size 0 CF.toArray.toList = W9 := ⟨_, rfl⟩
    rw [hW9] at k88 hB8 hK8 q3 q4 ⊢
    clear hW9
    go_wp2_with fail
    have hD9 : w.heap.size ≤ D := Nat.le_trans h0 hD
    refine ⟨by simp, .inl ⟨_, _, rfl, run_takeDeferred hK8, ?_⟩⟩
    have k9 := (k88.putObj (o' := .deferred none) hK8 rfl)
    have q5 := (q3.putObj (o' := .deferred none) hK8 rfl).more hm0
    have q6 := (q4.putObj (o' := .deferred none) hK8 rfl).more hm0
    have hB9 : Below w.heap.size w (W9.putObj D (.deferred none)) := hB8.grown (grownBy_putObj' W9 D (.deferred none)) hB8.size (fun k e => by cases e; exact hD9)
    refine ⟨.tuple #[.agg CF.toArray, .slice A1 n1 c1, .slice A2 n2 c2, .int .i64 0], ?_, ⟨_, _, by rw [hCF], q5, q6, hB9⟩⟩
    refine results_c3 (a := 8) (x := 9) (y := 10) (z := 11) (t := 33) (p := ⟨w.heap.size, 0, none⟩) (v := .agg CF.toArray) ?_ ?_ ?_
    · rfl
    · rfl
    · exact run_loadVar_mid _ _ _ 33 CF _ (Blk.range k9) Tryz.underlying33 rfl hszT
end Go.Proofs.YtnaclkaapicelaaGreat
