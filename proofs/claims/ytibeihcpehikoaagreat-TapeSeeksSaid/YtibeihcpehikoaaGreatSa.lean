/-
  The walks beneath: RgSb, MixY.
-/
import Derived.Test.YtibeihcpehikoaaGreatSx
import Derived.Test.YtibeihcpehikoaaGreatNl6
namespace Go.Proofs.YtibeihcpehikoaaGreat
open Go.RowKit
section
section
variable {α : Type} {P : Program} {n : Nat}
def Abides (B : Nat) (J : Nat → List α → World → Prop) : Prop := ∀ m pre A A' row, J m pre A → A.grownBy A' row → TurnsOwn B m A row → J m pre A'
def SeqStB (n : Nat) (P : Program) (gf : Nat) (lb : Array Value) (encs : α → Array Value) (Yp : Nat → List α → α → World → Prop) (Kp : World → World → Prop) (S Sp : List α → Prop) (w0 : World) : Prop :=
 ∀ (l : Nat) (J Js : Nat → List α → World → Prop) (W : World), Below w0.heap.size w0 W → Abides W.heap.size J → Abides W.heap.size Js →
  (∀ A, W.grownBy A none → J A.heap.size [] A) →
  (∀ m pre x A, W.heap.size ≤ m → J m pre A → Yp m pre x A → YieldAt Fence.wide (n - 1) P l (encs x) A fun e A' => (e = .returned (.bool true) ∧ J m (pre ++ [x]) A' ∧ Kp A A') ∨ (e = .returned (.bool false) ∧ Js m (pre ++ [x]) A')) →
  CallsIn Fence.wide n P gf (#[.func (.yield l) #[] #[]] ++ lb) W fun e A => (∃ v, e = .returned v) ∧ ∃ m xs, W.heap.size ≤ m ∧ ((S xs ∧ J m xs A) ∨ (Sp xs ∧ Js m xs A))
def goesOnB (B : Nat) (Kp : World → World → Prop) (I : List α → World → Prop) (Ix : Code → List α → World → Prop) (xs : List α) (W : World) : Exit → Act → World → Prop
 | .normal, _, W' => KeepsFrom B W W' ∧ Kp W W' ∧ I xs W'
 | .ret, _, W' => KeepsFrom B W W' ∧ Ix .ret xs W'
 | .exit id, _, W' => KeepsFrom B W W' ∧ Ix (.exit id) xs W'
 | _, _, _ => False
theorem wpIn_rangeFunc_stB {g : Operand} {ps : Array Tmp} {assign body : Code} {Q : Exit → Act → World → Prop} {a : Act} {w : World} (h1 : 1 ≤ n) {gf : Nat} {lb : Array Value} (hg : a.eval g = .func (.func gf) #[] lb) (eg : ∀ args w, (callFunc gf args).run P w = .ok (.enter gf args) w)
  {encs : α → Array Value} {Yp : Nat → List α → α → World → Prop} {Kp : World → World → Prop} {S Sp : List α → Prop} (hseq : SeqStB (n - 1) P gf lb encs Yp Kp S Sp w) (hps : ∀ x, (encs x).size = ps.size)
  (hKt : ∀ {A B C : World}, Kp A B → Kp B C → Kp A C) (hKb : ∀ (W : World) (l : Nat) (o o' : Obj), w.heap.size ≤ l → W.heap[l]? = some o → o.isCells = false → Kp W (W.putObj l o'))
  (I : Nat → List α → World → Prop) (Ix : Code → Nat → List α → World → Prop)
  (hI : ∀ m pre A A' row, I m pre A → A.grownBy A' row → (∀ r, row = some r → w.heap.size ≤ r ∧ ((∃ o : Obj, A.heap[r]? = some o ∧ o.isCells = false) ∨ (r < m ∧ ∃ o : Obj, A.heap[r]? = some o ∧ o.isCells = true))) → I m pre A')
  (hIx : ∀ c m pre A A' row, Ix c m pre A → A.grownBy A' row → (∀ r, row = some r → w.heap.size ≤ r ∧ ((∃ o : Obj, A.heap[r]? = some o ∧ o.isCells = false) ∨ (r < m ∧ ∃ o : Obj, A.heap[r]? = some o ∧ o.isCells = true))) → Ix c m pre A')
  (h0 : ∀ A, w.grownBy A none → I A.heap.size [] A) (Ax : α → Act → World → Prop) (hAx : ∀ x a' A l o o', Ax x a' A → w.heap.size ≤ l → A.heap[l]? = some o → o.isCells = false → Ax x a' (A.putObj l o'))
  (hassign : ∀ (l m : Nat) (pre : List α) (x : α) (W : World) (K : Act → World → Prop), w.heap.size ≤ m → I m pre W → Yp m pre x W → (∀ a' W', KeepsFrom w.heap.size W W' → Kp W W' → I m pre W' → Yp m pre x W' → Ax x a' W' → K a' W') →
   assign.wpIn (Fence.wide.inRound l) (n - 1 - 1) P (Exit.then K (fun _ _ _ => False)) { tmps := (ps.zip (encs x)).foldl (fun t (p, v) => t.setIfInBounds p v) a.tmps, defers := [] } W)
  (hYp : ∀ m pre x A l o o', Yp m pre x A → w.heap.size ≤ l → A.heap[l]? = some o → o.isCells = false → Yp m pre x (A.putObj l o'))
  (hbody : ∀ (l m : Nat) (pre : List α) (x : α) (a' : Act) (W : World), w.heap.size ≤ m → I m pre W → Yp m pre x W → Ax x a' W → body.wpIn (Fence.wide.inRound l) (n - 1 - 1) P (goesOnB w.heap.size Kp (I m) (fun c => Ix c m) (pre ++ [x]) W) a' W)
  (hdone : ∀ (D m : Nat) (xs : List α) (W : World), w.heap.size ≤ D → S xs → I m xs W → W.heap[D]? = some (.deferred (some [])) → Q .normal { a with defers := { target := .collected D, args := #[] } :: a.defers } W)
  (hstop : ∀ (D : Nat) (c : Code) (m : Nat) (xs : List α) (W : World), w.heap.size ≤ D → Sp xs → Ix c m xs W → W.heap[D]? = some (.deferred (some [])) → c.wpIn Fence.wide n P Q { a with defers := { target := .collected D, args := #[] } :: a.defers } W) :
  (Code.rangeFunc g ps assign body).wpIn Fence.wide n P Q a w := by
 refine wpIn_rangeFunc fun fn _ => ?_
 obtain ⟨rc, hrc⟩ : ∃ rc : LoopState → Option Code → Loop, rc = fun st pe => { state := st, pending := pe, fn := fn, tmps := a.tmps, params := ps, assign := assign, body := body, defers := w.heap.size } := ⟨_, rfl⟩
 obtain ⟨V, hV⟩ : ∃ V, (w.alloc (.deferred (some []))).alloc (.loop (rc .ready none)) = V := ⟨_, rfl⟩
 have hz : V.heap.size = w.heap.size + 2 := by rw [← hV]; simp
 have hgV : w.grownBy V none := by rw [← hV]; exact (World.grownBy_alloc w _ none).trans (World.grownBy_alloc _ _ none)
 have hbV : Below w.heap.size w V := by rw [← hV]; exact (((Below.refl _ w).alloc (zL _) _).alloc (by simp) _)
 have hl0 : V.heap[w.heap.size + 1]? = some (.loop (rc .ready none)) := by
  rw [← hV]
  have := World.alloc_heap_new (w.alloc (.deferred (some []))) (.loop (rc .ready none))
  rwa [World.size_alloc] at this
 have hd0 : V.heap[w.heap.size]? = some (.deferred (some [])) := by
  rw [← hV]
  exact (Below.heap_alloc _ _ _ (by simp)).trans (World.alloc_heap_new w _)
 have hturn : ∀ {m : Nat} {A A' : World} {row : Option Nat}, A.grownBy A' row → TurnsOwn V.heap.size m A row →
   (∀ (k : Nat) (o : Obj), A.heap[k]? = some o → o.isCells = false → A'.heap[k]? = some o) ∧ (∀ r, row = some r → w.heap.size ≤ r ∧ ((∃ o : Obj, A.heap[r]? = some o ∧ o.isCells = false) ∨ (r < m ∧ ∃ o : Obj, A.heap[r]? = some o ∧ o.isCells = true))) := fun hgr hrow => by
  refine ⟨fun k o hk ho => ?_, fun r e => ?_⟩
  ·rw [hgr.block k (Array.getElem?_eq_some_iff.1 hk).1 (fun e => by
    obtain ⟨-, -, o', ho', hc⟩ := hrow k e.symm
    rw [hk] at ho'; cases ho'; rw [ho] at hc; cases hc)]
   exact hk
  ·obtain ⟨q1, q2, q3⟩ := hrow r e
   exact ⟨by omega, .inr ⟨q2, q3⟩⟩
 refine ⟨w.heap.size + 1, [{ target := .collected w.heap.size, args := #[] }], V, { target := .fn (.func gf) lb, args := #[.func (.yield (w.heap.size + 1)) #[] #[]] }, V, gf, #[.func (.yield (w.heap.size + 1)) #[] #[]] ++ lb, V, ?_, ?_, fun _ _ => trivial, ?_, fun _ => h1, ?_⟩
 ·rw [← hV, hrc]; exact run_enterLoop_outer _ _ _ _ _
 ·simp only [resolve, hg]
  simp [go_sem]
 ·simp [invoke, go_sem, eg]
 ·refine (hseq (w.heap.size + 1) (fun m pre W => I m pre W ∧ W.heap[w.heap.size + 1]? = some (.loop (rc .ready none)) ∧ W.heap[w.heap.size]? = some (.deferred (some [])))
   (fun m pre W => ∃ c, Ix c m pre W ∧ W.heap[w.heap.size + 1]? = some (.loop (rc .done (some c))) ∧ W.heap[w.heap.size]? = some (.deferred (some []))) V hbV ?_ ?_ ?_ ?_).mono ?_
  ·rintro m pre A A' row ⟨hi, hl, hd⟩ hgr hrow
   obtain ⟨h2, h3⟩ := hturn hgr hrow
   exact ⟨hI m pre A A' row hi hgr h3, h2 _ _ hl rfl, h2 _ _ hd rfl⟩
  ·rintro m pre A A' row ⟨c, hi, hl, hd⟩ hgr hrow
   obtain ⟨h2, h3⟩ := hturn hgr hrow
   exact ⟨c, hIx c m pre A A' row hi hgr h3, h2 _ _ hl rfl, h2 _ _ hd rfl⟩
  ·intro A hA
   refine ⟨h0 A (hgV.trans hA), ?_, ?_⟩
   ·rw [hA.block _ (by omega) (by simp)]; exact hl0
   ·rw [hA.block _ (by omega) (by simp)]; exact hd0
  ·rintro m pre x A hm ⟨hi, hl, hd⟩ hyp
   have hy := run_yield (P := P) (args := encs x) hl (by rw [hrc]; exact hps x)
   rw [hrc] at hy
   refine ⟨fn, _, assign, body, hy, roundIn_of_wpIn trivial (hassign _ m pre x A _ (by omega) hi hyp ?_)⟩
   intro a' B hkf hkp hib hyb hax
   have hlB := hkf.same _ _ (by omega) hl rfl
   have hdB := hkf.same _ _ (zL _) hd rfl
   have hltB : w.heap.size + 1 < B.heap.size := (Array.getElem?_eq_some_iff.1 hlB).1
   refine ⟨_, run_beginRound hlB (by rw [hrc]), ?_⟩
   have hrow : ∀ (C : World) (o : Obj), C.heap[w.heap.size + 1]? = some o → o.isCells = false → ∀ (m : Nat) (r : Nat), some (w.heap.size + 1) = some r → w.heap.size ≤ r ∧ ((∃ o : Obj, C.heap[r]? = some o ∧ o.isCells = false) ∨ (r < m ∧ ∃ o : Obj, C.heap[r]? = some o ∧ o.isCells = true)) := fun C o hC ho m r e => by
    cases e; exact ⟨by omega, .inl ⟨o, hC, ho⟩⟩
   have hput : ∀ (C : World) (o o' : Obj), C.heap[w.heap.size + 1]? = some o → o.isCells = false → ∀ m pre, I m pre C → I m pre (C.putObj (w.heap.size + 1) o') := fun C o o' hC ho m pre h =>
    hI m pre C _ _ h (grownBy_putObj' C (w.heap.size + 1) o') (hrow C o hC ho m)
   have hputx : ∀ (c : Code) (C : World) (o o' : Obj), C.heap[w.heap.size + 1]? = some o → o.isCells = false → ∀ m pre, Ix c m pre C → Ix c m pre (C.putObj (w.heap.size + 1) o') := fun c C o o' hC ho m pre h =>
    hIx c m pre C _ _ h (grownBy_putObj' C (w.heap.size + 1) o') (hrow C o hC ho m)
   obtain ⟨C, hC⟩ : ∃ C, B.putObj (w.heap.size + 1) (.loop { rc .ready none with state := .busy }) = C := ⟨_, rfl⟩
   have hlC : C.heap[w.heap.size + 1]? = some (.loop { rc .ready none with state := .busy }) := by rw [← hC]; exact World.putObj_heap_same hltB
   have hdC : C.heap[w.heap.size]? = some (.deferred (some [])) := by rw [← hC]; exact (World.putObj_heap_other (by omega)).trans hdB
   have hKC : Kp B C := by rw [← hC]; exact hKb _ _ _ _ (by omega) hlB rfl
   have hiC : I m pre C := by rw [← hC]; exact hput B _ _ hlB rfl m pre hib
   have hyC : Yp m pre x C := by rw [← hC]; exact hYp _ _ _ _ _ _ _ hyb (by omega) hlB rfl
   have haC : Ax x a' C := by rw [← hC]; exact hAx _ _ _ _ _ _ hax (by omega) hlB rfl
   rw [hC]
   have fin : ∀ (jump : Option Code) (E : World), KeepsFrom w.heap.size C E →
     (Instr.endRound (w.heap.size + 1) jump).run P E = .ok (.bool jump.isNone) (E.putObj (w.heap.size + 1) (.loop (rc (if jump.isNone then .ready else .done) jump))) ∧
     E.heap[w.heap.size + 1]? = some (.loop { rc .ready none with state := .busy }) ∧
     (E.putObj (w.heap.size + 1) (.loop (rc (if jump.isNone then .ready else .done) jump))).heap[w.heap.size + 1]? = some (.loop (rc (if jump.isNone then .ready else .done) jump)) ∧
     (E.putObj (w.heap.size + 1) (.loop (rc (if jump.isNone then .ready else .done) jump))).heap[w.heap.size]? = some (.deferred (some [])) := fun jump E hkE => by
    have hlE := hkE.same _ _ (by omega) hlC rfl
    have hdE := hkE.same _ _ (zL _) hdC rfl
    have hltE : w.heap.size + 1 < E.heap.size := (Array.getElem?_eq_some_iff.1 hlE).1
    have hr := run_endRound (P := P) jump hlE
    rw [hrc] at hr hlE ⊢
    exact ⟨hr, hlE, World.putObj_heap_same hltE, (World.putObj_heap_other (by omega)).trans hdE⟩
   refine wpIn_mono (hbody (w.heap.size + 1) m pre x a' C (by omega) hiC hyC haC) ?_
   intro e a3 E hp
   cases e with
   | normal =>
    obtain ⟨hkE, hkpE, hiE⟩ := hp
    obtain ⟨hr, hlE, hl4, hd4⟩ := fin none E hkE
    exact ⟨_, _, hr, .inl ⟨rfl, ⟨hput E _ _ hlE rfl m _ hiE, hl4, hd4⟩, hKt hkp (hKt hKC (hKt hkpE (hKb _ _ _ _ (by omega) hlE rfl)))⟩⟩
   | ret =>
    obtain ⟨hkE, hiE⟩ := hp
    obtain ⟨hr, hlE, hl4, hd4⟩ := fin (some .ret) E hkE
    exact ⟨_, _, hr, .inr ⟨rfl, .ret, hputx _ E _ _ hlE rfl m _ hiE, hl4, hd4⟩⟩
   | exit id =>
    obtain ⟨hkE, hiE⟩ := hp
    obtain ⟨hr, hlE, hl4, hd4⟩ := fin (some (.exit id)) E hkE
    exact ⟨_, _, hr, .inr ⟨rfl, .exit id, hputx _ E _ _ hlE rfl m _ hiE, hl4, hd4⟩⟩
   | goto t => exact hp.elim
   | panic ch => exact hp.elim
   | outgrown => exact hp.elim
  ·rintro e A ⟨⟨v, rfl⟩, m, xs, hm, (⟨hS, hi, hl, hd⟩ | ⟨hSp, c, hi, hl, hd⟩)⟩
   ·have hr := run_endLoop (P := P) hl (by rw [hrc]; simp)
    rw [hrc] at hr
    refine ⟨none, _, hr, hdone w.heap.size m xs _ (zL _) hS ?_ ((World.putObj_heap_other (by omega)).trans hd)⟩
    exact hI m xs A _ _ hi (grownBy_putObj' A (w.heap.size + 1) _) (fun r e => by cases e; exact ⟨by omega, .inl ⟨_, hl, rfl⟩⟩)
   ·have hr := run_endLoop (P := P) hl (by rw [hrc]; simp)
    rw [hrc] at hr
    refine ⟨some c, _, hr, hstop w.heap.size c m xs _ (zL _) hSp ?_ ((World.putObj_heap_other (by omega)).trans hd)⟩
    exact hIx c m xs A _ _ hi (grownBy_putObj' A (w.heap.size + 1) _) (fun r e => by cases e; exact ⟨by omega, .inl ⟨_, hl, rfl⟩⟩)
end
end
section
section
variable {P : Program} {ops : Array Oper} {md : Region.Mode} {kd : Nat → Kd} {sp : Nat → Told}
abbrev Facts := Nat → World → Prop
def AllF (w : World) (F : Facts) (W : World) : Prop := Grown w W ∧ ∀ i, F i W
def updF (F : Facts) (i : Nat) (R : World → Prop) : Facts := fun n W => F n W ∧ (n = i → R W)
def StabF (F : Facts) : Prop := ∀ i W U, F i W → Grown W U → F i U
structure OkF (w : World) (F : Facts) : Prop where
 some_ : ∃ W, AllF w F W
 stab : StabF F
theorem updF_ne {F : Facts} {i n : Nat} {R : World → Prop} (h : n ≠ i) : updF F i R n = F n := by
 funext W; exact propext ⟨fun k => k.1, fun k => ⟨k, fun e => absurd e h⟩⟩
theorem updF_comm {F : Facts} {i j : Nat} {A B : World → Prop} : updF (updF F i A) j B = updF (updF F j B) i A := by
 funext n W; exact propext ⟨fun ⟨⟨a, b⟩, c⟩ => ⟨⟨a, c⟩, b⟩, fun ⟨⟨a, b⟩, c⟩ => ⟨⟨a, c⟩, b⟩⟩
theorem AllF.upd {w W W' : World} {F : Facts} {i : Nat} {R : World → Prop} (h : AllF w F W) (hs : StabF F) (hg : Grown W W') (hR : R W') : AllF w (updF F i R) W' := ⟨h.1.trans hg, fun n => ⟨hs n W W' (h.2 n) hg, fun _ => hR⟩⟩
theorem AllF.before {w W : World} {F : Facts} {i : Nat} {R : World → Prop} (h : AllF w (updF F i R) W) : AllF w F W := ⟨h.1, fun n => (h.2 n).1⟩
theorem StabF.upd {F : Facts} {i : Nat} {R : World → Prop} (hs : StabF F) (hR : ∀ W U, R W → Grown W U → R U) : StabF (updF F i R) := fun n W U h hg => ⟨hs n W U h.1 hg, fun e => hR W U (h.2 e) hg⟩
theorem OkF.none (w : World) : OkF w (fun _ _ => True) := ⟨⟨w, Grown.refl w, fun _ => trivial⟩, fun _ _ _ _ _ => trivial⟩
def yStep (P : Program) (md : Region.Mode) (ops : Array Oper) (kd : Nat → Kd) (sp : Nat → Told) (o : Oper) (i : Nat) (K : Act → World → Facts → Prop) (a : Act) (w : World) (F : Facts) : Prop :=
 if Region.wanted o (yielded ops a.tmps) = true then
  match kd i with
  | .pure => ∃ v, (∀ W, RunsTo P o a W v) ∧ K (a.put o.dst v) w F
  | .held => ∃ v, (∀ W, Grown w W → RunsTo P o a W v) ∧ K (a.put o.dst v) w F
  | .make => (∀ v W U, (sp i).R v W → Grown W U → (sp i).R v U) ∧ (∀ W, Grown w W → (∀ n, waitsM md ops i n = true → F n W) → Oper.goes P o a W (fun u W' => ((sp i).S u ∧ (sp i).R u W') ∧ Grown W W')) ∧ ∀ v, (sp i).S v → OkF w (updF F i ((sp i).R v)) → K (a.put o.dst v) w (updF F i ((sp i).R v))
  | .tail => ∃ T : Value → World → Prop, (∀ W, AllF w F W → Oper.goes P o a W T) ∧ ∀ v W', T v W' → K (a.put o.dst v) W' (fun _ _ => True)
 else K (a.put o.dst undef) w F
def yOp (P : Program) (md : Region.Mode) (ops : Array Oper) (kd : Nat → Kd) (sp : Nat → Told) (i : Nat) (K : Act → World → Facts → Prop) (a : Act) (w : World) (F : Facts) : Prop :=
 match ops[i]? with
 | none => K a w F
 | some o => yStep P md ops kd sp o i K a w F
theorem yStep_mono {o : Oper} {i : Nat} {a : Act} {w : World} {F : Facts} {K K' : Act → World → Facts → Prop} (hne : OkF w F) (h : ∀ a w F, OkF w F → K a w F → K' a w F) (hh : yStep P md ops kd sp o i K a w F) : yStep P md ops kd sp o i K' a w F := by
 unfold yStep at *
 split
 ·rename_i hw
  rw [if_pos hw] at hh
  cases hk : kd i <;> rw [hk] at hh <;> simp only at hh ⊢
  ·obtain ⟨v, h1, h2⟩ := hh; exact ⟨v, h1, h _ _ _ hne h2⟩
  ·obtain ⟨v, h1, h2⟩ := hh; exact ⟨v, h1, h _ _ _ hne h2⟩
  ·obtain ⟨h0, h1, h2⟩ := hh; exact ⟨h0, h1, fun v hv hn => h _ _ _ hn (h2 v hv hn)⟩
  ·obtain ⟨T, h1, h2⟩ := hh; exact ⟨T, h1, fun v W' ht => h _ _ _ (OkF.none W') (h2 v W' ht)⟩
 ·rename_i hw; rw [if_neg hw] at hh; exact h _ _ _ hne hh
theorem make_some {o : Oper} {i : Nat} {a : Act} {w : World} {F : Facts} (hne : OkF w F) (hst : ∀ v W U, (sp i).R v W → Grown W U → (sp i).R v U) (hM : ∀ W, Grown w W → (∀ n, waitsM md ops i n = true → F n W) → Oper.goes P o a W (fun u W' => ((sp i).S u ∧ (sp i).R u W') ∧ Grown W W')) : ∃ v, (sp i).S v ∧ OkF w (updF F i ((sp i).R v)) := by
 obtain ⟨W, hW⟩ := hne.some_
 obtain ⟨v, W', ⟨hs, hr⟩, hg⟩ := goes_some (hM W hW.1 (fun n _ => hW.2 n))
 exact ⟨v, hs, ⟨W', hW.upd hne.stab hg hr⟩, hne.stab.upd (hst v)⟩
theorem yStep_some {o : Oper} {i : Nat} {a : Act} {w : World} {F : Facts} {K : Act → World → Facts → Prop} (hne : OkF w F) (hh : yStep P md ops kd sp o i K a w F) : ∃ a' w' F', OkF w' F' ∧ K a' w' F' := by
 unfold yStep at hh
 split at hh
 ·cases hk : kd i <;> rw [hk] at hh <;> simp only at hh
  ·obtain ⟨v, -, h2⟩ := hh; exact ⟨_, _, _, hne, h2⟩
  ·obtain ⟨v, -, h2⟩ := hh; exact ⟨_, _, _, hne, h2⟩
  ·obtain ⟨h0, h1, h2⟩ := hh
   obtain ⟨v, hs, hn⟩ := make_some hne h0 h1
   exact ⟨_, _, _, hn, h2 v hs hn⟩
  ·obtain ⟨T, h1, h2⟩ := hh
   obtain ⟨W, hW⟩ := hne.some_
   obtain ⟨v, W', ht⟩ := goes_some (h1 W hW)
   exact ⟨_, _, _, OkF.none W', h2 v W' ht⟩
 ·exact ⟨_, _, _, hne, hh⟩
def swapY (a b : Kd) : Bool := match a, b with
 | .pure, _ => true
 | _, .pure => true
 | .tail, _ => false
 | _, .tail => false
 | _, _ => true
theorem yStep_swap {i j : Nat} {oi oj : Oper} (nij : waitsM md ops i j = false) (nji : waitsM md ops j i = false) (hap : oi.apart ops oj = true) (hsi : ∀ cs b, oi.op ≠ .select cs b) (hsj : ∀ cs b, oj.op ≠ .select cs b) (hk : swapY (kd i) (kd j) = true) {K : Act → World → Facts → Prop} {a : Act} {w : World} {F : Facts} (hne : OkF w F)
  (h : yStep P md ops kd sp oi i (fun a1 w1 D1 => yStep P md ops kd sp oj j K a1 w1 D1) a w F) : yStep P md ops kd sp oj j (fun a2 w2 D2 => yStep P md ops kd sp oi i K a2 w2 D2) a w F := by
 have fi : ∀ (R : World → Prop) (n : Nat), waitsM md ops i n = true → updF F j R n = F n := fun R n hn => updF_ne (fun e => by rw [e, nij] at hn; cases hn)
 have fj : ∀ (R : World → Prop) (n : Nat), waitsM md ops j n = true → updF F i R n = F n := fun R n hn => updF_ne (fun e => by rw [e, nji] at hn; cases hn)
 obtain ⟨h1, h2, h3⟩ := Oper.apart_spec hap
 have ei : ∀ (a : Act) u, execOp (a.put oj.dst u).eval oi = execOp a.eval oi := fun a u => execOp_put oi hsi a oj.dst u h3
 have ej : ∀ (a : Act) u, execOp (a.put oi.dst u).eval oj = execOp a.eval oj := fun a u => execOp_put oj hsj a oi.dst u h1
 have wi : ∀ (a : Act) u, Region.wanted oi (yielded ops (a.put oj.dst u).tmps) = Region.wanted oi (yielded ops a.tmps) := fun a u => wanted_put oi a oj.dst u h3
 have wj : ∀ (a : Act) u, Region.wanted oj (yielded ops (a.put oi.dst u).tmps) = Region.wanted oj (yielded ops a.tmps) := fun a u => wanted_put oj a oi.dst u h1
 have pc : ∀ (a : Act) u v, (a.put oi.dst u).put oj.dst v = (a.put oj.dst v).put oi.dst u := fun a u v => Act.put_comm a u v h2
 have ri : ∀ (a : Act) u W v, RunsTo P oi (a.put oj.dst u) W v ↔ RunsTo P oi a W v := fun a u W v => by unfold RunsTo; rw [ei]
 have rj : ∀ (a : Act) u W v, RunsTo P oj (a.put oi.dst u) W v ↔ RunsTo P oj a W v := fun a u W v => by unfold RunsTo; rw [ej]
 have gi : ∀ (a : Act) u W T, Oper.goes P oi (a.put oj.dst u) W T ↔ Oper.goes P oi a W T := fun a u W T => by unfold Oper.goes; rw [ei]
 have gj : ∀ (a : Act) u W T, Oper.goes P oj (a.put oi.dst u) W T ↔ Oper.goes P oj a W T := fun a u W T => by unfold Oper.goes; rw [ej]
 unfold yStep at h ⊢
 simp only [wi, wj, ri, rj, gi, gj] at h ⊢
 by_cases hwi : Region.wanted oi (yielded ops a.tmps) = true
 ·by_cases hwj : Region.wanted oj (yielded ops a.tmps) = true
  ·simp only [hwi, hwj, if_true] at h ⊢
   cases hki : kd i <;> cases hkj : kd j <;> rw [hki, hkj] at hk <;> simp only [hki, hkj] at h ⊢
   case tail.tail => simp [swapY] at hk
   case tail.held => simp [swapY] at hk
   case tail.make => simp [swapY] at hk
   case held.tail => simp [swapY] at hk
   case make.tail => simp [swapY] at hk
   case pure.pure =>
    obtain ⟨v, hv, u, hu, hK⟩ := h
    exact ⟨u, hu, v, hv, by rw [← pc]; exact hK⟩
   case pure.held =>
    obtain ⟨v, hv, u, hu, hK⟩ := h
    exact ⟨u, hu, v, hv, by rw [← pc]; exact hK⟩
   case pure.make =>
    obtain ⟨v, hv, hst, hM, hK⟩ := h
    exact ⟨hst, hM, fun u hu hn => ⟨v, hv, by rw [← pc]; exact hK u hu hn⟩⟩
   case pure.tail =>
    obtain ⟨v, hv, T, hg, hK⟩ := h
    exact ⟨T, hg, fun u W' hu => ⟨v, hv, by rw [← pc]; exact hK u W' hu⟩⟩
   case held.pure =>
    obtain ⟨v, hv, u, hu, hK⟩ := h
    exact ⟨u, hu, v, hv, by rw [← pc]; exact hK⟩
   case held.held =>
    obtain ⟨v, hv, u, hu, hK⟩ := h
    exact ⟨u, hu, v, hv, by rw [← pc]; exact hK⟩
   case held.make =>
    obtain ⟨v, hv, hst, hM, hK⟩ := h
    exact ⟨hst, hM, fun u hu hn => ⟨v, hv, by rw [← pc]; exact hK u hu hn⟩⟩
   case make.pure =>
    obtain ⟨hst, hM, hK⟩ := h
    obtain ⟨v0, hs0, hn0⟩ := make_some hne hst hM
    obtain ⟨u, hu, -⟩ := hK v0 hs0 hn0
    refine ⟨u, hu, hst, hM, fun v hv hn => ?_⟩
    obtain ⟨u', hu', hK'⟩ := hK v hv hn
    have : u' = u := runsTo_uniq (hu' w) (hu w)
    subst this
    rw [← pc]; exact hK'
   case make.held =>
    obtain ⟨hst, hM, hK⟩ := h
    obtain ⟨v0, hs0, hn0⟩ := make_some hne hst hM
    obtain ⟨u, hu, -⟩ := hK v0 hs0 hn0
    refine ⟨u, hu, hst, hM, fun v hv hn => ?_⟩
    obtain ⟨u', hu', hK'⟩ := hK v hv hn
    have : u' = u := runsTo_uniq (hu' w (Grown.refl w)) (hu w (Grown.refl w))
    subst this
    rw [← pc]; exact hK'
   case make.make =>
    obtain ⟨hst, hM, hK⟩ := h
    obtain ⟨v0, hs0, hn0⟩ := make_some hne hst hM
    obtain ⟨hst2, hM2, -⟩ := hK v0 hs0 hn0
    refine ⟨hst2, fun W hW hF => hM2 W hW (fun n hn => by rw [fj _ n hn]; exact hF n hn), fun u hu hn => ⟨hst, fun W hW hF => hM W hW (fun n hn => by have := hF n hn; rw [fi _ n hn] at this; exact this), fun v hv hn2 => ?_⟩⟩
    rw [updF_comm] at hn2 ⊢
    have hn1 : OkF w (updF F i ((sp i).R v)) := by
     obtain ⟨W, hW⟩ := hn2.some_
     exact ⟨⟨W, hW.before⟩, hne.stab.upd (hst v)⟩
    have := (hK v hv hn1).2.2 u hu hn2
    rw [← pc]
    exact this
   case tail.pure =>
    obtain ⟨T, hg, hK⟩ := h
    obtain ⟨W, hW⟩ := hne.some_
    obtain ⟨v0, W', ht0⟩ := goes_some (hg W hW)
    obtain ⟨u, hu, -⟩ := hK v0 W' ht0
    refine ⟨u, hu, T, hg, fun v W2 ht => ?_⟩
    obtain ⟨u', hu', hK'⟩ := hK v W2 ht
    have : u' = u := runsTo_uniq (hu' W) (hu W)
    subst this
    rw [← pc]; exact hK'
  ·simp only [hwi, hwj, if_true, Bool.false_eq_true, if_false] at h ⊢
   cases hki : kd i <;> simp only [hki] at h ⊢
   ·obtain ⟨v, hv, hK⟩ := h; exact ⟨v, hv, by rw [← pc]; exact hK⟩
   ·obtain ⟨v, hv, hK⟩ := h; exact ⟨v, hv, by rw [← pc]; exact hK⟩
   ·obtain ⟨hst, hM, hK⟩ := h; exact ⟨hst, hM, fun v hv hn => by rw [← pc]; exact hK v hv hn⟩
   ·obtain ⟨T, hg, hK⟩ := h; exact ⟨T, hg, fun v W' ht => by rw [← pc]; exact hK v W' ht⟩
 ·by_cases hwj : Region.wanted oj (yielded ops a.tmps) = true
  ·simp only [hwi, hwj, if_true, Bool.false_eq_true, if_false] at h ⊢
   cases hkj : kd j <;> simp only [hkj] at h ⊢
   ·obtain ⟨v, hv, hK⟩ := h; exact ⟨v, hv, by rw [← pc]; exact hK⟩
   ·obtain ⟨v, hv, hK⟩ := h; exact ⟨v, hv, by rw [← pc]; exact hK⟩
   ·obtain ⟨hst, hM, hK⟩ := h; exact ⟨hst, hM, fun v hv hn => by rw [← pc]; exact hK v hv hn⟩
   ·obtain ⟨T, hg, hK⟩ := h; exact ⟨T, hg, fun v W' ht => by rw [← pc]; exact hK v W' ht⟩
  ·simp only [hwi, hwj, Bool.false_eq_true, if_false] at h ⊢
   rw [← pc]; exact h
def wpAnyY (P : Program) (md : Region.Mode) (ops : Array Oper) (kd : Nat → Kd) (sp : Nat → Told) (E : Act → World → Facts → Prop) : Nat → Array Bool → Act → World → Facts → Prop
 | 0, listed, a, w, D => Region.ready md ops listed = [] ∧ E a w D
 | f + 1, listed, a, w, D => (Region.ready md ops listed = [] → E a w D) ∧ ∀ i ∈ Region.ready md ops listed, yOp P md ops kd sp i (wpAnyY P md ops kd sp E f (listed.setIfInBounds i true)) a w D
theorem wpOp_of_yOp {i : Nat} {a : Act} {w : World} {F : Facts} {K : Act → World → Facts → Prop} {K' : Act → World → Prop} {Q' : Exit → Act → World → Prop} {W : World} (hne : OkF w F) (hW : AllF w F W)
  (h : ∀ a w F W', OkF w F → AllF w F W' → K a w F → K' a W') (hh : yOp P md ops kd sp i K a w F) : wpOp P ops Q' i K' a W := by
 unfold yOp at hh
 unfold wpOp
 split
 ·rename_i ho; simp only [ho] at hh; exact h _ _ _ _ hne hW hh
 ·rename_i o ho
  simp only [ho] at hh
  unfold yStep at hh
  split
  ·rename_i hw
   rw [if_pos hw] at hh
   left
   cases hk : kd i <;> rw [hk] at hh <;> simp only at hh
   ·obtain ⟨v, h1, h2⟩ := hh
    have h1 := h1 W
    unfold RunsTo at h1
    unfold Oper.wp
    rw [h1]
    exact h _ _ _ _ hne hW h2
   ·obtain ⟨v, h1, h2⟩ := hh
    have h1 := h1 W hW.1
    unfold RunsTo at h1
    unfold Oper.wp
    rw [h1]
    exact h _ _ _ _ hne hW h2
   ·obtain ⟨hst, hM, hK⟩ := hh
    exact Oper.wp_of_goes (hM W hW.1 (fun n _ => hW.2 n)) fun v W' ⟨⟨hs, hr⟩, hg⟩ => have hn := hW.upd (i := i) hne.stab hg hr; have ho : OkF w (updF F i ((sp i).R v)) := ⟨⟨W', hn⟩, hne.stab.upd (hst v)⟩; h _ _ _ W' ho hn (hK v hs ho)
   ·obtain ⟨T, hg, hK⟩ := hh
    exact Oper.wp_of_goes (hg W hW) fun v W' ht => h _ _ _ W' (OkF.none W') ⟨Grown.refl W', fun _ => trivial⟩ (hK v W' ht)
  ·rename_i hw; rw [if_neg hw] at hh; exact h _ _ _ _ hne hW hh
theorem wpAny_of_Y {Q : Exit → Act → World → Prop} : ∀ (f : Nat) (listed : Array Bool) (a : Act) (w : World) (F : Facts) (W : World), OkF w F → AllF w F W → wpAnyY P md ops kd sp (fun a w F => ∀ W, AllF w F W → Q .normal a W) f listed a w F → wpAny P md ops Q f listed a W
 | 0, _, _, _, _, _, _, hW, h => ⟨h.1, h.2 _ hW⟩
 | f + 1, _, _, _, _, _, hne, hW, h => ⟨fun h0 => h.1 h0 _ hW, fun i hi => wpOp_of_yOp hne hW (fun a' w' D' W' hn' hW' h' => wpAny_of_Y f _ a' w' D' W' hn' hW' h') (h.2 i hi)⟩
theorem wpAnyY_first {E : Act → World → Facts → Prop} {i : Nat} {oi : Oper} (hi : ops[i]? = some oi) (hsel : ∀ (j : Nat) (o : Oper) cs b, ops[j]? = some o → o.op ≠ .select cs b)
  (hsw : ∀ j, j < ops.size → j ≠ i → swapY (kd i) (kd j) = false → waitsM md ops j i = true ∨ waitsM md ops i j = true) :
  ∀ (f : Nat) (listed : Array Bool) (a : Act) (w : World) (F : Facts), OkF w F → Closed md ops listed →
   (∀ j oj, ops[j]? = some oj → j ≠ i → listed.getD j true = false → (∀ e ∈ oj.after, Region.binds md e = true → e.on ≠ i) → oi.apart ops oj = true) →
   i ∈ Region.ready md ops listed → yOp P md ops kd sp i (wpAnyY P md ops kd sp E f (listed.setIfInBounds i true)) a w F → wpAnyY P md ops kd sp E (f + 1) listed a w F := by
 intro f
 induction f with
 | zero =>
  intro listed a w D hne _ _ hr H
  refine ⟨fun h => (by rw [h] at hr; cases hr), fun j hj => ?_⟩
  by_cases hji : j = i
  ·subst hji; exact H
  ·unfold yOp at H
   rw [hi] at H
   obtain ⟨a', w', D', -, h0, -⟩ := yStep_some hne H
   have := ready_mono hj hji
   rw [h0] at this; cases this
 | succ f ih =>
  intro listed a w D hne hcl hfree hr H
  refine ⟨fun h => (by rw [h] at hr; cases hr), fun j hj => ?_⟩
  by_cases hji : j = i
  ·subst hji; exact H
  ·obtain ⟨hjun, oj, hoj, hall⟩ := mem_ready.1 hj
   have hun := (mem_ready.1 hr).1
   have hnot : ∀ e ∈ oj.after, Region.binds md e = true → e.on ≠ i := fun e he hb heq => by
    have h1 := hall e he hb
    rw [heq, getD_both hun] at h1
    cases h1
   have hap := hfree j oj hoj hji hjun hnot
   have hswap : swapY (kd i) (kd j) = true := by
    cases hs : swapY (kd i) (kd j) with
    | true => rfl
    | false =>
     rcases hsw j (Array.getElem?_eq_some_iff.1 hoj).1 hji hs with h1 | h1
     ·have h2 := waitsM_ready hcl hj h1
      rw [getD_both hun] at h2; cases h2
     ·have h2 := waitsM_ready hcl hr h1
      rw [getD_both hjun] at h2; cases h2
   have hfree' : ∀ k ok, ops[k]? = some ok → k ≠ i → (listed.setIfInBounds j true).getD k true = false →
     (∀ e ∈ ok.after, Region.binds md e = true → e.on ≠ i) → oi.apart ops ok = true := fun k ok hk hki hun' hno => by
    refine hfree k ok hk hki ?_ hno
    by_cases hjk : j = k
    ·subst hjk; exact hjun
    ·rw [getD_set_ne true hjk] at hun'; exact hun'
   have hri := ready_mono hr (Ne.symm hji)
   unfold yOp at H
   rw [hi] at H
   have H2 : yStep P md ops kd sp oi i (fun a1 w1 D1 => yStep P md ops kd sp oj j (wpAnyY P md ops kd sp E f ((listed.setIfInBounds i true).setIfInBounds j true)) a1 w1 D1) a w D :=
    yStep_mono hne (fun a1 w1 D1 _ hK => by
     have := hK.2 j (ready_mono hj hji)
     unfold yOp at this
     rw [hoj] at this
     exact this) H
   have nji : waitsM md ops j i = false := by
    cases hs : waitsM md ops j i with
    | false => rfl
    | true => have h2 := waitsM_ready hcl hj hs; rw [getD_both hun] at h2; cases h2
   have nij : waitsM md ops i j = false := by
    cases hs : waitsM md ops i j with
    | false => rfl
    | true => have h2 := waitsM_ready hcl hr hs; rw [getD_both hjun] at h2; cases h2
   have H3 := yStep_swap nij nji hap (fun cs b => hsel i oi cs b hi) (fun cs b => hsel j oj cs b hoj) hswap hne H2
   unfold yOp
   rw [hoj]
   refine yStep_mono hne (fun a2 w2 D2 hne2 h3 => ih (listed.setIfInBounds j true) a2 w2 D2 hne2 (hcl.set hj) hfree' hri ?_) H3
   unfold yOp
   rw [hi, Array.setIfInBounds_comm _ _ hji]
   exact h3
def wpMixY (P : Program) (md : Region.Mode) (ops : Array Oper) (kd : Nat → Kd) (sp : Nat → Told) (E : Act → World → Facts → Prop) : List Oper → Nat → Act → World → Facts → Prop
 | [], _, a, w, D => E a w D
 | o :: rest, k, a, w, D => yStep P md ops kd sp o k (wpMixY P md ops kd sp E rest (k + 1)) a w D
def mixYB (md : Region.Mode) (ops : Array Oper) (kd : Nat → Kd) : Bool :=
 Region.lexB md ops && (List.range ops.size).all fun i => (List.range ops.size).all fun j => decide (j = i) || (swapY (kd i) (kd j) || (waitsM md ops j i || waitsM md ops i j))
theorem wpAnyY_lex {E : Act → World → Facts → Prop} (hs : Region.noSelect ops = true) (hsw : ∀ i j, i < ops.size → j < ops.size → j ≠ i → swapY (kd i) (kd j) = false → waitsM md ops j i = true ∨ waitsM md ops i j = true) :
  ∀ (l : List Oper) (k : Nat) (listed : Array Bool) (a : Act) (w : World) (F : Facts), OkF w F → Closed md ops listed → (∀ j, l[j]? = ops[k + j]?) →
  Region.lexFrom md ops l.length k listed = true → wpMixY P md ops kd sp E l k a w F → wpAnyY P md ops kd sp E l.length listed a w F
 | [], _, _, _, _, _, _, _, _, hB, h => ⟨by simpa [Region.lexFrom] using hB, h⟩
 | o :: l, k, listed, a, w, D, hne, hcl, hl, hB, h => by
  have h0 : ops[k]? = some o := by simpa using (hl 0).symm
  simp only [zH, Region.lexFrom, Bool.and_eq_true] at hB
  obtain ⟨⟨hr, hf⟩, hB'⟩ := hB
  have hk : k < ops.size := (Array.getElem?_eq_some_iff.1 h0).1
  refine wpAnyY_first h0 (Region.noSelect_spec hs) (fun j hjl hj hsw' => hsw k j hk hjl hj hsw') l.length listed a w D hne hcl (Region.free_spec h0 hf) (by simpa using hr) ?_
  unfold yOp
  rw [h0]
  exact yStep_mono hne (fun a' w' D' hne' h' => wpAnyY_lex hs hsw l (k + 1) _ a' w' D' hne' (hcl.set (by simpa using hr)) (fun j => by have := hl (j + 1); simpa [Nat.add_assoc, Nat.add_comm 1 j] using this) hB' h') h
theorem any_mixedY {Q : Exit → Act → World → Prop} {a : Act} {w : World} {l : List Oper} (kds : List Kd) (sp : Nat → Told) (hB : mixYB .any l.toArray (fun i => kds.getD i .pure) = true)
  (h : wpMixY P .any l.toArray (fun i => kds.getD i .pure) sp (fun a w F => ∀ W, AllF w F W → Q .normal a W) l 0 a w (fun _ _ => True)) : wpAny P .any l.toArray Q l.toArray.size (Array.replicate l.toArray.size false) a { w with drawn := w.drawn + 1 } := by
 simp only [mixYB, Bool.and_eq_true] at hB
 obtain ⟨hlex, hall⟩ := hB
 simp only [Region.lexB, Bool.and_eq_true] at hlex
 have hg0 : Grown w { w with drawn := w.drawn + 1 } := (Below.refl _ _).drew
 refine (wpAny_of_Y (kd := fun i => kds.getD i .pure) (sp := sp) _ _ _ w (fun _ _ => True) _ (OkF.none w) ⟨hg0, fun _ => trivial⟩ ?_)
 have := wpAnyY_lex (P := P) (md := .any) (kd := fun i => kds.getD i .pure) (sp := sp) (E := fun a w F => ∀ W, AllF w F W → Q .normal a W) hlex.1 (fun i j hi hjl hj hs => by
  have h1 := List.all_eq_true.1 (List.all_eq_true.1 hall i (List.mem_range.2 hi)) j (List.mem_range.2 hjl)
  simp only [Bool.or_eq_true, decide_eq_true_eq] at h1
  rcases h1 with h1 | h1 | h1 | h1
  ·exact absurd h1 hj
  ·rw [hs] at h1; cases h1
  ·exact .inl h1
  ·exact .inr h1) l 0 (Array.replicate l.toArray.size false) a w (fun _ _ => True) (OkF.none w) (Closed.none _ _ _) (by simp) (by simpa using hlex.2) h
 simpa using this
theorem wp_region_mixedY {id : Nat} {Q : Exit → Act → World → Prop} {a : Act} {w : World} {l : List Oper} (kds : List Kd) (sp : Nat → Told) (hm : P.follows .mixedOrders = true) (hB : mixYB .any l.toArray (fun i => kds.getD i .pure) = true)
  (h : wpMixY P .any l.toArray (fun i => kds.getD i .pure) sp (fun a w F => ∀ W, AllF w F W → Q .normal a W) l 0 a w (fun _ _ => True)) : (Code.region id l.toArray true).wp P Q a w :=
 wp_region_any hm (any_mixedY kds sp hB h)
section
variable {E : Act → World → Facts → Prop} {a : Act} {o : Oper} {rest : List Oper} {k : Nat} {w : World} {F : Facts}
theorem mixY_skip (hw : Region.wanted o (yielded ops a.tmps) = false) (h : wpMixY P md ops kd sp E rest (k + 1) (a.put o.dst undef) w F) : wpMixY P md ops kd sp E (o :: rest) k a w F := by
 unfold wpMixY yStep
 rw [if_neg (by rw [hw]; decide)]
 exact h
theorem mixY_pure (hw : Region.wanted o (yielded ops a.tmps) = true) (hk : kd k = .pure) (hp : valOp o.op = true)
  (h : ∀ K : Act → Prop, (∀ a, wpMixY P md ops kd sp E rest (k + 1) a w F → K a) → o.quiet P a (fun _ => True) K) : wpMixY P md ops kd sp E (o :: rest) k a w F := by
 unfold wpMixY yStep
 rw [if_pos hw, hk]
 obtain ⟨v, h1, h2⟩ := h _ fun _ h => h
 exact ⟨v, fun W => runs_of_quiet hp (h1 W trivial), h2⟩
theorem mixY_held (hw : Region.wanted o (yielded ops a.tmps) = true) (hk : kd k = .held) (hp : valOp o.op = true)
  (h : ∀ K : Act → Prop, (∀ a, wpMixY P md ops kd sp E rest (k + 1) a w F → K a) → o.quiet P a (fun w' => ∃ x : Ext w, w' = x.world) K) : wpMixY P md ops kd sp E (o :: rest) k a w F := by
 unfold wpMixY yStep
 rw [if_pos hw, hk]
 obtain ⟨v, h1, h2⟩ := h _ fun _ h => h
 exact ⟨v, fun W hW => runs_of_quiet hp (h1 W ⟨⟨W, hW⟩, rfl⟩), h2⟩
theorem mixY_load (hw : Region.wanted o (yielded ops a.tmps) = true) (hk : kd k = .held) (ty : TypeId) (x : Operand) (ho : o.op = .load ty x)
  (b i : Nat) (hx : a.eval x = .pointer (some ⟨b, i, none⟩)) (cs : List Value) (d : TypeDesc) (hb : b < w.heap.size) (hc : w.rangeAt b i cs)
  (hu : P.underlying ty = some d) (hd : d.isRow = true) (hi : (P.info? ty).map (·.size) = some cs.length)
  (h : wpMixY P md ops kd sp E rest (k + 1) (a.put o.dst (.agg cs.toArray)) w F) : wpMixY P md ops kd sp E (o :: rest) k a w F := by
 unfold wpMixY yStep
 rw [if_pos hw, hk]
 refine ⟨_, fun W hW => ?_, h⟩
 have hc' : W.rangeAt b i cs := fun j v hv => (Below.cell (p := ⟨b, i + j, none⟩) hW hb).trans (hc j v hv)
 unfold RunsTo execOp
 simp only [ho, hx, Instr.loadAt, Instr.sureAddr, Sem.run_bind, Sem.run_pure, Result.andThen_ok, run_loadVar_mid W b i ty cs d hc' hu hd hi]
theorem mixY_make (hw : Region.wanted o (yielded ops a.tmps) = true) (hk : kd k = .make) (hst : ∀ v W U, (sp k).R v W → Grown W U → (sp k).R v U)
  (hM : ∀ W, Grown w W → (∀ n, waitsM md ops k n = true → F n W) → Oper.goes P o a W (fun u W' => ((sp k).S u ∧ (sp k).R u W') ∧ Grown W W'))
  (h : ∀ v, (sp k).S v → wpMixY P md ops kd sp E rest (k + 1) (a.put o.dst v) w (updF F k ((sp k).R v))) : wpMixY P md ops kd sp E (o :: rest) k a w F := by
 unfold wpMixY yStep
 rw [if_pos hw, hk]
 exact ⟨hst, hM, fun v hv _ => h v hv⟩
theorem mixY_write (hw : Region.wanted o (yielded ops a.tmps) = true) (hk : kd k = .tail) (T : Value → World → Prop) (hM : ∀ W, AllF w F W → Oper.goes P o a W T)
  (h : ∀ v W', T v W' → wpMixY P md ops kd sp E rest (k + 1) (a.put o.dst v) W' (fun _ _ => True)) : wpMixY P md ops kd sp E (o :: rest) k a w F := by
 unfold wpMixY yStep
 rw [if_pos hw, hk]
 exact ⟨T, hM, h⟩
theorem mixY_run (v : Value) (hw : Region.wanted o (yielded ops a.tmps) = true) (hk : kd k = .pure) (hr : ∀ W, RunsTo P o a W v) (h : wpMixY P md ops kd sp E rest (k + 1) (a.put o.dst v) w F) : wpMixY P md ops kd sp E (o :: rest) k a w F := by
 unfold wpMixY yStep
 rw [if_pos hw, hk]
 exact ⟨v, hr, h⟩
theorem mixY_hrun (v : Value) (hw : Region.wanted o (yielded ops a.tmps) = true) (hk : kd k = .held) (hr : ∀ W, Grown w W → RunsTo P o a W v) (h : wpMixY P md ops kd sp E rest (k + 1) (a.put o.dst v) w F) : wpMixY P md ops kd sp E (o :: rest) k a w F := by
 unfold wpMixY yStep
 rw [if_pos hw, hk]
 exact ⟨v, hr, h⟩
theorem mixY_nil (h : E a w F) : wpMixY P md ops kd sp E [] k a w F := h
end
end
end
end Go.Proofs.YtibeihcpehikoaaGreat
