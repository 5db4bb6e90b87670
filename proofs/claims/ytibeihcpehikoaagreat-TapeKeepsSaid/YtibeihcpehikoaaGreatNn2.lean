/-
  The walks beneath: RgSc, RgSb, TrFb, Str.
-/
import Derived.Deep.CutBlock
import Derived.Test.YtibeihcpehikoaaGreatNn1
namespace Go.Proofs.YtibeihcpehikoaaGreat
open Go.RowKit
set_option maxRecDepth 100000
set_option maxHeartbeats 8000000
set_option linter.unusedSimpArgs false
section
section
variable {α : Type} {P : Program} {n : Nat}
def TurnsG (G : Nat → Prop) (B m : Nat) (A : World) (row : Option Nat) : Prop := ∀ r, row = some r → (G r ∨ (B ≤ r ∧ r < m)) ∧ ∃ o : Obj, A.heap[r]? = some o ∧ o.isCells = true
def AbidesG (G : Nat → Prop) (B : Nat) (J : Nat → List α → World → Prop) : Prop := ∀ m pre A A' row, J m pre A → A.grownBy A' row → TurnsG G B m A row → J m pre A'
def SeqStG (G : Nat → Prop) (n : Nat) (P : Program) (gf : Nat) (lb : Array Value) (encs : α → Array Value) (Yp : Nat → List α → α → World → Prop) (Kp : World → World → Prop) (S Sp : List α → Prop) (w0 : World) : Prop :=
 ∀ (l : Nat) (J Js : Nat → List α → World → Prop) (W : World), Below w0.heap.size w0 W → AbidesG G W.heap.size J → AbidesG G W.heap.size Js →
  (∀ A, W.grownBy A none → J A.heap.size [] A) →
  (∀ m pre x A, W.heap.size ≤ m → J m pre A → Yp m pre x A → YieldAt Fence.wide (n - 1) P l (encs x) A fun e A' => (e = .returned (.bool true) ∧ J m (pre ++ [x]) A' ∧ Kp A A') ∨ (e = .returned (.bool false) ∧ Js m (pre ++ [x]) A')) →
  CallsIn Fence.wide n P gf (#[.func (.yield l) #[] #[]] ++ lb) W fun e A => (∃ v, e = .returned v) ∧ ∃ m xs, W.heap.size ≤ m ∧ ((S xs ∧ J m xs A) ∨ (Sp xs ∧ Js m xs A))
def goesOnG (B : Nat) (Kp : World → World → Prop) (I : List α → World → Prop) (Ix : Code → List α → World → Prop) (xs : List α) (W : World) : Exit → Act → World → Prop
 | .normal, _, W' => KeepsFrom B W W' ∧ Kp W W' ∧ I xs W'
 | .ret, _, W' => KeepsFrom B W W' ∧ Ix .ret xs W'
 | .exit id, _, W' => KeepsFrom B W W' ∧ Ix (.exit id) xs W'
 | _, _, _ => False
theorem wpIn_rangeFunc_stG {G : Nat → Prop} {g : Operand} {ps : Array Tmp} {assign body : Code} {Q : Exit → Act → World → Prop} {a : Act} {w : World} (h1 : 1 ≤ n) {gf : Nat} {lb : Array Value} (hg : a.eval g = .func (.func gf) #[] lb) (eg : ∀ args w, (callFunc gf args).run P w = .ok (.enter gf args) w)
  {encs : α → Array Value} {Yp : Nat → List α → α → World → Prop} {Kp : World → World → Prop} {S Sp : List α → Prop} (hseq : SeqStG G (n - 1) P gf lb encs Yp Kp S Sp w) (hps : ∀ x, (encs x).size = ps.size)
  (hKt : ∀ {A B C : World}, Kp A B → Kp B C → Kp A C) (hKb : ∀ (W : World) (l : Nat) (o o' : Obj), w.heap.size ≤ l → W.heap[l]? = some o → o.isCells = false → Kp W (W.putObj l o'))
  (I : Nat → List α → World → Prop) (Ix : Code → Nat → List α → World → Prop)
  (hI : ∀ m pre A A' row, I m pre A → A.grownBy A' row → (∀ r, row = some r → (w.heap.size ≤ r ∧ ∃ o : Obj, A.heap[r]? = some o ∧ o.isCells = false) ∨ ((G r ∨ (w.heap.size ≤ r ∧ r < m)) ∧ ∃ o : Obj, A.heap[r]? = some o ∧ o.isCells = true)) → I m pre A')
  (hIx : ∀ c m pre A A' row, Ix c m pre A → A.grownBy A' row → (∀ r, row = some r → (w.heap.size ≤ r ∧ ∃ o : Obj, A.heap[r]? = some o ∧ o.isCells = false) ∨ ((G r ∨ (w.heap.size ≤ r ∧ r < m)) ∧ ∃ o : Obj, A.heap[r]? = some o ∧ o.isCells = true)) → Ix c m pre A')
  (h0 : ∀ A, w.grownBy A none → I A.heap.size [] A) (Ax : α → Act → World → Prop) (hAx : ∀ x a' A l o o', Ax x a' A → w.heap.size ≤ l → A.heap[l]? = some o → o.isCells = false → Ax x a' (A.putObj l o'))
  (hassign : ∀ (l m : Nat) (pre : List α) (x : α) (W : World) (K : Act → World → Prop), w.heap.size ≤ m → I m pre W → Yp m pre x W → (∀ a' W', KeepsFrom w.heap.size W W' → Kp W W' → I m pre W' → Yp m pre x W' → Ax x a' W' → K a' W') →
   assign.wpIn (Fence.wide.inRound l) (n - 1 - 1) P (Exit.then K (fun _ _ _ => False)) { tmps := (ps.zip (encs x)).foldl (fun t (p, v) => t.setIfInBounds p v) a.tmps, defers := [] } W)
  (hYp : ∀ m pre x A l o o', Yp m pre x A → w.heap.size ≤ l → A.heap[l]? = some o → o.isCells = false → Yp m pre x (A.putObj l o'))
  (hbody : ∀ (l m : Nat) (pre : List α) (x : α) (a' : Act) (W : World), w.heap.size ≤ m → I m pre W → Yp m pre x W → Ax x a' W → body.wpIn (Fence.wide.inRound l) (n - 1 - 1) P (goesOnG w.heap.size Kp (I m) (fun c => Ix c m) (pre ++ [x]) W) a' W)
  (hdone : ∀ (D m : Nat) (xs : List α) (W : World), w.heap.size ≤ D → S xs → I m xs W → W.heap[D]? = some (.deferred (some [])) → Q .normal { a with defers := { target := .collected D, args := #[] } :: a.defers } W)
  (hstop : ∀ (D : Nat) (c : Code) (m : Nat) (xs : List α) (W : World), w.heap.size ≤ D → Sp xs → Ix c m xs W → W.heap[D]? = some (.deferred (some [])) → c.wpIn Fence.wide n P Q { a with defers := { target := .collected D, args := #[] } :: a.defers } W) :
  (Code.rangeFunc g ps assign body).wpIn Fence.wide n P Q a w := by
 refine wpIn_rangeFunc fun fn _ => ?_
 obtain ⟨rc, hrc⟩ : ∃ rc : LoopState → Option Code → Loop, rc = fun st pe => { state := st, pending := pe, fn := fn, tmps := a.tmps, params := ps, assign := assign, body := body, defers := w.heap.size } := ⟨_, rfl⟩
 obtain ⟨V, hV⟩ : ∃ V, (w.alloc (.deferred (some []))).alloc (.loop (rc .ready none)) = V := ⟨_, rfl⟩
 have hz : V.heap.size = w.heap.size + 2 := by rw [← hV]; simp
 have hgV : w.grownBy V none := by rw [← hV]; exact (World.grownBy_alloc w _ none).trans (World.grownBy_alloc _ _ none)
 have hbV : Below w.heap.size w V := by rw [← hV]; exact (((Below.refl _ w).alloc (zL _) _).alloc (by simp) _)
 have hl0 : V.heap[w.heap.size + 1]? = some (.loop (rc .ready none)) := by
  rw [← hV]
  have := World.alloc_heap_new (w.alloc (.deferred (some []))) (.loop (rc .ready none))
  rwa [World.size_alloc] at this
 have hd0 : V.heap[w.heap.size]? = some (.deferred (some [])) := by
  rw [← hV]
  exact (Below.heap_alloc _ _ _ (by simp)).trans (World.alloc_heap_new w _)
 have hturn : ∀ {m : Nat} {A A' : World} {row : Option Nat}, A.grownBy A' row → TurnsG G V.heap.size m A row →
   (∀ (k : Nat) (o : Obj), A.heap[k]? = some o → o.isCells = false → A'.heap[k]? = some o) ∧ (∀ r, row = some r → (w.heap.size ≤ r ∧ ∃ o : Obj, A.heap[r]? = some o ∧ o.isCells = false) ∨ ((G r ∨ (w.heap.size ≤ r ∧ r < m)) ∧ ∃ o : Obj, A.heap[r]? = some o ∧ o.isCells = true)) := fun hgr hrow => by
  refine ⟨fun k o hk ho => ?_, fun r e => ?_⟩
  ·rw [hgr.block k (Array.getElem?_eq_some_iff.1 hk).1 (fun e => by
    obtain ⟨-, o', ho', hc⟩ := hrow k e.symm
    rw [hk] at ho'; cases ho'; rw [ho] at hc; cases hc)]
   exact hk
  ·obtain ⟨q1, q3⟩ := hrow r e
   refine .inr ⟨?_, q3⟩
   rcases q1 with q1 | q1
   ·exact .inl q1
   ·exact .inr ⟨by omega, q1.2⟩
 refine ⟨w.heap.size + 1, [{ target := .collected w.heap.size, args := #[] }], V, { target := .fn (.func gf) lb, args := #[.func (.yield (w.heap.size + 1)) #[] #[]] }, V, gf, #[.func (.yield (w.heap.size + 1)) #[] #[]] ++ lb, V, ?_, ?_, fun _ _ => trivial, ?_, fun _ => h1, ?_⟩
 ·rw [← hV, hrc]; exact run_enterLoop_outer _ _ _ _ _
 ·simp only [resolve, hg]
  simp [go_sem]
 ·simp [invoke, go_sem, eg]
 ·refine (hseq (w.heap.size + 1) (fun m pre W => I m pre W ∧ W.heap[w.heap.size + 1]? = some (.loop (rc .ready none)) ∧ W.heap[w.heap.size]? = some (.deferred (some [])))
   (fun m pre W => ∃ c, Ix c m pre W ∧ W.heap[w.heap.size + 1]? = some (.loop (rc .done (some c))) ∧ W.heap[w.heap.size]? = some (.deferred (some []))) V hbV ?_ ?_ ?_ ?_).mono ?_
  ·rintro m pre A A' row ⟨hi, hl, hd⟩ hgr hrow
   obtain ⟨h2, h3⟩ := hturn hgr hrow
   exact ⟨hI m pre A A' row hi hgr h3, h2 _ _ hl rfl, h2 _ _ hd rfl⟩
  ·rintro m pre A A' row ⟨c, hi, hl, hd⟩ hgr hrow
   obtain ⟨h2, h3⟩ := hturn hgr hrow
   exact ⟨c, hIx c m pre A A' row hi hgr h3, h2 _ _ hl rfl, h2 _ _ hd rfl⟩
  ·intro A hA
   refine ⟨h0 A (hgV.trans hA), ?_, ?_⟩
   ·rw [hA.block _ (by omega) (by simp)]; exact hl0
   ·rw [hA.block _ (by omega) (by simp)]; exact hd0
  ·rintro m pre x A hm ⟨hi, hl, hd⟩ hyp
   have hy := run_yield (P := P) (args := encs x) hl (by rw [hrc]; exact hps x)
   rw [hrc] at hy
   refine ⟨fn, _, assign, body, hy, roundIn_of_wpIn trivial (hassign _ m pre x A _ (by omega) hi hyp ?_)⟩
   intro a' B hkf hkp hib hyb hax
   have hlB := hkf.same _ _ (by omega) hl rfl
   have hdB := hkf.same _ _ (zL _) hd rfl
   have hltB : w.heap.size + 1 < B.heap.size := (Array.getElem?_eq_some_iff.1 hlB).1
   refine ⟨_, run_beginRound hlB (by rw [hrc]), ?_⟩
   have hrow : ∀ (C : World) (o : Obj), C.heap[w.heap.size + 1]? = some o → o.isCells = false → ∀ (m : Nat) (r : Nat), some (w.heap.size + 1) = some r → (w.heap.size ≤ r ∧ ∃ o : Obj, C.heap[r]? = some o ∧ o.isCells = false) ∨ ((G r ∨ (w.heap.size ≤ r ∧ r < m)) ∧ ∃ o : Obj, C.heap[r]? = some o ∧ o.isCells = true) := fun C o hC ho m r e => by
    cases e; exact .inl ⟨by omega, o, hC, ho⟩
   have hput : ∀ (C : World) (o o' : Obj), C.heap[w.heap.size + 1]? = some o → o.isCells = false → ∀ m pre, I m pre C → I m pre (C.putObj (w.heap.size + 1) o') := fun C o o' hC ho m pre h =>
    hI m pre C _ _ h (grownBy_putObj' C (w.heap.size + 1) o') (hrow C o hC ho m)
   have hputx : ∀ (c : Code) (C : World) (o o' : Obj), C.heap[w.heap.size + 1]? = some o → o.isCells = false → ∀ m pre, Ix c m pre C → Ix c m pre (C.putObj (w.heap.size + 1) o') := fun c C o o' hC ho m pre h =>
    hIx c m pre C _ _ h (grownBy_putObj' C (w.heap.size + 1) o') (hrow C o hC ho m)
   obtain ⟨C, hC⟩ : ∃ C, B.putObj (w.heap.size + 1) (.loop { rc .ready none with state := .busy }) = C := ⟨_, rfl⟩
   have hlC : C.heap[w.heap.size + 1]? = some (.loop { rc .ready none with state := .busy }) := by rw [← hC]; exact World.putObj_heap_same hltB
   have hdC : C.heap[w.heap.size]? = some (.deferred (some [])) := by rw [← hC]; exact (World.putObj_heap_other (by omega)).trans hdB
   have hKC : Kp B C := by rw [← hC]; exact hKb _ _ _ _ (by omega) hlB rfl
   have hiC : I m pre C := by rw [← hC]; exact hput B _ _ hlB rfl m pre hib
   have hyC : Yp m pre x C := by rw [← hC]; exact hYp _ _ _ _ _ _ _ hyb (by omega) hlB rfl
   have haC : Ax x a' C := by rw [← hC]; exact hAx _ _ _ _ _ _ hax (by omega) hlB rfl
   rw [hC]
   have fin : ∀ (jump : Option Code) (E : World), KeepsFrom w.heap.size C E →
     (Instr.endRound (w.heap.size + 1) jump).run P E = .ok (.bool jump.isNone) (E.putObj (w.heap.size + 1) (.loop (rc (if jump.isNone then .ready else .done) jump))) ∧
     E.heap[w.heap.size + 1]? = some (.loop { rc .ready none with state := .busy }) ∧
     (E.putObj (w.heap.size + 1) (.loop (rc (if jump.isNone then .ready else .done) jump))).heap[w.heap.size + 1]? = some (.loop (rc (if jump.isNone then .ready else .done) jump)) ∧
     (E.putObj (w.heap.size + 1) (.loop (rc (if jump.isNone then .ready else .done) jump))).heap[w.heap.size]? = some (.deferred (some [])) := fun jump E hkE => by
    have hlE := hkE.same _ _ (by omega) hlC rfl
    have hdE := hkE.same _ _ (zL _) hdC rfl
    have hltE : w.heap.size + 1 < E.heap.size := (Array.getElem?_eq_some_iff.1 hlE).1
    have hr := run_endRound (P := P) jump hlE
    rw [hrc] at hr hlE ⊢
    exact ⟨hr, hlE, World.putObj_heap_same hltE, (World.putObj_heap_other (by omega)).trans hdE⟩
   refine wpIn_mono (hbody (w.heap.size + 1) m pre x a' C (by omega) hiC hyC haC) ?_
   intro e a3 E hp
   cases e with
   | normal =>
    obtain ⟨hkE, hkpE, hiE⟩ := hp
    obtain ⟨hr, hlE, hl4, hd4⟩ := fin none E hkE
    exact ⟨_, _, hr, .inl ⟨rfl, ⟨hput E _ _ hlE rfl m _ hiE, hl4, hd4⟩, hKt hkp (hKt hKC (hKt hkpE (hKb _ _ _ _ (by omega) hlE rfl)))⟩⟩
   | ret =>
    obtain ⟨hkE, hiE⟩ := hp
    obtain ⟨hr, hlE, hl4, hd4⟩ := fin (some .ret) E hkE
    exact ⟨_, _, hr, .inr ⟨rfl, .ret, hputx _ E _ _ hlE rfl m _ hiE, hl4, hd4⟩⟩
   | exit id =>
    obtain ⟨hkE, hiE⟩ := hp
    obtain ⟨hr, hlE, hl4, hd4⟩ := fin (some (.exit id)) E hkE
    exact ⟨_, _, hr, .inr ⟨rfl, .exit id, hputx _ E _ _ hlE rfl m _ hiE, hl4, hd4⟩⟩
   | goto t => exact hp.elim
   | panic ch => exact hp.elim
   | outgrown => exact hp.elim
  ·rintro e A ⟨⟨v, rfl⟩, m, xs, hm, (⟨hS, hi, hl, hd⟩ | ⟨hSp, c, hi, hl, hd⟩)⟩
   ·have hr := run_endLoop (P := P) hl (by rw [hrc]; simp)
    rw [hrc] at hr
    refine ⟨none, _, hr, hdone w.heap.size m xs _ (zL _) hS ?_ ((World.putObj_heap_other (by omega)).trans hd)⟩
    exact hI m xs A _ _ hi (grownBy_putObj' A (w.heap.size + 1) _) (fun r e => by cases e; exact .inl ⟨by omega, _, hl, rfl⟩)
   ·have hr := run_endLoop (P := P) hl (by rw [hrc]; simp)
    rw [hrc] at hr
    refine ⟨some c, _, hr, hstop w.heap.size c m xs _ (zL _) hSp ?_ ((World.putObj_heap_other (by omega)).trans hd)⟩
    exact hIx c m xs A _ _ hi (grownBy_putObj' A (w.heap.size + 1) _) (fun r e => by cases e; exact .inl ⟨by omega, _, hl, rfl⟩)
end
end
section
open Go.RowKit Go.Shelf
attribute [local go_sem] Oper.semAt_some
theorem wpListIn_yieldB {F : Fence} {n : Nat} {P : Program} {ops : Array Oper} {rest : List Oper} {o : Oper} {a : Act} {w w' : World} {Q : Exit → Act → World → Prop} {l : Nat} {fn : FuncId} {tms : Array Value} {assign body : Code} {R1 R2 : World → Prop}
  (hw : Region.wanted o (yielded ops a.tmps) = true) (hd : ∀ c, o.op ≠ .defer c) (ha : o.about P w a.eval = none) (hr : (execOp a.eval o).run P w = .ok (.round l fn tms assign body) w') (hn : F.depth.isSome = true → 1 ≤ n)
  (hR : RoundIn F (n - 1) P l fn tms assign body w' fun e A => (e = .returned (.bool true) ∧ R1 A) ∨ (e = .returned (.bool false) ∧ R2 A)) (h1 : ∀ A, R1 A → wpListIn F n P ops Q rest (a.put o.dst (.bool true)) A) (h2 : ∀ A, R2 A → wpListIn F n P ops Q rest (a.put o.dst (.bool false)) A) : wpListIn F n P ops Q (o :: rest) a w := by
 unfold wpListIn
 rw [if_pos hw]
 refine ⟨fun f hf => (by rw [ha] at hf; cases hf), ?_⟩
 rw [Oper.semAt_plain _ _ _ hd, hr]
 refine ⟨hn, hR.mono ?_⟩
 rintro e A (⟨rfl, hA⟩ | ⟨rfl, hA⟩)
 ·exact h1 A hA
 ·exact h2 A hA
end
section
open Go.RowKit Go.Shelf
attribute [local go_sem] Oper.semAt_some
def strE (p : Nat × Nat) : Array Value := #[.int .u8 (p.1 : Nat), .int .i64 (p.2 : Nat)]
def KpS (B0 : Nat) (X : Nat → Prop) (A B : World) : Prop := A.heap.size ≤ B.heap.size ∧ ∀ r, r < B0 → ¬ X r → B.heap[r]? = A.heap[r]?
theorem KpS.trans {B0 : Nat} {X : Nat → Prop} {A B C : World} (h : KpS B0 X A B) (k : KpS B0 X B C) : KpS B0 X A C := ⟨Nat.le_trans h.1 k.1, fun r hr hx => (k.2 r hr hx).trans (h.2 r hr hx)⟩
theorem KpS.put {B0 : Nat} {X : Nat → Prop} (W : World) (l : Nat) (_o o' : Obj) (hB : B0 ≤ l) : KpS B0 X W (W.putObj l o') := ⟨(grownBy_putObj' W l o').size, fun r hr _ => World.putObj_heap_other (by omega)⟩
theorem Rd.low2 {w V : World} {Bq B0 gl : Nat} {X : Nat → Prop} {A : Option Addr} {xs : List Value} (h : Rd w Bq A xs) (hV : ∀ r, r < B0 → ¬ X r → r ≠ gl → V.heap[r]? = w.heap[r]?) (h1 : Bq ≤ gl) (h2 : gl < B0) (hx : ∀ r, X r → Bq ≤ r ∧ r ≠ gl) : Rd V Bq A xs := fun hn => by
 obtain ⟨b, off, rfl, hb, hc⟩ := h hn
 exact ⟨b, off, rfl, hb, fun i u hu => by rw [cell_heap (hV b (by omega) (fun e => by have := (hx b e).1; omega) (by omega))]; exact hc i u hu⟩
theorem stretches_any (A : Option Addr) (n c : Nat) (w : World) : Calls Tryz.prog 165 #[.slice A n c] w fun e w' => e = .returned (.func (.func 231) #[] #[.pointer (some ⟨w.heap.size, 0, none⟩)]) ∧ w' = w.alloc (.cells #[.slice A n c] 25) := by
 go_enter Tryz.func165, Tryz.ntmps165
 go_wp2
 go_ret
 exact ⟨rfl, rfl⟩
structure StrF (B0 gl : Nat) (X : Nat → Prop) (w : World) (t : List Nat) (A : Option Addr) (c : Nat) (W : World) : Prop where
 cell : Blk W gl 25 #[.slice A t.length c]
 low : ∀ r, r < B0 → ¬ X r → r ≠ gl → W.heap[r]? = w.heap[r]?
 cap : t.length ≤ c
 size : B0 ≤ W.heap.size
section
variable {P : Program} {o : Oper} {a : Act} {W : World}
theorem runs_load1 (ty : TypeId) (x : Operand) (ho : o.op = .load ty x) (b i : Nat) (hx : a.eval x = .pointer (some ⟨b, i, none⟩)) {d : TypeDesc} (hu : P.underlying ty = some d) (hd : d.isRow = false) {v : Value} (hc : W.cell? ⟨b, i, none⟩ = some v) : RunsTo P o a W v := by
 unfold RunsTo execOp
 simp only [ho, hx, Instr.loadAt, Instr.sureAddr, Sem.run_bind, Sem.run_pure, Result.andThen_ok]
 cases d <;> first | (simp [loadVar, isAgg, run_underlying hu, hc]; done) | (cases hd)
theorem runs_idx0 (ty e : TypeId) (x : Operand) (ho : o.op = .indexAddr ty x (.const (.int .i64 0))) (hu : P.underlying ty = some (.slice e)) (he : (P.info? e).map (·.size) = some 1) (b i n c : Nat) (hx : a.eval x = .slice (some ⟨b, i, none⟩) (n + 1) c) : RunsTo P o a W (.pointer (some ⟨b, i, none⟩)) := by
 unfold RunsTo execOp
 have h0 : a.eval (.const (.int .i64 0)) = .int .i64 0 := rfl
 simp only [ho, hx, h0, Sem.run_bind, Sem.run_pure, Result.andThen_ok]
 obtain ⟨i1, hi1, he1⟩ : ∃ i1, P.info? e = some i1 ∧ i1.size = 1 := by
  cases h : P.info? e with
  | none => rw [h] at he; cases he
  | some z => exact ⟨z, rfl, by rw [h] at he; simpa using he⟩
 simp [Instr.indexAt, run_underlying hu, go_sem, run_sizeOf W hi1]
end
theorem str_seq (n : Nat) (hn : 1 ≤ n) (A : Option Addr) (c : Nat) (l : List Nat) (Bq : Nat) (X : Nat → Prop) (w : World) (gl : Nat) (hl : l.length ≤ 20000) (hb : ∀ x ∈ l, x < 256) (hc : l.length ≤ c) (hg : Blk w gl 25 #[.slice A l.length c]) (hr : Rd w Bq A (l.flatMap btC)) (hBq : Bq ≤ gl) (hx : ∀ r, X r → Bq ≤ r ∧ r ≠ gl) :
  SeqStG (fun r => r = gl) n Tryz.prog 231 #[.pointer (some ⟨gl, 0, none⟩)] strE (fun _ pre x _ => pre ++ [x] = (runsL l).take (pre.length + 1)) (KpS w.heap.size X) (fun xs => xs = runsL l) (fun _ => True) w := by
 intro lp J Js W hW hJ hJs hJ0 hY
 have HJ := zz hJ
 have HY := zz hY
 have HRD := zz hr
 have HX := zz hx
 have HBD := zz hb
 have hglw := hg.lt
 have HF0 : Hid (StrF w.heap.size gl X w l A c W) := zz ⟨hg.on hW, fun r hr _ _ => hW.block r hr, hc, hW.size⟩
 have HJ1 := zz (hJ0 W (World.grownBy.refl W none))
 have hWz := hW.size
 clear hJ hJs hJ0 hY hr hx hb hg hc
 refine callsIn_of_wp Tryz.func231 rfl trivial ?_ rfl
 simp only [Tryz.ntmps231, zM, zH, zI, Nat.reduceAdd, Nat.reduceSub, Array.replicate_succ, Array.replicate_zero, List.push_toArray, List.append_toArray, List.nil_append, List.cons_append]
 refine wpIn_wide.2 ?_
 go_wp2_with fail
 go_loopw [3] (fun _ wr => ∃ (t : List Nat) (pre : List (Nat × Nat)) (A' : Option Addr) (c' : Nat), t.length ≤ l.length ∧ Hid (pre ++ runsL t = runsL l) ∧ Hid (∀ x ∈ t, x < 256) ∧ Hid (StrF w.heap.size gl X w t A' c' wr) ∧ Hid (∀ V, (∀ r, r < w.heap.size → ¬ X r → r ≠ gl → V.heap[r]? = w.heap[r]?) → Rd V Bq A' (t.flatMap btC)) ∧ Hid (J W.heap.size pre wr)) (fun _ wr => match wr.cell? ⟨gl, 0, none⟩ with | some (.slice _ k _) => k | _ => 0)
 case atStart => exact ⟨l, [], A, c, zL _, rfl, HBD, HF0, zz (fun V hV => HRD.out.low2 hV hBq hglw (fun r e => HX.out r e)), HJ1⟩
 case round =>
  obtain ⟨t, pre, A', c', htl, HP, HBT, HF, HRT, HJK⟩ := hrel
  clear HF0 HJ1 HRD HBD
  have c0 := HF.out.cell.cell 0
  have l0 := HF.out.cell.lt
  have fz := HF.out.cell.frozen 0
  simp only [zA, zB] at c0
  cases t with
  | nil =>
   have hpe : pre = runsL l := by have := HP.out; rwa [runsL_nil, List.append_nil] at this
   have HPE := zz hpe
   clear hpe
   rw [zI] at c0
   go_wp2_with fail
   go_end0
   exact ⟨⟨_, rfl⟩, W.heap.size, pre, zL _, .inl ⟨HPE.out, HJK.out⟩⟩
  | cons x r =>
   obtain ⟨w7, rfl⟩ : ∃ w7, w7 = wr := ⟨_, rfl⟩
   obtain ⟨b, off, rfl, hbb, hcx⟩ := (HRT.out w7 HF.out.low).at_ btC_length (by decide) (k := 0) (by rw [zH]; omega)
   have hcx : w7.cell? ⟨b, off, none⟩ = some (.int .u8 (x : Nat)) := by
    have := hcx 0 _ rfl
    simpa using this
   have HCJ : Hid (∀ j (hj : j < r.length), w7.cell? ⟨b, off + (j + 1), none⟩ = some (.int .u8 (r[j] : Nat))) := zz (fun j hj => by
    obtain ⟨b2, off2, e2, -, hc2⟩ := (HRT.out w7 HF.out.low).at_ btC_length (by decide) (k := j + 1) (by rw [zH]; omega)
    simp only [Option.some.injEq, Addr.mk.injEq, and_true] at e2
    obtain ⟨rfl, rfl⟩ := e2
    have := hc2 0 _ rfl
    simpa using this)
   obtain ⟨q, hq⟩ : ∃ q, r.length = q := ⟨_, rfl⟩
   have HQ := zz hq
   rw [zH, hq] at c0
   have hq1 : q + 1 ≤ 20000 := by rw [zH, hq] at htl; omega
   have hbw : b < w7.heap.size := by have := HF.out.cell.lt; omega
   have HC0 := zz c0
   have HCX := zz hcx
   have HL0 := zz l0
   have hle := headN_le x r
   rw [hq] at hle
   clear hq
   go_upto_block 2 with fail
   go_cut [3] (fun v wx => v = .int .i64 ((headN x r : Nat) + 1 : Int) ∧ Hid (Below w7.heap.size w7 wx))
   case first =>
    go_wp2_with fail
    go_loopw [3] (fun v wq => ∃ j : Nat, j ≤ q ∧ v = .int .i64 ((j : Int) + 1) ∧ Hid (headN x r = j + headN x (r.drop j)) ∧ Hid (Below w7.heap.size w7 wq)) (fun v _ => q + 1 - (intOf v).toNat)
    case atStart => exact ⟨0, Nat.zero_le _, rfl, zz (by simp), zz (Below.refl _ _)⟩
    case round =>
     obtain ⟨j, hj, rfl, HH, HB⟩ := hrel
     have c1 := (HB.out.cell (p := ⟨gl, 0, none⟩) HL0.out).trans HC0.out
     have x1 := (HB.out.cell (p := ⟨b, off, none⟩) hbw).trans HCX.out
     have hlg : gl < wr.heap.size := Nat.lt_of_lt_of_le HL0.out HB.out.size
     have hlb : b < wr.heap.size := Nat.lt_of_lt_of_le hbw HB.out.size
     clear c0 hcx fz l0
     by_cases hlt : j < q
     ·have hjr : j < r.length := by rw [HQ.out]; exact hlt
      have y1 := (HB.out.cell (p := ⟨b, off + (j + 1), none⟩) hbw).trans (HCJ.out j hjr)
      have HIT := zz (fun h => headN_hit (x := x) (l := r) (j := j) hjr h)
      have MIS := zz (fun h => headN_miss (x := x) (l := r) (j := j) hjr h)
      obtain ⟨z, hz⟩ : ∃ z, r[j] = z := ⟨_, rfl⟩
      rw [hz] at y1 HIT MIS
      have g1 : decide ((j : Int) + 1 < (q : Int) + 1) = true := decide_eq_true (by omega)
      clear hz hjr
      by_cases hzx : z = x
      ·have g2 : ((z : Int) == (x : Int)) = true := by simp [hzx]
       have HN := zz (HIT.out hzx)
       clear hzx
       go_upto_region 2 with fail
       refine wp_region_mild (by kernel_rfl) (by kernel_rfl) ?_
       repeat (go_big_quiet_step (fail))
       refine wpQuiet_nil ?_
       intro w5 hw'
       obtain ⟨⟨wq, k5⟩, hw''⟩ := hw'
       subst hw''
       go_wp2
       go_roundw
       case rel => exact ⟨j + 1, by omega, by push_cast; rfl, zz (by rw [HH.out, HN.out]; omega), zz (HB.out.trans (Below.mono k5 HB.out.size))⟩
       case measure => simp [intOf]; omega
      ·have g2 : ((z : Int) == (x : Int)) = false := by simp; omega
       have HN : Hid (headN x r = j) := zz (by rw [HH.out, MIS.out hzx]; rfl)
       clear hzx
       go_upto_region 2 with fail
       refine wp_region_mild (by kernel_rfl) (by kernel_rfl) ?_
       repeat (go_big_quiet_step (fail))
       refine wpQuiet_nil ?_
       intro w5 hw'
       obtain ⟨⟨wq, k5⟩, hw''⟩ := hw'
       subst hw''
       go_wp2
       go_meet
       exact ⟨by rw [HN.out], zz (HB.out.trans (Below.mono k5 HB.out.size))⟩
     ·have hjq : j = q := by omega
      have HN : Hid (headN x r = j) := zz (by rw [HH.out, headN_end (by rw [HQ.out]; omega)]; rfl)
      have g1 : decide ((j : Int) + 1 < (q : Int) + 1) = false := decide_eq_false (by omega)
      clear hjq
      go_upto_region 2 with fail
      refine wp_region_mild (by kernel_rfl) (by kernel_rfl) ?_
      repeat (go_big_quiet_step (fail))
      refine wpQuiet_nil ?_
      intro w5 hw'
      obtain ⟨⟨wq, k5⟩, hw''⟩ := hw'
      subst hw''
      go_wp2
      go_meet
      exact ⟨by rw [HN.out], zz (HB.out.trans (Below.mono k5 HB.out.size))⟩
   case rest =>
   obtain ⟨rfl, HB⟩ := hcut
   obtain ⟨k, hk⟩ : ∃ k, headN x r = k := ⟨_, rfl⟩
   have HK := zz hk
   rw [hk] at hle ⊢
   have HPX : pre ++ [(x, k + 1)] = (runsL l).take (pre.length + 1) := by
    rw [← HP.out, runsL_cons, HK.out]
    simp [List.take_append, List.take_of_length_le]
   have HP2 : Hid ((pre ++ [(x, k + 1)]) ++ runsL (r.drop k) = runsL l) := zz (by rw [← HP.out, runsL_cons, HK.out]; simp)
   have c1 := (HB.out.cell (p := ⟨gl, 0, none⟩) HL0.out).trans HC0.out
   have x1 := (HB.out.cell (p := ⟨b, off, none⟩) hbw).trans HCX.out
   have HJC := zz (HJ.out W.heap.size pre w7 wc none HJK.out (grown_of HB.out) (fun r e => by cases e))
   obtain ⟨fn, tmps, assign, body, hy, hR⟩ := HY.out W.heap.size pre (x, k + 1) wc (zL _) HJC.out HPX
   unfold strE at hy
   dsimp only at hy
   clear hk hcx fz l0 c0 HPX HCJ
   go_upto_region 4 with fail
   refine (wpIn_wide (n := n)).1 ?_
   apply wpIn_region_lit
   refine wpListIn_runs (.func (.yield lp) #[] #[]) rfl (by intro c h; cases h) rfl rfl ?_
   simp only [Act.put, zD, zE, zF]
   refine wpListIn_runs (.slice (some ⟨b, off, none⟩) (q + 1) c') rfl (by intro c h; cases h) rfl (runs_load1 25 (.tmp 1) rfl gl 0 rfl Tryz.underlying25 rfl c1) ?_
   simp only [Act.put, zD, zE, zF]
   refine wpListIn_runs (.pointer (some ⟨b, off, none⟩)) rfl (by intro c h; cases h) rfl (runs_idx0 25 5 (.tmp 24) rfl Tryz.underlying25 (by kernel_rfl) b off q c' rfl) ?_
   simp only [Act.put, zD, zE, zF]
   refine wpListIn_runs (.int .u8 (x : Nat)) rfl (by intro c h; cases h) rfl (runs_load1 5 (.tmp 25) rfl b off rfl Tryz.underlying5 rfl x1) ?_
   simp only [Act.put, zD, zE, zF]
   refine wpListIn_runs (.int .i64 ((k : Int) + 1)) rfl (by intro c h; cases h) rfl rfl ?_
   simp only [Act.put, zD, zE, zF]
   refine wpListIn_yieldB (l := lp) (fn := fn) (tms := tmps) (assign := assign) (body := body) ?_ ?_ ?_ ?_ (fun _ => hn) hR ?_ ?_
   ·rfl
   ·intro c h; cases h
   ·rfl
   ·exact runs_yield (.tmp 23) [.tmp 26, .tmp 27] rfl rfl rfl rfl hy
   rotate_left
   ·intro w9 hJ9
    have HJ9 := zz hJ9
    clear hJ9
    simp only [Act.put, zD, zE, zF]
    refine wpListIn_runs (.bool true) rfl (by intro c h; cases h) rfl rfl ?_
    simp only [Act.put, zD, zE, zF]
    refine wpListIn_nil ?_
    go_wp2_with fail
    refine bodyPost_ret (results_none rfl _ _ _) rfl ?_
    exact ⟨⟨_, rfl⟩, W.heap.size, _, zL _, .inr ⟨trivial, HJ9.out⟩⟩
   rintro w9 ⟨hJ9, hk9⟩
   simp only [Act.put, zD, zE, zF]
   refine wpListIn_runs (.bool false) rfl (by intro c h; cases h) rfl rfl ?_
   simp only [Act.put, zD, zE, zF]
   refine wpListIn_nil ?_
   have hgx : ¬ X gl := fun e => (HX.out _ e).2 rfl
   have hG9 : Blk w9 gl 25 #[.slice (some ⟨b, off, none⟩) (q + 1) c'] := by
    have h1 := HF.out.cell.on HB.out
    rw [zH, HQ.out] at h1
    exact (hk9.2 gl hglw hgx).trans h1
   have c9 := hG9.cell 0
   have l9 := hG9.lt
   have f9 := hG9.frozen 0
   simp only [zA, zB] at c9
   have HKP := zz hk9
   have HJ9 := zz hJ9
   have hcc : q + 1 ≤ c' := by have := HF.out.cap; rw [zH, HQ.out] at this; exact this
   clear hk9 hJ9 HJC hy hR c1 x1
   go_wp2_with fail
   obtain ⟨A2, hA2⟩ : ∃ A2 : Option Addr, (if c' = k + 1 then some (⟨b, off, none⟩ : Addr) else some ⟨b, off + (k + 1), none⟩) = A2 := ⟨_, rfl⟩
   rw [hA2]
   have hG10 := hG9.set 0 (.slice A2 (q - k) (c' - (k + 1)))
   have hlen : (r.drop k).length = q - k := by rw [List.length_drop, HQ.out]
   have hJ10 := HJ.out W.heap.size _ w9 _ (some gl) HJ9.out (grownBy_setCell' w9 gl (.slice A2 (q - k) (c' - (k + 1)))) (fun r e => by cases e; exact ⟨.inl rfl, _, hG9, rfl⟩)
   refine ⟨⟨r.drop k, pre ++ [(x, k + 1)], A2, c' - (k + 1), by rw [hlen]; rw [zH, HQ.out] at htl; omega, HP2, zz (fun y hy => HBT.out y (List.mem_cons_of_mem _ (List.mem_of_mem_drop hy))), zz ⟨?_, ?_, ?_, ?_⟩, zz ?_, zz hJ10⟩, ?_⟩
   ·rw [hlen]
    simpa using hG10
   ·intro r1 hr1 hx1 hn1
    exact (Below.heap_setCell w9 _ _ r1 hn1).trans ((HKP.out.2 r1 hr1 hx1).trans ((HB.out.block r1 (by have := HF.out.size; omega)).trans (HF.out.low r1 hr1 hx1 hn1)))
   ·rw [hlen]; omega
   ·have h1 := HF.out.size
    have h2 := HB.out.size
    have h3 := HKP.out.1
    have h4 := (grownBy_setCell' w9 gl (.slice A2 (q - k) (c' - (k + 1)))).size
    omega
   ·intro V hV
    by_cases he : c' = k + 1
    ·have : r.drop k = [] := List.eq_nil_of_length_eq_zero (by rw [hlen]; omega)
     rw [this]
     exact Rd.nil _ _ _
    ·rw [if_neg he] at hA2
     rw [← hA2]
     have h1 := (HRT.out V hV).sub btC_length (k := k + 1) (i := (x :: r).length) (by rw [zH, HQ.out]; omega) (zL _)
     rw [List.take_length, Nat.mul_one, List.drop_succ_cons] at h1
     exact h1
   ·have e1 := hG10.cell 0
    simp only [zA, zB, zD, zE] at e1
    rw [e1, HC0.out]
    show q - k < q + 1
    omega
end
end Go.Proofs.YtibeihcpehikoaaGreat
