/-
  The walks beneath: AnyC, AnyD, AnyE.
-/
import Derived.Test.YtibeihcpehikoaaGreatSa
namespace Go.Proofs.YtibeihcpehikoaaGreat
open Go.RowKit
section
section
variable {P : Program} {ops : Array Oper} {md : Region.Mode} {F : Fence} {n c : Nat} {Q Q1 : Exit → Act → World → Prop}
def upTo (lp : Array Bool) (r : Nat) : Array Bool := lp ++ Array.replicate r false
theorem upTo_getD {lp : Array Bool} {r j : Nat} : (upTo lp r).getD j false = lp.getD j false := by
 unfold upTo
 simp only [Array.getD_eq_getD_getElem?, Array.getElem?_append, Array.getElem?_replicate]
 split
 ·rfl
 ·rename_i h
  rw [Array.getElem?_eq_none (by omega)]
  split <;> rfl
theorem upTo_getT {lp : Array Bool} {r j : Nat} (h : j < lp.size) : (upTo lp r).getD j true = lp.getD j true := by
 unfold upTo
 simp only [Array.getD_eq_getD_getElem?, Array.getElem?_append, if_pos h]
theorem upTo_set {lp : Array Bool} {r i : Nat} (h : i < lp.size) : (upTo lp r).setIfInBounds i true = upTo (lp.setIfInBounds i true) r := by
 unfold upTo
 apply Array.ext_getElem?
 intro j
 simp only [Array.getElem?_setIfInBounds, Array.getElem?_append, Array.size_append, Array.size_setIfInBounds]
 split
 ·rename_i e
  subst e
  simp [h]
  omega
 ·rfl
theorem ready_upTo {pre : Array Oper} (hpre : ∀ i, i < c → pre[i]? = ops[i]?) {lp : Array Bool} {r i : Nat} (hl : lp.size = c) (hi : i < c) : i ∈ Region.ready md ops (upTo lp r) ↔ i ∈ Region.ready md pre lp := by
 rw [mem_ready, mem_ready, upTo_getT (by omega), hpre i hi]
 simp only [upTo_getD]
theorem any_more : ∀ (f : Nat) (listed : Array Bool) (a : Act) (w : World), wpAnyIn F n P md ops Q f listed a w → wpAnyIn F n P md ops Q (f + 1) listed a w
 | 0, _, _, _, h => ⟨fun _ => h.2, fun i hi => by rw [h.1] at hi; cases hi⟩
 | f + 1, _, _, _, h => ⟨h.1, fun i hi => wpOpIn_mono (fun a w => any_more f _ a w) (h.2 i hi)⟩
theorem any_moreN (m f : Nat) (listed : Array Bool) (a : Act) (w : World) (h : wpAnyIn F n P md ops Q f listed a w) : wpAnyIn F n P md ops Q (m + f) listed a w := by
 induction m with
 | zero => rw [Nat.zero_add]; exact h
 | succ m ih => rw [Nat.succ_add]; exact any_more _ _ _ _ ih
theorem closed_upTo {pre : Array Oper} (hpre : ∀ i, i < c → pre[i]? = ops[i]?) {lp : Array Bool} {r : Nat} (hl : lp.size = c) (h : Closed md pre lp) : Closed md ops (upTo lp r) := fun j oj hj hlj e he hb => by
 rw [upTo_getD] at hlj ⊢
 have hjc : j < c := by
  rcases Nat.lt_or_ge j c with hlt | hge
  ·exact hlt
  ·rw [Array.getD_eq_getD_getElem?, Array.getElem?_eq_none (by omega)] at hlj
   cases hlj
 exact h j oj ((hpre j hjc).trans hj) hlj e he hb
theorem any_cut {pre : Array Oper} (hps : pre.size = c) (hpre : ∀ i, i < c → pre[i]? = ops[i]?) (hw : ∀ i, c < i → i < ops.size → waitsM md ops i c = true) (hwc : ∀ i, i < c → waitsM md ops c i = true)
  (hop : ∀ i a w (K K' : Act → World → Prop), i < c → (∀ a w, K a w → K' a w) → wpOp P pre Q1 i K a w → wpOpIn F n P ops Q i K' a w)
  (hend : ∀ lp a w, lp.size = c → Closed md pre lp → Region.ready md pre lp = [] → Q1 .normal a w → wpAnyIn F n P md ops Q (ops.size - c) (upTo lp (ops.size - c)) a w) :
  ∀ (f : Nat) (lp : Array Bool) (a : Act) (w : World), lp.size = c → Closed md pre lp → wpAny P md pre Q1 f lp a w → wpAnyIn F n P md ops Q (f + (ops.size - c)) (upTo lp (ops.size - c)) a w
 | 0, lp, a, w, hl, hcl, h => by
  rw [Nat.zero_add]
  exact hend lp a w hl hcl h.1 h.2
 | f + 1, lp, a, w, hl, hcl, h => by
  by_cases hr : Region.ready md pre lp = []
  ·exact any_moreN (f + 1) _ _ _ _ (hend lp a w hl hcl hr (h.1 hr))
  ·obtain ⟨k, hk⟩ : ∃ k, k ∈ Region.ready md pre lp := by
    cases hq : Region.ready md pre lp with
    | nil => exact absurd hq hr
    | cons k l => exact ⟨k, by simp⟩
   have hkc : k < c := by
    obtain ⟨-, o, ho, -⟩ := mem_ready.1 hk
    have := (Array.getElem?_eq_some_iff.1 ho).1
    omega
   have hko := (ready_upTo (ops := ops) (r := ops.size - c) hpre hl hkc).2 hk
   have hclo := closed_upTo (r := ops.size - c) hpre hl hcl
   have hno : ∀ j, c ≤ j → (upTo lp (ops.size - c)).getD j false = false := fun j hj => by
    rw [upTo_getD, Array.getD_eq_getD_getElem?, Array.getElem?_eq_none (by omega)]; rfl
   rw [Nat.succ_add]
   refine ⟨fun h0 => (by rw [h0] at hko; cases hko), fun i hi => ?_⟩
   rcases Nat.lt_trichotomy i c with hic | hic | hic
   ·have hip := (ready_upTo (ops := ops) (r := ops.size - c) hpre hl hic).1 hi
    rw [upTo_set (by omega)]
    exact hop i a w _ _ hic (fun a w h => any_cut hps hpre hw hwc hop hend f _ a w (by rw [Array.size_setIfInBounds]; exact hl) (hcl.set hip) h) (h.2 i hip)
   ·subst hic
    have h1 := waitsM_ready hclo hi (hwc k hkc)
    have h2 := (mem_ready.1 hko).1
    rw [upTo_getT (by omega)] at h2
    rw [upTo_getD] at h1
    rw [getD_both h2] at h1
    cases h1
   ·have his : i < ops.size := by
     obtain ⟨-, o, ho, -⟩ := mem_ready.1 hi
     exact (Array.getElem?_eq_some_iff.1 ho).1
    have h1 := waitsM_ready hclo hi (hw i hic his)
    rw [hno c (zL _)] at h1
    cases h1
end
end
section
section
variable {P : Program} {ops pre : Array Oper} {md : Region.Mode} {F : Fence} {n c : Nat} {Q Q1 : Exit → Act → World → Prop}
theorem oper_exits {o : Oper} {a : Act} {w : World} {K : Act → World → Prop} (hq : ∀ a w ch, Q1 (.panic ch) a w → Q (.panic ch) a w) (hno : ¬ LetsOut Q1) (h : o.wp P a w K Q1) : o.wp P a w K Q := by
 unfold Oper.wp at *
 generalize (execOp a.eval o).run P w = r at *
 cases r with
 | ok x w' =>
  cases x with
  | enter f args => exact Calls.mono h (fun e w'' he => by
    cases e with
    | returned v => exact he
    | panicked ch => exact hq _ _ _ he
    | outgrown => exact absurd he hno)
  | value v => exact h
  | skip => exact h
  | defer d => exact h
  | row row args => exact h
  | _ => exact h.elim
 | halt x w' =>
  cases x with
  | panic v => exact hq _ _ _ h
  | _ => exact h.elim
def WideF (F : Fence) : Prop := F = Fence.wide ∨ ∃ l, F = Fence.wide.inRound l
theorem oper_roundW {o : Oper} {a : Act} {w : World} {K : Act → World → Prop} (hF : WideF F) (hd : ∀ c, o.op ≠ .defer c) (h : o.wp P a w K Q) : o.wpIn F n P a w K Q := by
 rcases hF with rfl | ⟨l, rfl⟩
 ·refine ⟨fun _ _ => trivial, ?_⟩
  rw [Oper.semAt_plain _ _ _ hd]
  unfold Oper.wp at h
  generalize (execOp a.eval o).run P w = r at h
  cases r with
  | ok x w' =>
   cases x with
   | value v => exact h
   | skip => exact h
   | defer d => exact h
   | enter f args => exact ⟨fun e => (by cases e), callsIn_wide.2 h⟩
   | row row args => exact ⟨fun e => (by cases e), fun c cs _ => let ⟨v, w', r, s⟩ := h c cs; ⟨v, w', r, stepsIn_wide.2 s⟩⟩
   | _ => exact h.elim
  | halt x w' =>
   cases x with
   | panic v => exact h
   | _ => exact h.elim
 ·exact oper_round hd h
theorem op_roundW {i : Nat} {a : Act} {w : World} {K : Act → World → Prop} (hF : WideF F) (hd : noDefer ops = true) (hno : ¬ LetsOut Q) (h : wpOp P ops Q i K a w) : wpOpIn F n P ops Q i K a w := by
 unfold wpOp at h
 unfold wpOpIn
 cases ho : ops[i]? with
 | none => rw [ho] at h; exact h
 | some o =>
  rw [ho] at h
  simp only at h ⊢
  by_cases hw : Region.wanted o (yielded ops a.tmps) = true
  ·rw [if_pos hw] at h ⊢
   rcases h with h | ⟨-, h⟩
   ·exact oper_roundW hF (noDefer_at hd ho) h
   ·exact absurd h hno
  ·rw [if_neg hw] at h ⊢
   refine ⟨fun _ _ => ?_, h⟩
   rcases hF with rfl | ⟨l, rfl⟩ <;> trivial
theorem any_roundW (hF : WideF F) (hd : noDefer ops = true) (hno : ¬ LetsOut Q) : ∀ (f : Nat) (listed : Array Bool) (a : Act) (w : World), wpAny P md ops Q f listed a w → wpAnyIn F n P md ops Q f listed a w
 | 0, _, _, _, h => h
 | f + 1, _, _, _, h => ⟨h.1, fun i hi => wpOpIn_mono (fun a w => any_roundW hF hd hno f _ a w) (op_roundW hF hd hno (h.2 i hi))⟩
theorem yielded_pre (hpre : ∀ i, i < c → pre[i]? = ops[i]?) {tmps : Array Value} {j : Nat} (hj : j < c) : yielded pre tmps j = yielded ops tmps j := by
 unfold yielded
 rw [hpre j hj]
theorem op_pre (hpre : ∀ i, i < c → pre[i]? = ops[i]?) (hg : ∀ i o j b, i < c → ops[i]? = some o → o.guard = some (j, b) → j < c) (hno : ¬ LetsOut Q1) (hno2 : ¬ LetsOut Q) (hq : ∀ a w ch, Q1 (.panic ch) a w → Q (.panic ch) a w) {i : Nat} {a : Act} {w : World} {K K' : Act → World → Prop} (hF : WideF F) (hd : noDefer ops = true) (hi : i < c) (hK : ∀ a w, K a w → K' a w)
  (h : wpOp P pre Q1 i K a w) : wpOpIn F n P ops Q i K' a w := by
 refine wpOpIn_mono hK (op_roundW hF hd hno2 ?_)
 unfold wpOp at *
 rw [hpre i hi] at h
 cases ho : ops[i]? with
 | none => rw [ho] at h; exact h
 | some o =>
  rw [ho] at h
  simp only at h ⊢
  have hw : Region.wanted o (yielded pre a.tmps) = Region.wanted o (yielded ops a.tmps) := by
   unfold Region.wanted
   cases hgd : o.guard with
   | none => rfl
   | some p => simp only; rw [yielded_pre hpre (hg i o p.1 p.2 hi ho hgd)]
  rw [hw] at h
  split
  ·rename_i e
   rw [if_pos e] at h
   rcases h with h | ⟨-, h⟩
   ·exact .inl (oper_exits hq hno h)
   ·exact absurd h hno
  ·rename_i e
   rw [if_neg e] at h
   exact h
theorem all_listed (hb : ∀ (j : Nat) (o : Oper), pre[j]? = some o → ∀ e ∈ o.after, Region.binds md e = true → e.on < j) {lp : Array Bool} (hl : lp.size = pre.size) (h : Region.ready md pre lp = []) : lp = Array.replicate pre.size true := by
 have all : ∀ j, j < pre.size → lp.getD j true = true := by
  intro j
  induction j using Nat.strongRecOn with
  | _ j ih =>
   intro hj
   cases hv : lp.getD j true with
   | true => rfl
   | false =>
    have ho : pre[j]? = some pre[j] := Array.getElem?_eq_getElem hj
    have : j ∈ Region.ready md pre lp := mem_ready.2 ⟨hv, pre[j], ho, fun e he hbd => by
     have hlt := hb j _ ho e he hbd
     have h1 := ih e.on hlt (by omega)
     have hs : e.on < lp.size := by omega
     simpa [Array.getD_eq_getD_getElem?, hs] using h1⟩
    rw [h] at this
    cases this
 apply Array.ext (by simpa using hl)
 intro j h1 h2
 have := all j (by omega)
 simpa [Array.getD_eq_getD_getElem?, h1] using this
theorem any_cut_at {a : Act} {w : World} (hF : WideF F) (hps : pre.size = c) (hcs : c < ops.size) (hpre : ∀ i, i < c → pre[i]? = ops[i]?) (hg : ∀ i o j b, i < c → ops[i]? = some o → o.guard = some (j, b) → j < c) (hb : ∀ (j : Nat) (o : Oper), pre[j]? = some o → ∀ e ∈ o.after, Region.binds md e = true → e.on < j)
  (hw : ∀ i, c < i → i < ops.size → waitsM md ops i c = true) (hwc : ∀ i, i < c → waitsM md ops c i = true) (hd : noDefer ops = true) (hno : ¬ LetsOut Q1) (hno2 : ¬ LetsOut Q) (hq : ∀ a w ch, Q1 (.panic ch) a w → Q (.panic ch) a w)
  (hrd : Region.ready md ops (upTo (Array.replicate c true) (ops.size - c)) = [c]) (h : wpAny P md pre Q1 c (Array.replicate c false) a w)
  (hc : ∀ a w, Q1 .normal a w → Closed md ops ((upTo (Array.replicate c true) (ops.size - c)).setIfInBounds c true) → wpOpIn F n P ops Q c (wpAnyIn F n P md ops Q (ops.size - c - 1) ((upTo (Array.replicate c true) (ops.size - c)).setIfInBounds c true)) a w) :
  wpAnyIn F n P md ops Q ops.size (Array.replicate ops.size false) a w := by
 have := any_cut (F := F) (n := n) (Q := Q) (Q1 := Q1) hps hpre hw hwc (fun i a w K K' hi hK h => op_pre hpre hg hno hno2 hq hF hd hi hK h) (fun lp a w hl hcl hr h1 => by
  have e := all_listed hb (by omega) hr
  rw [hps] at e
  subst e
  have hco := closed_upTo (r := ops.size - c) hpre hl hcl
  have hm : ops.size - c = ops.size - c - 1 + 1 := by omega
  rw [show wpAnyIn F n P md ops Q (ops.size - c) = wpAnyIn F n P md ops Q (ops.size - c - 1 + 1) from congrArg _ hm]
  refine ⟨fun h0 => (by rw [hrd] at h0; cases h0), fun i hi => ?_⟩
  rw [hrd] at hi
  obtain rfl : i = c := by simpa using hi
  exact hc a w h1 (hco.set (by rw [hrd]; simp))) c (Array.replicate c false) a w (by simp) (Closed.none _ _ _) h
 rw [show upTo (Array.replicate c false) (ops.size - c) = Array.replicate ops.size false from by
  unfold upTo
  rw [Array.replicate_append_replicate]
  congr 1
  omega, show c + (ops.size - c) = ops.size from by omega] at this
 exact this
end
end
section
section
variable {P : Program} {ops : Array Oper} {md : Region.Mode} {F : Fence} {n c : Nat} {Q : Exit → Act → World → Prop}
theorem opIn_yieldB {o : Oper} {a : Act} {w w' : World} {K : Act → World → Prop} {l : Nat} {fn : FuncId} {tms : Array Value} {assign body : Code} {R1 R2 : World → Prop}
  (ho : ops[c]? = some o) (hw : Region.wanted o (yielded ops a.tmps) = true) (hd : ∀ c, o.op ≠ .defer c) (ha : o.about P w a.eval = none) (hr : (execOp a.eval o).run P w = .ok (.round l fn tms assign body) w') (hn : F.depth.isSome = true → 1 ≤ n)
  (hR : RoundIn F (n - 1) P l fn tms assign body w' fun e A => (e = .returned (.bool true) ∧ R1 A) ∨ (e = .returned (.bool false) ∧ R2 A)) (h1 : ∀ A, R1 A → K (a.put o.dst (.bool true)) A) (h2 : ∀ A, R2 A → K (a.put o.dst (.bool false)) A) : wpOpIn F n P ops Q c K a w := by
 unfold wpOpIn
 rw [ho]
 simp only
 rw [if_pos hw]
 refine ⟨fun f hf => (by rw [ha] at hf; cases hf), ?_⟩
 rw [Oper.semAt_plain _ _ _ hd, hr]
 refine ⟨hn, hR.mono ?_⟩
 rintro e A (⟨rfl, hA⟩ | ⟨rfl, hA⟩)
 ·exact h1 A hA
 ·exact h2 A hA
theorem opIn_skip {o : Oper} {a : Act} {w : World} {K : Act → World → Prop} (ho : ops[c]? = some o) (hw : Region.wanted o (yielded ops a.tmps) = false) (ha : o.about P w a.eval = none) (h : K (a.put o.dst undef) w) : wpOpIn F n P ops Q c K a w := by
 unfold wpOpIn
 rw [ho]
 simp only
 rw [if_neg (by rw [hw]; simp)]
 exact ⟨fun f hf => (by rw [ha] at hf; cases hf), h⟩
theorem rest_mixedY {k : Nat} {a : Act} {w : World} {listed : Array Bool} {rest : List Oper} (kd : Nat → Kd) (sp : Nat → Told) (hF : WideF F) (hd : noDefer ops = true) (hno : ¬ LetsOut Q) (hs : Region.noSelect ops = true) (hsw : ∀ i j, i < ops.size → j < ops.size → j ≠ i → swapY (kd i) (kd j) = false → waitsM md ops j i = true ∨ waitsM md ops i j = true)
  (hcl : Closed md ops listed) (hl : ∀ j, rest[j]? = ops[k + j]?) (hB : Region.lexFrom md ops rest.length k listed = true)
  (h : wpMixY P md ops kd sp (fun a w F => ∀ W, AllF w F W → Q .normal a W) rest k a w (fun _ _ => True)) : wpAnyIn F n P md ops Q rest.length listed a w :=
 any_roundW hF hd hno _ _ _ _ (wpAny_of_Y (kd := kd) (sp := sp) _ _ _ w (fun _ _ => True) w (OkF.none w) ⟨Grown.refl w, fun _ => trivial⟩
  (wpAnyY_lex hs hsw rest k listed a w (fun _ _ => True) (OkF.none w) hcl hl hB h))
theorem pre_mixedY {a : Act} {w : World} {pre : List Oper} (kds : List Kd) (sp : Nat → Told) (hB : mixYB .any pre.toArray (fun i => kds.getD i .pure) = true)
  (h : wpMixY P .any pre.toArray (fun i => kds.getD i .pure) sp (fun a w F => ∀ W, AllF w F W → Q .normal a W) pre 0 a w (fun _ _ => True)) : wpAny P .any pre.toArray Q pre.length (Array.replicate pre.length false) a { w with drawn := w.drawn + 1 } := by
 have := any_mixedY (Q := Q) kds sp hB h
 simpa using this
def thenAt (Q : Exit → Act → World → Prop) (R : Act → World → Prop) : Exit → Act → World → Prop
 | .normal, a, w => R a w
 | e, a, w => Q e a w
theorem thenAt_out {R : Act → World → Prop} (h : ¬ LetsOut Q) : ¬ LetsOut (thenAt Q R) := h
def cutB (md : Region.Mode) (ops : Array Oper) (c : Nat) : Bool :=
 decide (c < ops.size) && noDefer ops && Region.noSelect ops &&
  ((List.range c).all fun i => waitsM md ops c i) && ((List.range ops.size).all fun i => decide (i ≤ c) || waitsM md ops i c) &&
  ((List.range c).all fun i => match ops[i]? with | some o => (match o.guard with | some p => decide (p.1 < c) | none => true) && o.after.all (fun e => !Region.binds md e || decide (e.on < i)) | none => true) &&
  (Region.ready md ops (upTo (Array.replicate c true) (ops.size - c)) == [c])
theorem wp_region_cut {id : Nat} {a : Act} {w : World} (hF : WideF F) (hm : P.follows .mixedOrders = true) (hB : cutB .any ops c = true) (hno : ¬ LetsOut Q) (R : Act → World → Prop)
  (h : wpAny P .any (ops.extract 0 c) (thenAt Q R) c (Array.replicate c false) a { w with drawn := w.drawn + 1 })
  (hc : ∀ a w, R a w → Closed .any ops ((upTo (Array.replicate c true) (ops.size - c)).setIfInBounds c true) → wpOpIn F n P ops Q c (wpAnyIn F n P .any ops Q (ops.size - c - 1) ((upTo (Array.replicate c true) (ops.size - c)).setIfInBounds c true)) a w) :
  (Code.region id ops true).wpIn F n P Q a w := by
 simp only [cutB, Bool.and_eq_true, decide_eq_true_eq] at hB
 obtain ⟨⟨⟨⟨⟨⟨hcs, hd⟩, -⟩, hwc⟩, hw⟩, hg⟩, hrd⟩ := hB
 have hps : (ops.extract 0 c).size = c := by simp; omega
 have hpre : ∀ i, i < c → (ops.extract 0 c)[i]? = ops[i]? := fun i hi => by
  rw [Array.getElem?_extract]
  simp
  omega
 have hgo : ∀ i o, i < c → ops[i]? = some o → (∀ j b, o.guard = some (j, b) → j < c) ∧ ∀ e ∈ o.after, Region.binds .any e = true → e.on < i := fun i o hi ho => by
  have := List.all_eq_true.1 hg i (List.mem_range.2 hi)
  rw [ho] at this
  simp only [Bool.and_eq_true] at this
  refine ⟨fun j b e => by have h1 := this.1; rw [e] at h1; simpa using h1, fun e he hb => ?_⟩
  have h2 := Array.all_eq_true_iff_forall_mem.1 this.2 e he
  rw [hb] at h2
  simpa using h2
 refine wpIn_region_any hm (any_cut_at (Q1 := thenAt Q R) hF hps hcs hpre (fun i o j b hi ho hgd => (hgo i o hi ho).1 j b hgd) (fun j o ho e he hb => ?_) (fun i h1 h2 => ?_) (fun i hi => List.all_eq_true.1 hwc i (List.mem_range.2 hi)) hd (thenAt_out hno) hno (fun _ _ _ h => h) (by simpa using hrd) h hc)
 ·have hj : j < c := by have := (Array.getElem?_eq_some_iff.1 ho).1; omega
  exact (hgo j o hj ((hpre j hj).symm.trans ho)).2 e he hb
 ·have := List.all_eq_true.1 hw i (List.mem_range.2 h2)
  simp only [Bool.or_eq_true, decide_eq_true_eq] at this
  rcases this with h | h
  ·omega
  ·exact h
def restB (md : Region.Mode) (ops : Array Oper) (c : Nat) (kd : Nat → Kd) : Bool :=
 Region.lexFrom md ops (ops.size - c - 1) (c + 1) ((upTo (Array.replicate c true) (ops.size - c)).setIfInBounds c true) &&
  (List.range ops.size).all fun i => (List.range ops.size).all fun j => decide (j = i) || (swapY (kd i) (kd j) || (waitsM md ops j i || waitsM md ops i j))
theorem wp_region_cutL {id : Nat} {l : List Oper} {a : Act} {w : World} (c : Nat) (kds kds2 : List Kd) (sp sp2 : Nat → Told) (hF : WideF F) (hm : P.follows .mixedOrders = true) (hB : cutB .any l.toArray c = true) (hB1 : mixYB .any (l.take c).toArray (fun i => kds.getD i .pure) = true) (hB2 : restB .any l.toArray c (fun i => kds2.getD i .pure) = true) (hno : ¬ LetsOut Q) (R : Act → World → Prop)
  (h : wpMixY P .any (l.take c).toArray (fun i => kds.getD i .pure) sp (fun a w F => ∀ W, AllF w F W → R a W) (l.take c) 0 a w (fun _ _ => True))
  (hc : ∀ a w, R a w → wpOpIn F n P l.toArray Q c (fun a w => wpMixY P .any l.toArray (fun i => kds2.getD i .pure) sp2 (fun a w F => ∀ W, AllF w F W → Q .normal a W) (l.drop (c + 1)) (c + 1) a w (fun _ _ => True)) a w) :
  (Code.region id l.toArray true).wpIn F n P Q a w := by
 have hcl : c < l.length := by
  simp only [cutB, Bool.and_eq_true, decide_eq_true_eq] at hB
  simpa using hB.1.1.1.1.1.1
 have hdd : noDefer l.toArray = true := by
  simp only [cutB, Bool.and_eq_true] at hB
  exact hB.1.1.1.1.1.2
 have hss : Region.noSelect l.toArray = true := by
  simp only [cutB, Bool.and_eq_true] at hB
  exact hB.1.1.1.1.2
 have hex : l.toArray.extract 0 c = (l.take c).toArray := by simp
 have hlen : (l.take c).length = c := by rw [List.length_take]; omega
 simp only [restB, Bool.and_eq_true] at hB2
 refine wp_region_cut (c := c) hF hm hB hno R ?_ (fun a w hR hclo => ?_)
 ·rw [hex]
  have := pre_mixedY (Q := thenAt Q R) kds sp hB1 (a := a) (w := w) h
  rw [hlen] at this
  exact this
 ·refine wpOpIn_mono (fun a w hK => ?_) (hc a w hR)
  have hl : (l.drop (c + 1)).length = l.toArray.size - c - 1 := by rw [List.length_drop, zM]; omega
  have := rest_mixedY (F := F) (n := n) (Q := Q) (k := c + 1) (rest := l.drop (c + 1)) (listed := (upTo (Array.replicate c true) (l.toArray.size - c)).setIfInBounds c true) (fun i => kds2.getD i .pure) sp2 hF hdd hno hss (fun i j hi hj hne hs => by
   have h1 := List.all_eq_true.1 (List.all_eq_true.1 hB2.2 i (List.mem_range.2 hi)) j (List.mem_range.2 hj)
   simp only [Bool.or_eq_true, decide_eq_true_eq] at h1
   rcases h1 with h1 | h1 | h1
   ·exact absurd h1 hne
   ·rw [hs] at h1; cases h1
   ·exact h1) hclo (fun j => by simp [List.getElem?_drop]) (by rw [hl]; exact hB2.1) hK
  rw [hl] at this
  exact this
theorem wp_region_cutK {id : Nat} {l : List Oper} {a : Act} {w : World} (c : Nat) (kds kds2 : List Kd) (sp sp2 : Nat → Told) (hF : WideF F) (hm : P.follows .mixedOrders = true) (hB : cutB .any l.toArray c = true) (hB1 : mixYB .any (l.take c).toArray (fun i => kds.getD i .pure) = true) (hB2 : restB .any l.toArray c (fun i => kds2.getD i .pure) = true) (hno : ¬ LetsOut Q)
  (h : ∀ R : Act → World → Prop, (∀ a W, wpOpIn F n P l.toArray Q c (fun a w => wpMixY P .any l.toArray (fun i => kds2.getD i .pure) sp2 (fun a w D => ∀ W, AllF w D W → Q .normal a W) (l.drop (c + 1)) (c + 1) a w (fun _ _ => True)) a W → R a W) → wpMixY P .any (l.take c).toArray (fun i => kds.getD i .pure) sp (fun a w D => ∀ W, AllF w D W → R a W) (l.take c) 0 a w (fun _ _ => True)) :
  (Code.region id l.toArray true).wpIn F n P Q a w :=
 wp_region_cutL c kds kds2 sp sp2 hF hm hB hB1 hB2 hno _ (h _ (fun _ _ h => h)) (fun _ _ h => h)
end
end
end Go.Proofs.YtibeihcpehikoaaGreat
