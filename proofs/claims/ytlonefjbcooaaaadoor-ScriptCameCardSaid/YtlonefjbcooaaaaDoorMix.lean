/-
  Regions that draw their order, of operations of four kinds: such as ask nothing of the world; such as read what is held in every world that has grown out of the one at hand; such as make memory of their own, or call what does (told ahead, by what is said of their value); such as write, behind all those. One walk of the text's order serves every order.
-/
import Derived.Test.YtlonefjbcooaaaaDoorMild
import Derived.StillTail
import Derived.Deep.MidRow
namespace Go.Proofs.YtlonefjbcooaaaaDoor
open Go.RowKit
section
variable {P : Program} {ops : Array Oper} {md : Region.Mode} {C : World → Prop}
def wpAnyM (P : Program) (md : Region.Mode) (ops : Array Oper) (C : World → Prop) (n : Nat) (L : Array Bool → Act → Prop) : Nat → Array Bool → Act → Prop
  | 0, listed, a => L listed a
  | f + 1, listed, a =>
    Region.ready md ops listed ≠ [] ∧ ∀ i ∈ Region.ready md ops listed, i < n ∧ qOp P ops C i (wpAnyM P md ops C n L f (listed.setIfInBounds i true)) a
theorem wpAny_of_headM {n g : Nat} {L : Array Bool → Act → Prop} {Q' : Exit → Act → World → Prop} (hL : ∀ listed a w, C w → L listed a → wpAny P md ops Q' g listed a w) :
    ∀ (f : Nat) (listed : Array Bool) (a : Act) (w : World), C w → wpAnyM P md ops C n L f listed a → wpAny P md ops Q' (f + g) listed a w
  | 0, listed, a, w, hw, h => by rw [Nat.zero_add]; exact hL _ _ _ hw h
  | f + 1, listed, a, w, hw, h => by
    rw [show f + 1 + g = (f + g) + 1 by omega]
    exact ⟨fun h0 => absurd h0 h.1, fun i hi => wpOp_of_qOp hw (fun a' w' hw' h' => wpAny_of_headM hL f _ a' w' hw' h') (h.2 i hi).2⟩
theorem wpAnyM_first {n i : Nat} {oi : Oper} {v : Value} {L : Array Bool → Act → Prop} (hi : ops[i]? = some oi) (hsel : ∀ (j : Nat) (o : Oper) cs b, ops[j]? = some o → o.op ≠ .select cs b)
    (hs : Region.sinkB md ops n = true) (hc : Region.chainB md ops n = true) (hn : n < ops.size) (hin : i < n)
    (hdone : ∀ listed a, L listed a → ∀ j ∈ Region.ready md ops listed, n ≤ j) :
    ∀ (f : Nat) (listed : Array Bool) (a : Act), HeadInv md ops n listed →
      (∀ j oj, ops[j]? = some oj → j ≠ i → listed.getD j true = false → (∀ e ∈ oj.after, Region.binds md e = true → e.on ≠ i) → oi.apart ops oj = true) →
      i ∈ Region.ready md ops listed → YieldsIn P ops C oi v a →
      wpAnyM P md ops C n L f (listed.setIfInBounds i true) (a.put oi.dst v) → wpAnyM P md ops C n L (f + 1) listed a := by
  intro f
  induction f with
  | zero =>
    intro listed a inv _ hr hy H
    refine ⟨fun h => (by rw [h] at hr; cases hr), fun j hj => ?_⟩
    have hun := (mem_ready.1 hr).1
    have hjn : j < n := by
      rcases Nat.lt_or_ge j n with h | h
      · exact h
      · exact absurd hj (tail_waits hs hc hn inv _ i rfl hin hun j h)
    refine ⟨hjn, ?_⟩
    by_cases hji : j = i
    · subst hji; exact hy.qOp hi H
    · have := hdone _ _ H j (ready_mono hj hji)
      omega
  | succ f ih =>
    intro listed a inv hfree hr hy H
    have hun := (mem_ready.1 hr).1
    refine ⟨fun h => (by rw [h] at hr; cases hr), fun j hj => ?_⟩
    have hjn : j < n := by
      rcases Nat.lt_or_ge j n with h | h
      · exact h
      · exact absurd hj (tail_waits hs hc hn inv _ i rfl hin hun j h)
    refine ⟨hjn, ?_⟩
    by_cases hji : j = i
    · subst hji; exact hy.qOp hi H
    · have h1 := (H.2 j (ready_mono hj hji)).2
      obtain ⟨hjun, oj, hoj, hall⟩ := mem_ready.1 hj
      have hnot : ∀ e ∈ oj.after, Region.binds md e = true → e.on ≠ i := fun e he hb heq => by
        have h1 := hall e he hb
        rw [heq, getD_both hun] at h1
        cases h1
      have h2 := qOp_put hoj (hfree j oj hoj hji hjun hnot) (fun cs b => hsel i oi cs b hi) (fun cs b => hsel j oj cs b hoj) hy h1
      have hfree' : ∀ k ok, ops[k]? = some ok → k ≠ i → (listed.setIfInBounds j true).getD k true = false →
          (∀ e ∈ ok.after, Region.binds md e = true → e.on ≠ i) → oi.apart ops ok = true := fun k ok hk hki hun hno => by
        refine hfree k ok hk hki ?_ hno
        by_cases hjk : j = k
        · subst hjk; exact hjun
        · rw [getD_set_ne true hjk] at hun; exact hun
      refine qOp_mono (fun a' h3 => ih (listed.setIfInBounds j true) a' (inv.set hj hjn) hfree' (ready_mono hr (Ne.symm hji)) h3.1 ?_) h2
      rw [Array.setIfInBounds_comm _ _ hji]
      exact h3.2
theorem wpAnyM_lex {n g : Nat} {Lq : Act → Prop} (hsel : Region.noSelect ops = true) (hs : Region.sinkB md ops n = true) (hc : Region.chainB md ops n = true) (hn : n < ops.size) :
    ∀ (l : List Oper) (k : Nat) (listed : Array Bool) (a : Act), (∀ j, j < l.length → l[j]? = ops[k + j]?) → k + l.length = n → HeadInv md ops n listed →
    Region.lexHead md ops g l.length k listed = true → wpQuiet P ops C Lq l a →
    wpAnyM P md ops C n (fun listed' a' => Region.seqB md ops g n listed' = true ∧ Lq a') l.length listed a
  | [], k, listed, a, _, hk, _, hB, h => by
    have : k = n := by simpa using hk
    subst this
    exact ⟨by simpa [Region.lexHead] using hB, h⟩
  | o :: l, k, listed, a, hl, hk, inv, hB, h => by
    have h0 : ops[k]? = some o := by simpa using (hl 0 (by simp)).symm
    simp only [List.length_cons, Region.lexHead, Bool.and_eq_true] at hB
    obtain ⟨⟨hr, hf⟩, hB'⟩ := hB
    have hkn : k < n := by simp only [List.length_cons] at hk; omega
    have hr' : k ∈ Region.ready md ops listed := by simpa using hr
    have hst : qOp P ops C k (wpQuiet P ops C Lq l) a := by unfold qOp; simp only [h0]; exact h
    obtain ⟨v, hy, hK⟩ := yieldsIn_of_qOp h0 hst
    exact wpAnyM_first h0 (Region.noSelect_spec hsel) hs hc hn hkn (fun listed' a' hL => seqB_ready hL.1) l.length listed a inv (Region.free_spec h0 hf) hr' hy
      (wpAnyM_lex hsel hs hc hn l (k + 1) _ _ (fun j hj => by have := hl (j + 1) (by simp; omega); simpa [Nat.add_assoc, Nat.add_comm 1 j] using this) (by simp only [List.length_cons] at hk; omega) (inv.set hr' hkn) hB' hK)
theorem wp_region_quiet_tail {id : Nat} {Q : Exit → Act → World → Prop} {a : Act} {w : World} {l : List Oper} (n : Nat) (hm : P.follows .mixedOrders = true) (hB : Region.lexTailB .any l.toArray n = true) (hC : C { w with drawn := w.drawn + 1 })
    (h : wpQuiet P l.toArray C (fun a' => ∀ w', C w' → wpList P l.toArray Q (l.drop n) a' w') (l.take n) a) : (Code.region id l.toArray true).wp P Q a w := by
  simp only [Region.lexTailB, Bool.and_eq_true, decide_eq_true_eq] at hB
  obtain ⟨⟨⟨⟨hsel, hn⟩, hs⟩, hc⟩, hlex⟩ := hB
  have hn' : n < l.length := by simpa using hn
  have htl : (l.take n).length = n := by simp; omega
  have hdl : (l.drop n).length = l.toArray.size - n := by simp
  have inv0 : HeadInv .any l.toArray n (Array.replicate l.toArray.size false) :=
    ⟨by simp, fun j oj _ hl => (by rw [getD_replicate_false] at hl; cases hl), fun t _ ht => getD_in (by simpa using ht) (getD_replicate_false _ _)⟩
  have H := wpAnyM_lex (md := .any) (g := l.toArray.size - n) hsel hs hc hn (l.take n) 0 _ a (fun j hj => by
    have hj' : j < n := by rw [htl] at hj; exact hj
    simp [hj']) (by simpa using htl) inv0 (by rw [htl]; exact hlex) h
  refine wp_region_any hm ?_
  have := wpAny_of_headM (C := C) (Q' := Q) (g := l.toArray.size - n) (fun listed a' w' hw' hL => by
    have := wpAny_of_seq (md := .any) (Q' := Q) (l.drop n) n listed a' w' (fun j => by simp [List.getElem?_drop]) (by rw [hdl]; exact hL.1) (hL.2 w' hw')
    rwa [hdl] at this) _ _ _ _ hC H
  rw [htl, show n + (l.toArray.size - n) = l.toArray.size by omega] at this
  exact this
theorem wp_region_mild_tail {id : Nat} {w : World} {Q : Exit → Act → World → Prop} {a : Act} {l : List Oper} (n : Nat) (hm : P.follows .mixedOrders = true) (hB : Region.lexTailB .any l.toArray n = true)
    (h : wpQuiet P l.toArray (fun w' => ∃ x : Ext w, w' = x.world) (fun a' => ∀ w', (∃ x : Ext w, w' = x.world) → wpList P l.toArray Q (l.drop n) a' w') (l.take n) a) : (Code.region id l.toArray true).wp P Q a w :=
  wp_region_quiet_tail n hm hB ⟨⟨w.drew, (Below.refl _ _).drew⟩, rfl⟩ h
end
end Go.Proofs.YtlonefjbcooaaaaDoor

/-
  Regions that draw their order, in which one operation, the last ahead of those that write, makes what no two worlds make alike (a new row, say): all others ahead of it are walked once, in the text's order; the one is shown from any world that has grown out of the one at hand, and what is told of its value stays so in all that grow out of its own.
-/
namespace Go.Proofs.YtlonefjbcooaaaaDoor
open Go.RowKit
def Grown (w W : World) : Prop := Below w.heap.size w W
theorem Grown.refl (w : World) : Grown w w := Below.refl _ _
theorem Grown.trans {w W U : World} (h : Grown w W) (k : Grown W U) : Grown w U := bTrans h k
section
variable {P : Program} {ops : Array Oper} {md : Region.Mode} {w : World}
/-- What an operation does from a world. -/
def Oper.goesUpon (P : Program) (T : Value → World → Prop) : Result Next → Prop
  | .ok (.value v) w' => T v w'
  | .ok .skip w' => T undef w'
  | .ok (.enter f args) w' => Calls P f args w' (fun e w'' => ∃ v, e = .returned v ∧ T v w'')
  | _ => False
def Oper.goes (P : Program) (o : Oper) (a : Act) (W : World) (T : Value → World → Prop) : Prop := Oper.goesUpon P T ((execOp a.eval o).run P W)
theorem Oper.wp_of_goes {o : Oper} {a : Act} {W : World} {T : Value → World → Prop} {K : Act → World → Prop} {Q : Exit → Act → World → Prop} (h : Oper.goes P o a W T) (hk : ∀ v w', T v w' → K (a.put o.dst v) w') : o.wp P a W K Q := by
  unfold Oper.goes at h
  unfold Oper.wp
  generalize (execOp a.eval o).run P W = r at *
  cases r with
  | ok n w' =>
    cases n <;> simp only [Oper.goesUpon] at h <;> simp only [Oper.upon]
    case value u => exact hk _ _ h
    case skip => exact hk _ _ h
    case enter f args => exact h.mono fun e w'' ⟨v, he, ht⟩ => by subst he; exact hk _ _ ht
  | halt x w' => simp only [Oper.goesUpon] at h
/-- A class of worlds that is kept as they grow. -/
structure Keeps (w : World) (D : World → Prop) : Prop where
  out : ∀ W, D W → Grown w W
  grow : ∀ W U, D W → Grown W U → D U
def Fixed (P : Program) (w : World) (o : Oper) (v : Value) (a : Act) : Prop := ∀ W, Grown w W → Oper.goes P o a W (fun u W' => u = v ∧ Grown W W')
def Makes (P : Program) (w : World) (o : Oper) (S : Value → Prop) (R : Value → World → Prop) (a : Act) : Prop := ∀ W, Grown w W → Oper.goes P o a W (fun u W' => (S u ∧ R u W') ∧ Grown W W')
def xOp (P : Program) (ops : Array Oper) (w : World) (x i : Nat) (K : Act → (World → Prop) → Prop) (a : Act) (D : World → Prop) : Prop :=
  match ops[i]? with
  | none => K a D
  | some o => if Region.wanted o (yielded ops a.tmps) then
      (if i = x then ∃ S R, (∀ v W U, R v W → Grown W U → R v U) ∧ Makes P w o S R a ∧ ∀ v, S v → K (a.put o.dst v) (fun W => D W ∧ R v W)
        else ∃ v, Fixed P w o v a ∧ K (a.put o.dst v) D)
      else K (a.put o.dst undef) D
theorem xOp_mono {x i : Nat} {a : Act} {D : World → Prop} {K K' : Act → (World → Prop) → Prop} (h : ∀ a D, K a D → K' a D) (hh : xOp P ops w x i K a D) : xOp P ops w x i K' a D := by
  unfold xOp at *
  split
  · rename_i ho; simp only [ho] at hh; exact h _ _ hh
  · rename_i o ho
    simp only [ho] at hh
    split
    · rename_i hw
      simp only [hw, if_true] at hh
      split
      · rename_i hx
        simp only [hx, if_true] at hh
        obtain ⟨S, R, h1, h2, h3⟩ := hh
        exact ⟨S, R, h1, h2, fun v hv => h _ _ (h3 v hv)⟩
      · rename_i hx
        simp only [hx, if_false] at hh
        obtain ⟨v, h1, h2⟩ := hh
        exact ⟨v, h1, h _ _ h2⟩
    · rename_i hw; simp only [hw] at hh; exact h _ _ hh
def wpAnyX (P : Program) (md : Region.Mode) (ops : Array Oper) (w : World) (x n : Nat) (L : Array Bool → Act → (World → Prop) → Prop) : Nat → Array Bool → Act → (World → Prop) → Prop
  | 0, listed, a, D => L listed a D
  | f + 1, listed, a, D =>
    Region.ready md ops listed ≠ [] ∧ ∀ i ∈ Region.ready md ops listed, i < n ∧ xOp P ops w x i (wpAnyX P md ops w x n L f (listed.setIfInBounds i true)) a D
theorem wpOp_of_xOp {x i : Nat} {a : Act} {D : World → Prop} {K : Act → (World → Prop) → Prop} {K' : Act → World → Prop} {Q' : Exit → Act → World → Prop} {W : World} (hD : Keeps w D) (hW : D W)
    (h : ∀ a D W', Keeps w D → D W' → K a D → K' a W') (hh : xOp P ops w x i K a D) : wpOp P ops Q' i K' a W := by
  unfold xOp at hh
  unfold wpOp
  split
  · rename_i ho; simp only [ho] at hh; exact h _ _ _ hD hW hh
  · rename_i o ho
    simp only [ho] at hh
    split
    · rename_i hw
      simp only [hw, if_true] at hh
      by_cases hx : i = x
      · simp only [hx, if_true] at hh
        obtain ⟨S, R, h1, h2, h3⟩ := hh
        exact .inl (Oper.wp_of_goes (h2 W (hD.out W hW)) fun v W' ⟨⟨hs, hr⟩, hg⟩ => h _ _ _ ⟨fun U hU => hD.out U hU.1, fun U V hU hUV => ⟨hD.grow U V hU.1 hUV, h1 v U V hU.2 hUV⟩⟩ ⟨hD.grow W W' hW hg, hr⟩ (h3 v hs))
      · simp only [hx, if_false] at hh
        obtain ⟨v, h1, h2⟩ := hh
        exact .inl (Oper.wp_of_goes (h1 W (hD.out W hW)) fun u W' ⟨hu, hg⟩ => by subst hu; exact h _ _ _ hD (hD.grow W W' hW hg) h2)
    · rename_i hw; simp only [hw] at hh; exact h _ _ _ hD hW hh
theorem wpAny_of_headX {x n g : Nat} {L : Array Bool → Act → (World → Prop) → Prop} {Q' : Exit → Act → World → Prop} (hL : ∀ listed a D W, Keeps w D → D W → L listed a D → wpAny P md ops Q' g listed a W) :
    ∀ (f : Nat) (listed : Array Bool) (a : Act) (D : World → Prop) (W : World), Keeps w D → D W → wpAnyX P md ops w x n L f listed a D → wpAny P md ops Q' (f + g) listed a W
  | 0, listed, a, D, W, hD, hW, h => by rw [Nat.zero_add]; exact hL _ _ _ _ hD hW h
  | f + 1, listed, a, D, W, hD, hW, h => by
    rw [show f + 1 + g = (f + g) + 1 by omega]
    exact ⟨fun h0 => absurd h0 h.1, fun i hi => wpOp_of_xOp hD hW (fun a' D' W' hD' hW' h' => wpAny_of_headX hL f _ a' D' W' hD' hW' h') (h.2 i hi).2⟩
/-- In state 'a' operation 'o' leaves 'v' in its temporary, whatever world that has grown out of w. -/
def YieldsFx (P : Program) (ops : Array Oper) (w : World) (o : Oper) (v : Value) (a : Act) : Prop :=
  (Region.wanted o (yielded ops a.tmps) = true ∧ Fixed P w o v a) ∨ (Region.wanted o (yielded ops a.tmps) = false ∧ v = undef)
theorem YieldsFx.xOp {x i : Nat} {o : Oper} {v : Value} {a : Act} {D : World → Prop} (hi : ops[i]? = some o) (hx : i ≠ x) (hy : YieldsFx P ops w o v a) {K : Act → (World → Prop) → Prop} (h : K (a.put o.dst v) D) : xOp P ops w x i K a D := by
  unfold Go.Proofs.YtlonefjbcooaaaaDoor.xOp
  simp only [hi]
  rcases hy with ⟨hw, hv⟩ | ⟨hw, rfl⟩
  · simp only [hw, if_true, hx, if_false]; exact ⟨v, hv, h⟩
  · simp only [hw, Bool.false_eq_true, if_false]; exact h
theorem YieldsFx.of_same {o : Oper} {v : Value} {a a' : Act} (hy : YieldsFx P ops w o v a) (he : execOp a'.eval o = execOp a.eval o)
    (hw : Region.wanted o (yielded ops a'.tmps) = Region.wanted o (yielded ops a.tmps)) : YieldsFx P ops w o v a' := by
  unfold YieldsFx Fixed Oper.goes at *
  rw [he, hw]
  exact hy
theorem xOp_put {x j : Nat} {oi oj : Oper} {v : Value} (hj : ops[j]? = some oj) (hap : oi.apart ops oj = true)
    (hsi : ∀ cs b, oi.op ≠ .select cs b) (hsj : ∀ cs b, oj.op ≠ .select cs b) {K : Act → (World → Prop) → Prop} {a : Act} {D : World → Prop}
    (hy : YieldsFx P ops w oi v a) (h : xOp P ops w x j K (a.put oi.dst v) D) :
    xOp P ops w x j (fun a' D' => YieldsFx P ops w oi v a' ∧ K (a'.put oi.dst v) D') a D := by
  obtain ⟨h1, h2, h3⟩ := Oper.apart_spec hap
  have keep : ∀ (a : Act), YieldsFx P ops w oi v a → ∀ u, YieldsFx P ops w oi v (a.put oj.dst u) := fun a hy u =>
    hy.of_same (execOp_put oi hsi a oj.dst u h3) (wanted_put oi a oj.dst u h3)
  unfold xOp at *
  simp only [hj] at *
  rw [wanted_put oj a oi.dst v h1] at h
  split
  · rename_i hw
    simp only [hw, if_true] at h
    split
    · rename_i hx
      simp only [hx, if_true] at h
      obtain ⟨S, R, g1, g2, g3⟩ := h
      refine ⟨S, R, g1, fun W hW => ?_, fun u hu => ⟨keep a hy u, by rw [← Act.put_comm a v u h2]; exact g3 u hu⟩⟩
      have := g2 W hW
      unfold Oper.goes at *
      rwa [execOp_put oj hsj a oi.dst v h1] at this
    · rename_i hx
      simp only [hx, if_false] at h
      obtain ⟨u, hu, hn⟩ := h
      refine ⟨u, fun W hW => ?_, keep a hy u, by rw [← Act.put_comm a v u h2]; exact hn⟩
      have := hu W hW
      unfold Oper.goes at *
      rwa [execOp_put oj hsj a oi.dst v h1] at this
  · rename_i hw
    simp only [hw] at h
    exact ⟨keep a hy _, by rw [← Act.put_comm a v undef h2]; exact h⟩
theorem wpAnyX_first {x n i : Nat} {oi : Oper} {v : Value} {L : Array Bool → Act → (World → Prop) → Prop} (hi : ops[i]? = some oi) (hix : i ≠ x) (hsel : ∀ (j : Nat) (o : Oper) cs b, ops[j]? = some o → o.op ≠ .select cs b)
    (hs : Region.sinkB md ops n = true) (hc : Region.chainB md ops n = true) (hn : n < ops.size) (hin : i < n)
    (hdone : ∀ listed a D, L listed a D → ∀ j ∈ Region.ready md ops listed, n ≤ j) :
    ∀ (f : Nat) (listed : Array Bool) (a : Act) (D : World → Prop), HeadInv md ops n listed →
      (∀ j oj, ops[j]? = some oj → j ≠ i → listed.getD j true = false → (∀ e ∈ oj.after, Region.binds md e = true → e.on ≠ i) → oi.apart ops oj = true) →
      i ∈ Region.ready md ops listed → YieldsFx P ops w oi v a →
      wpAnyX P md ops w x n L f (listed.setIfInBounds i true) (a.put oi.dst v) D → wpAnyX P md ops w x n L (f + 1) listed a D := by
  intro f
  induction f with
  | zero =>
    intro listed a D inv _ hr hy H
    refine ⟨fun h => (by rw [h] at hr; cases hr), fun j hj => ?_⟩
    have hun := (mem_ready.1 hr).1
    have hjn : j < n := by
      rcases Nat.lt_or_ge j n with h | h
      · exact h
      · exact absurd hj (tail_waits hs hc hn inv _ i rfl hin hun j h)
    refine ⟨hjn, ?_⟩
    by_cases hji : j = i
    · subst hji; exact hy.xOp hi hix H
    · have := hdone _ _ _ H j (ready_mono hj hji)
      omega
  | succ f ih =>
    intro listed a D inv hfree hr hy H
    have hun := (mem_ready.1 hr).1
    refine ⟨fun h => (by rw [h] at hr; cases hr), fun j hj => ?_⟩
    have hjn : j < n := by
      rcases Nat.lt_or_ge j n with h | h
      · exact h
      · exact absurd hj (tail_waits hs hc hn inv _ i rfl hin hun j h)
    refine ⟨hjn, ?_⟩
    by_cases hji : j = i
    · subst hji; exact hy.xOp hi hix H
    · have h1 := (H.2 j (ready_mono hj hji)).2
      obtain ⟨hjun, oj, hoj, hall⟩ := mem_ready.1 hj
      have hnot : ∀ e ∈ oj.after, Region.binds md e = true → e.on ≠ i := fun e he hb heq => by
        have h1 := hall e he hb
        rw [heq, getD_both hun] at h1
        cases h1
      have h2 := xOp_put hoj (hfree j oj hoj hji hjun hnot) (fun cs b => hsel i oi cs b hi) (fun cs b => hsel j oj cs b hoj) hy h1
      have hfree' : ∀ k ok, ops[k]? = some ok → k ≠ i → (listed.setIfInBounds j true).getD k true = false →
          (∀ e ∈ ok.after, Region.binds md e = true → e.on ≠ i) → oi.apart ops ok = true := fun k ok hk hki hun hno => by
        refine hfree k ok hk hki ?_ hno
        by_cases hjk : j = k
        · subst hjk; exact hjun
        · rw [getD_set_ne true hjk] at hun; exact hun
      refine xOp_mono (fun a' D' h3 => ih (listed.setIfInBounds j true) a' D' (inv.set hj hjn) hfree' (ready_mono hr (Ne.symm hji)) h3.1 ?_) h2
      rw [Array.setIfInBounds_comm _ _ hji]
      exact h3.2
/-- The walk of the text's order, ahead of the one. -/
def wpFx (P : Program) (ops : Array Oper) (w : World) (Q : Act → Prop) : List Oper → Act → Prop
  | [], a => Q a
  | o :: rest, a => if Region.wanted o (yielded ops a.tmps) then ∃ v, Fixed P w o v a ∧ wpFx P ops w Q rest (a.put o.dst v) else wpFx P ops w Q rest (a.put o.dst undef)
theorem wpAnyX_lex {x g : Nat} {Lq : Act → Prop} {L : Array Bool → Act → (World → Prop) → Prop} (hsel : Region.noSelect ops = true) (hs : Region.sinkB md ops (x + 1) = true) (hc : Region.chainB md ops (x + 1) = true) (hn : x + 1 < ops.size)
    (hdone : ∀ listed a D, L listed a D → ∀ j ∈ Region.ready md ops listed, x + 1 ≤ j)
    (D : World → Prop) (hend : ∀ listed a, HeadInv md ops (x + 1) listed → Region.lexHead md ops g 1 x listed = true → Lq a → wpAnyX P md ops w x (x + 1) L 1 listed a D) :
    ∀ (l : List Oper) (k : Nat) (listed : Array Bool) (a : Act), (∀ j, j < l.length → l[j]? = ops[k + j]?) → k + l.length = x → HeadInv md ops (x + 1) listed →
    Region.lexHead md ops g (l.length + 1) k listed = true → wpFx P ops w Lq l a →
    wpAnyX P md ops w x (x + 1) L (l.length + 1) listed a D
  | [], k, listed, a, _, hk, inv, hB, h => by
    have : k = x := by simpa using hk
    subst this
    exact hend listed a inv hB h
  | o :: l, k, listed, a, hl, hk, inv, hB, h => by
    have h0 : ops[k]? = some o := by simpa using (hl 0 (by simp)).symm
    simp only [List.length_cons] at hB
    rw [Region.lexHead] at hB
    simp only [Bool.and_eq_true] at hB
    obtain ⟨⟨hr, hf⟩, hB'⟩ := hB
    have hkx : k < x := by simp only [List.length_cons] at hk; omega
    have hr' : k ∈ Region.ready md ops listed := by simpa using hr
    have hy : ∃ v, YieldsFx P ops w o v a ∧ wpFx P ops w Lq l (a.put o.dst v) := by
      unfold wpFx at h
      by_cases hw : Region.wanted o (yielded ops a.tmps) = true
      · rw [if_pos hw] at h
        obtain ⟨v, h1, h2⟩ := h
        exact ⟨v, .inl ⟨hw, h1⟩, h2⟩
      · rw [if_neg hw] at h
        exact ⟨undef, .inr ⟨by simpa using hw, rfl⟩, h⟩
    obtain ⟨v, hv, hK⟩ := hy
    exact wpAnyX_first h0 (by omega) (Region.noSelect_spec hsel) hs hc hn (by omega) hdone (l.length + 1) listed a D inv (Region.free_spec h0 hf) hr' hv
      (wpAnyX_lex hsel hs hc hn hdone D hend l (k + 1) _ _ (fun j hj => by have := hl (j + 1) (by simp; omega); simpa [Nat.add_assoc, Nat.add_comm 1 j] using this) (by simp only [List.length_cons] at hk; omega) (inv.set hr' (by omega)) hB' hK)
/-- The law: x operations that yield what they yield in every world that has grown out of w.drew, then one whose value is told by S and R, then those that follow, one behind the other. -/
theorem wp_region_mix {id : Nat} {Q : Exit → Act → World → Prop} {a : Act} {w : World} {l : List Oper} (x : Nat) {ox : Oper} (hx : l[x]? = some ox) (S : Value → Prop) (R : Value → World → Prop) (hR : ∀ v W U, R v W → Grown W U → R v U)
    (hm : P.follows .mixedOrders = true) (hB : Region.lexTailB .any l.toArray (x + 1) = true)
    (h : wpFx P l.toArray w (fun a' => Region.wanted ox (yielded l.toArray a'.tmps) = true ∧ Makes P w ox S R a' ∧ ∀ v W, S v → R v W → Grown w W → wpList P l.toArray Q (l.drop (x + 1)) (a'.put ox.dst v) W) (l.take x) a) : (Code.region id l.toArray true).wp P Q a w := by
  simp only [Region.lexTailB, Bool.and_eq_true, decide_eq_true_eq] at hB
  obtain ⟨⟨⟨⟨hsel, hn⟩, hs⟩, hc⟩, hlex⟩ := hB
  have hn' : x + 1 < l.length := by simpa using hn
  have htl : (l.take x).length = x := by simp; omega
  have hdl : (l.drop (x + 1)).length = l.toArray.size - (x + 1) := by simp
  have inv0 : HeadInv .any l.toArray (x + 1) (Array.replicate l.toArray.size false) :=
    ⟨by simp, fun j oj _ hl => (by rw [getD_replicate_false] at hl; cases hl), fun t _ ht => getD_in (by simpa using ht) (getD_replicate_false _ _)⟩
  have hD0 : Keeps w (Grown w) := ⟨fun W h => h, fun W U h k => h.trans k⟩
  have hxo : l.toArray[x]? = some ox := by simpa using hx
  obtain ⟨L, hLdef⟩ : ∃ L : Array Bool → Act → (World → Prop) → Prop, L = fun listed' a' D' => Region.seqB .any l.toArray (l.toArray.size - (x + 1)) (x + 1) listed' = true ∧ ∀ W, D' W → wpList P l.toArray Q (l.drop (x + 1)) a' W := ⟨_, rfl⟩
  have H := wpAnyX_lex (md := .any) (x := x) (g := l.toArray.size - (x + 1)) (L := L) hsel hs hc hn (fun listed a' D' hL => by rw [hLdef] at hL; exact seqB_ready hL.1) (Grown w) (fun listed a' inv hB1 ⟨hw, hM, hK⟩ => by
      simp only [Region.lexHead, Bool.and_eq_true] at hB1
      obtain ⟨⟨hr, hf⟩, hseq⟩ := hB1
      have hr' : x ∈ Region.ready .any l.toArray listed := by simpa using hr
      have hun := (mem_ready.1 hr').1
      refine ⟨fun h => (by rw [h] at hr'; cases hr'), fun j hj => ?_⟩
      have hjx : j = x := by
        rcases Nat.lt_or_ge j (x + 1) with hj1 | hj1
        · by_cases hne : j = x
          · exact hne
          · have := seqB_ready hseq j (ready_mono hj hne)
            omega
        · exact absurd hj (tail_waits hs hc hn inv _ x rfl (by omega) hun j hj1)
      subst hjx
      refine ⟨by omega, ?_⟩
      unfold xOp
      simp only [hxo, hw, if_true]
      refine ⟨S, R, hR, hM, fun v hv => ?_⟩
      show L _ _ _
      rw [hLdef]
      exact ⟨hseq, fun W hW => hK v W hv hW.2 hW.1⟩) (l.take x) 0 _ a (fun j hj => by
    have hj' : j < x := by rw [htl] at hj; exact hj
    simp [hj']) (by simpa using htl) inv0 (by rw [htl]; exact hlex) h
  refine wp_region_any hm ?_
  have hg0 : Grown w { w with drawn := w.drawn + 1 } := (Below.refl _ _).drew
  have := wpAny_of_headX (P := P) (w := w) (x := x) (n := x + 1) (L := L) (Q' := Q) (g := l.toArray.size - (x + 1)) (fun listed a' D' W' hD' hW' hL => by
    rw [hLdef] at hL
    have := wpAny_of_seq (md := .any) (Q' := Q) (l.drop (x + 1)) (x + 1) listed a' W' (fun j => by simp [List.getElem?_drop]) (by rw [hdl]; exact hL.1) (hL.2 W' hW')
    rwa [hdl] at this) _ _ _ _ _ hD0 hg0 H
  rw [htl, show x + 1 + (l.toArray.size - (x + 1)) = l.toArray.size by omega] at this
  exact this
/-! ### the walk's single steps -/
/-- Operations that call nothing, make no goroutine, wait for nobody. -/
def plainOp : Op → Bool
  | .call _ | .go _ | .defer _ | .send .. | .recv .. | .select .. => false
  | _ => true
theorem val_no_enter (s : Sem Value) (W : World) (f : FuncId) (args : Array Value) (w' : World) : (s >>= fun x => (pure (Next.value x) : Sem Next)).run P W ≠ .ok (.enter f args) w' := by
  intro e
  rw [Sem.run_bind] at e
  generalize s.run P W = r at e
  cases r with
  | ok a w1 => simp [Result.andThen] at e
  | halt x w1 => simp [Result.andThen] at e
theorem unit_no_enter (s : Sem Unit) (W : World) (f : FuncId) (args : Array Value) (w' : World) : (s >>= fun _ => (pure Next.skip : Sem Next)).run P W ≠ .ok (.enter f args) w' := by
  intro e
  rw [Sem.run_bind] at e
  generalize s.run P W = r at e
  cases r with
  | ok a w1 => simp [Result.andThen] at e
  | halt x w1 => simp [Result.andThen] at e
theorem no_enter {o : Oper} {ρ : Operand → Value} (h : plainOp o.op = true) (W : World) (f : FuncId) (args : Array Value) (w' : World) : (execOp ρ o).run P W ≠ .ok (.enter f args) w' := by
  obtain ⟨dst, op, ty, pos, after, guard⟩ := o
  cases op
  case call c => simp [plainOp] at h
  case go c => simp [plainOp] at h
  case defer c => simp [plainOp] at h
  case send => simp [plainOp] at h
  case recv => simp [plainOp] at h
  case select => simp [plainOp] at h
  case move x => simp [execOp]
  case assign x => simp [execOp]
  case pick c a b =>
    simp only [execOp, Sem.run_bind]
    generalize (asBool (ρ c)).run P W = r
    cases r <;> simp [Result.andThen]
  case nilCheck x =>
    simp only [execOp]
    have hrt : (runtimePanic .nilDeref : Sem Next).run P W ≠ .ok (.enter f args) w' := by
      simp [runtimePanic, goPanic, Sem.run_bind, run_program, Sem.run]
    split
    · exact hrt
    · exact hrt
    · exact hrt
    · split
      · exact hrt
      · simp only [Sem.run_bind]
        generalize (program).run P W = r
        cases r with
        | halt x w1 => simp [Result.andThen]
        | ok p w1 =>
          simp only [Result.andThen]
          generalize Sem.run P (nilAhead _ _ _ _) w1 = r2
          cases r2 with
          | halt x w2 => simp
          | ok b w2 =>
            simp only
            split
            · simp [unsupported, Sem.run]
            · simp
      · simp
    · simp
  all_goals first
    | exact val_no_enter _ _ _ _ _
    | exact unit_no_enter _ _ _ _ _
theorem wpFx_plain {Q : Act → Prop} {a : Act} {o : Oper} {rest : List Oper} (hw : Region.wanted o (yielded ops a.tmps) = true) (hp : plainOp o.op = true)
    (h : ∀ K : Act → Prop, (∀ a, wpFx P ops w Q rest a → K a) → o.quiet P a (fun w' => ∃ x : Ext w, w' = x.world) K) : wpFx P ops w Q (o :: rest) a := by
  unfold wpFx
  rw [if_pos hw]
  obtain ⟨v, h1, h2⟩ := h _ fun _ h => h
  refine ⟨v, fun W hW => ?_, h2⟩
  have h3 := h1 W ⟨⟨W, hW⟩, rfl⟩
  unfold Oper.quietAt at h3
  unfold Oper.goes
  have hne := no_enter (P := P) (ρ := a.eval) hp W
  generalize (execOp a.eval o).run P W = r at *
  cases r with
  | ok n w' =>
    cases n <;> simp only [Oper.quietUpon] at h3 <;> simp only [Oper.goesUpon]
    case value u => obtain ⟨rfl, rfl⟩ := h3; exact ⟨rfl, Grown.refl _⟩
    case skip => obtain ⟨rfl, rfl⟩ := h3; exact ⟨rfl, Grown.refl _⟩
    case enter f args => exact absurd rfl (hne f args w')
  | halt x w' => simp only [Oper.quietUpon] at h3
theorem wpFx_load {Q : Act → Prop} {a : Act} {o : Oper} {rest : List Oper} (hw : Region.wanted o (yielded ops a.tmps) = true) (ty : TypeId) (x : Operand) (ho : o.op = .load ty x)
    (b i : Nat) (hx : a.eval x = .pointer (some ⟨b, i, none⟩)) (cs : List Value) (d : TypeDesc) (hb : b < w.heap.size) (hc : w.rangeAt b i cs)
    (hu : P.underlying ty = some d) (hd : d.isRow = true) (hi : (P.info? ty).map (·.size) = some cs.length)
    (h : wpFx P ops w Q rest (a.put o.dst (.agg cs.toArray))) : wpFx P ops w Q (o :: rest) a := by
  unfold wpFx
  rw [if_pos hw]
  refine ⟨_, fun W hW => ?_, h⟩
  have hc' : W.rangeAt b i cs := fun j v hv => (Below.cell (p := ⟨b, i + j, none⟩) hW hb).trans (hc j v hv)
  unfold Oper.goes execOp
  simp only [ho, hx, Instr.loadAt, Instr.sureAddr, Sem.run_bind, Sem.run_pure, Result.andThen_ok, run_loadVar_mid W b i ty cs d hc' hu hd hi]
  exact ⟨rfl, Grown.refl _⟩
attribute [go_sem] Oper.goes Oper.goesUpon
end
end Go.Proofs.YtlonefjbcooaaaaDoor

namespace Go.Proofs.YtlonefjbcooaaaaDoor
open Go.RowKit
inductive Kd where
  | pure
  | held
  | make
  | tail
  deriving DecidableEq
structure Told where
  S : Value → Prop
  R : Value → World → Prop
section
variable {P : Program} {ops : Array Oper} {md : Region.Mode} {w : World} {kd : Nat → Kd} {sp : Nat → Told}
def Ne (D : World → Prop) : Prop := ∃ W, D W
def RunsTo (P : Program) (o : Oper) (a : Act) (W : World) (v : Value) : Prop := (execOp a.eval o).run P W = .ok (.value v) W
def mStep (P : Program) (ops : Array Oper) (w : World) (kd : Nat → Kd) (sp : Nat → Told) (o : Oper) (i : Nat) (K : Act → (World → Prop) → Prop) (a : Act) (D : World → Prop) : Prop :=
  if Region.wanted o (yielded ops a.tmps) = true then
    match kd i with
    | .pure => ∃ v, (∀ W, RunsTo P o a W v) ∧ K (a.put o.dst v) D
    | .held => Keeps w D ∧ ∃ v, (∀ W, Grown w W → RunsTo P o a W v) ∧ K (a.put o.dst v) D
    | .make => Keeps w D ∧ (∀ v W U, (sp i).R v W → Grown W U → (sp i).R v U) ∧ Makes P w o (sp i).S (sp i).R a ∧ ∀ v, (sp i).S v → Ne (fun W => D W ∧ (sp i).R v W) → K (a.put o.dst v) (fun W => D W ∧ (sp i).R v W)
    | .tail => ∃ (S : Value → Prop) (R : Value → World → Prop), (∀ W, D W → Oper.goes P o a W (fun u W' => S u ∧ R u W')) ∧ ∀ v, S v → Ne (R v) → K (a.put o.dst v) (R v)
  else K (a.put o.dst undef) D
def mOp (P : Program) (ops : Array Oper) (w : World) (kd : Nat → Kd) (sp : Nat → Told) (i : Nat) (K : Act → (World → Prop) → Prop) (a : Act) (D : World → Prop) : Prop :=
  match ops[i]? with
  | none => K a D
  | some o => mStep P ops w kd sp o i K a D
theorem mStep_mono {o : Oper} {i : Nat} {a : Act} {D : World → Prop} {K K' : Act → (World → Prop) → Prop} (hne : Ne D) (h : ∀ a D, Ne D → K a D → K' a D) (hh : mStep P ops w kd sp o i K a D) : mStep P ops w kd sp o i K' a D := by
  unfold mStep at *
  split
  · rename_i hw
    rw [if_pos hw] at hh
    cases hk : kd i <;> rw [hk] at hh <;> simp only at hh ⊢
    · obtain ⟨v, h1, h2⟩ := hh; exact ⟨v, h1, h _ _ hne h2⟩
    · obtain ⟨h0, v, h1, h2⟩ := hh; exact ⟨h0, v, h1, h _ _ hne h2⟩
    · obtain ⟨h0, h1, h2, h3⟩ := hh; exact ⟨h0, h1, h2, fun v hv hn => h _ _ hn (h3 v hv hn)⟩
    · obtain ⟨S, R, h1, h2⟩ := hh; exact ⟨S, R, h1, fun v hv hn => h _ _ hn (h2 v hv hn)⟩
  · rename_i hw; rw [if_neg hw] at hh; exact h _ _ hne hh
theorem mOp_mono {i : Nat} {a : Act} {D : World → Prop} {K K' : Act → (World → Prop) → Prop} (hne : Ne D) (h : ∀ a D, Ne D → K a D → K' a D) (hh : mOp P ops w kd sp i K a D) : mOp P ops w kd sp i K' a D := by
  unfold mOp at *
  split
  · rename_i ho; simp only [ho] at hh; exact h _ _ hne hh
  · rename_i o ho; simp only [ho] at hh; exact mStep_mono hne h hh
theorem goes_some {o : Oper} {a : Act} {W : World} {T : Value → World → Prop} (h : Oper.goes P o a W T) : ∃ v W', T v W' := by
  unfold Oper.goes at h
  generalize (execOp a.eval o).run P W = r at *
  cases r with
  | ok n w' =>
    cases n <;> simp only [Oper.goesUpon] at h
    case value u => exact ⟨_, _, h⟩
    case skip => exact ⟨_, _, h⟩
    case enter f args =>
      obtain ⟨e, w'', fr, ⟨v, -, ht⟩, -⟩ := h []
      exact ⟨v, w'', ht⟩
  | halt x w' => simp only [Oper.goesUpon] at h
theorem mStep_some {o : Oper} {i : Nat} {a : Act} {D : World → Prop} {K : Act → (World → Prop) → Prop} (hne : Ne D) (hh : mStep P ops w kd sp o i K a D) : ∃ a' D', Ne D' ∧ K a' D' := by
  unfold mStep at hh
  split at hh
  · cases hk : kd i <;> rw [hk] at hh <;> simp only at hh
    · obtain ⟨v, -, h2⟩ := hh; exact ⟨_, _, hne, h2⟩
    · obtain ⟨-, v, -, h2⟩ := hh; exact ⟨_, _, hne, h2⟩
    · obtain ⟨h0, h1, h2, h3⟩ := hh
      obtain ⟨W, hW⟩ := hne
      obtain ⟨v, W', ⟨hs, hr⟩, hg⟩ := goes_some (h2 W (h0.out W hW))
      have hn : Ne (fun W => D W ∧ (sp i).R v W) := ⟨W', h0.grow W W' hW hg, hr⟩
      exact ⟨_, _, hn, h3 v hs hn⟩
    · obtain ⟨S, R, h1, h2⟩ := hh
      obtain ⟨W, hW⟩ := hne
      obtain ⟨v, W', hs, hr⟩ := goes_some (h1 W hW)
      exact ⟨_, _, ⟨W', hr⟩, h2 v hs ⟨W', hr⟩⟩
  · exact ⟨_, _, hne, hh⟩
theorem runsTo_uniq {o : Oper} {a : Act} {W : World} {v u : Value} (h : RunsTo P o a W v) (k : RunsTo P o a W u) : v = u := by
  unfold RunsTo at h k
  rw [h] at k
  injection k with k1 _
  injection k1
/-- Which kinds may come in either order. -/
def swapOk (a b : Kd) : Bool := match a, b with
  | .pure, _ => true
  | _, .pure => true
  | .tail, _ => false
  | _, .tail => false
  | _, _ => true
theorem mStep_swap {i j : Nat} {oi oj : Oper} (hap : oi.apart ops oj = true) (hsi : ∀ cs b, oi.op ≠ .select cs b) (hsj : ∀ cs b, oj.op ≠ .select cs b) (hk : swapOk (kd i) (kd j) = true) {K : Act → (World → Prop) → Prop} {a : Act} {D : World → Prop} (hne : Ne D)
    (h : mStep P ops w kd sp oi i (fun a1 D1 => mStep P ops w kd sp oj j K a1 D1) a D) : mStep P ops w kd sp oj j (fun a2 D2 => mStep P ops w kd sp oi i K a2 D2) a D := by
  obtain ⟨h1, h2, h3⟩ := Oper.apart_spec hap
  have ei : ∀ (a : Act) u, execOp (a.put oj.dst u).eval oi = execOp a.eval oi := fun a u => execOp_put oi hsi a oj.dst u h3
  have ej : ∀ (a : Act) u, execOp (a.put oi.dst u).eval oj = execOp a.eval oj := fun a u => execOp_put oj hsj a oi.dst u h1
  have wi : ∀ (a : Act) u, Region.wanted oi (yielded ops (a.put oj.dst u).tmps) = Region.wanted oi (yielded ops a.tmps) := fun a u => wanted_put oi a oj.dst u h3
  have wj : ∀ (a : Act) u, Region.wanted oj (yielded ops (a.put oi.dst u).tmps) = Region.wanted oj (yielded ops a.tmps) := fun a u => wanted_put oj a oi.dst u h1
  have pc : ∀ (a : Act) u v, (a.put oi.dst u).put oj.dst v = (a.put oj.dst v).put oi.dst u := fun a u v => Act.put_comm a u v h2
  have ri : ∀ (a : Act) u W v, RunsTo P oi (a.put oj.dst u) W v ↔ RunsTo P oi a W v := fun a u W v => by unfold RunsTo; rw [ei]
  have rj : ∀ (a : Act) u W v, RunsTo P oj (a.put oi.dst u) W v ↔ RunsTo P oj a W v := fun a u W v => by unfold RunsTo; rw [ej]
  have gi : ∀ (a : Act) u W T, Oper.goes P oi (a.put oj.dst u) W T ↔ Oper.goes P oi a W T := fun a u W T => by unfold Oper.goes; rw [ei]
  have gj : ∀ (a : Act) u W T, Oper.goes P oj (a.put oi.dst u) W T ↔ Oper.goes P oj a W T := fun a u W T => by unfold Oper.goes; rw [ej]
  have mi : ∀ (a : Act) u S R, Makes P w oi S R (a.put oj.dst u) ↔ Makes P w oi S R a := fun a u S R => by unfold Makes; simp only [gi]
  have mj : ∀ (a : Act) u S R, Makes P w oj S R (a.put oi.dst u) ↔ Makes P w oj S R a := fun a u S R => by unfold Makes; simp only [gj]
  have dc : ∀ (A B : World → Prop), (fun W => (D W ∧ A W) ∧ B W) = (fun W => (D W ∧ B W) ∧ A W) := fun A B => by funext W; exact propext ⟨fun ⟨⟨a, b⟩, c⟩ => ⟨⟨a, c⟩, b⟩, fun ⟨⟨a, b⟩, c⟩ => ⟨⟨a, c⟩, b⟩⟩
  unfold mStep at h ⊢
  simp only [wi, wj, ri, rj, gi, gj, mi, mj] at h ⊢
  by_cases hwi : Region.wanted oi (yielded ops a.tmps) = true
  · by_cases hwj : Region.wanted oj (yielded ops a.tmps) = true
    · simp only [hwi, hwj, if_true] at h ⊢
      cases hki : kd i <;> cases hkj : kd j <;> rw [hki, hkj] at hk <;> simp only [hki, hkj] at h ⊢
      case tail.tail => simp [swapOk] at hk
      case tail.held => simp [swapOk] at hk
      case tail.make => simp [swapOk] at hk
      case held.tail => simp [swapOk] at hk
      case make.tail => simp [swapOk] at hk
      case pure.pure =>
        obtain ⟨v, hv, u, hu, hK⟩ := h
        exact ⟨u, hu, v, hv, by rw [← pc]; exact hK⟩
      case pure.held =>
        obtain ⟨v, hv, hD, u, hu, hK⟩ := h
        exact ⟨hD, u, hu, v, hv, by rw [← pc]; exact hK⟩
      case pure.make =>
        obtain ⟨v, hv, hD, hst, hM, hK⟩ := h
        exact ⟨hD, hst, hM, fun u hu hn => ⟨v, hv, by rw [← pc]; exact hK u hu hn⟩⟩
      case pure.tail =>
        obtain ⟨v, hv, S, R, hg, hK⟩ := h
        exact ⟨S, R, hg, fun u hu hn => ⟨v, hv, by rw [← pc]; exact hK u hu hn⟩⟩
      case held.pure =>
        obtain ⟨hD, v, hv, u, hu, hK⟩ := h
        exact ⟨u, hu, hD, v, hv, by rw [← pc]; exact hK⟩
      case held.held =>
        obtain ⟨hD, v, hv, -, u, hu, hK⟩ := h
        exact ⟨hD, u, hu, hD, v, hv, by rw [← pc]; exact hK⟩
      case held.make =>
        obtain ⟨hD, v, hv, -, hst, hM, hK⟩ := h
        exact ⟨hD, hst, hM, fun u hu hn => ⟨⟨fun W hW => hD.out W hW.1, fun W U hW hg => ⟨hD.grow W U hW.1 hg, hst u W U hW.2 hg⟩⟩, v, hv, by rw [← pc]; exact hK u hu hn⟩⟩
      case make.pure =>
        obtain ⟨hD, hst, hM, hK⟩ := h
        obtain ⟨W, hW⟩ := hne
        obtain ⟨v0, W', ⟨hs0, hr0⟩, hg0⟩ := goes_some (hM W (hD.out W hW))
        obtain ⟨u, hu, -⟩ := hK v0 hs0 ⟨W', hD.grow W W' hW hg0, hr0⟩
        refine ⟨u, hu, hD, hst, hM, fun v hv hn => ?_⟩
        obtain ⟨u', hu', hK'⟩ := hK v hv hn
        have : u' = u := runsTo_uniq (hu' W) (hu W)
        subst this
        rw [← pc]; exact hK'
      case make.held =>
        obtain ⟨hD, hst, hM, hK⟩ := h
        obtain ⟨W, hW⟩ := hne
        obtain ⟨v0, W', ⟨hs0, hr0⟩, hg0⟩ := goes_some (hM W (hD.out W hW))
        obtain ⟨-, u, hu, -⟩ := hK v0 hs0 ⟨W', hD.grow W W' hW hg0, hr0⟩
        refine ⟨hD, u, hu, hD, hst, hM, fun v hv hn => ?_⟩
        obtain ⟨-, u', hu', hK'⟩ := hK v hv hn
        have : u' = u := runsTo_uniq (hu' W (hD.out W hW)) (hu W (hD.out W hW))
        subst this
        rw [← pc]; exact hK'
      case make.make =>
        obtain ⟨hD, hst, hM, hK⟩ := h
        obtain ⟨W, hW⟩ := hne
        obtain ⟨v0, W', ⟨hs0, hr0⟩, hg0⟩ := goes_some (hM W (hD.out W hW))
        obtain ⟨-, hst2, hM2, -⟩ := hK v0 hs0 ⟨W', hD.grow W W' hW hg0, hr0⟩
        refine ⟨hD, hst2, hM2, fun u hu hn => ⟨⟨fun W hW => hD.out W hW.1, fun W U hW hg => ⟨hD.grow W U hW.1 hg, hst2 u W U hW.2 hg⟩⟩, hst, hM, fun v hv hn2 => ?_⟩⟩
        obtain ⟨Wx, ⟨hx1, hx2⟩, hx3⟩ := hn2
        have := (hK v hv ⟨Wx, hx1, hx3⟩).2.2.2 u hu ⟨Wx, ⟨hx1, hx3⟩, hx2⟩
        rw [← pc, ← dc]
        exact this
      case tail.pure =>
        obtain ⟨S, R, hg, hK⟩ := h
        obtain ⟨W, hW⟩ := hne
        obtain ⟨v0, W', hs0, hr0⟩ := goes_some (hg W hW)
        obtain ⟨u, hu, -⟩ := hK v0 hs0 ⟨W', hr0⟩
        refine ⟨u, hu, S, R, hg, fun v hv hn => ?_⟩
        obtain ⟨u', hu', hK'⟩ := hK v hv hn
        have : u' = u := runsTo_uniq (hu' W) (hu W)
        subst this
        rw [← pc]; exact hK'
    · simp only [hwi, hwj, if_true, Bool.false_eq_true, if_false] at h ⊢
      cases hki : kd i <;> simp only [hki] at h ⊢
      · obtain ⟨v, hv, hK⟩ := h; exact ⟨v, hv, by rw [← pc]; exact hK⟩
      · obtain ⟨hD, v, hv, hK⟩ := h; exact ⟨hD, v, hv, by rw [← pc]; exact hK⟩
      · obtain ⟨hD, hst, hM, hK⟩ := h; exact ⟨hD, hst, hM, fun v hv hn => by rw [← pc]; exact hK v hv hn⟩
      · obtain ⟨S, R, hg, hK⟩ := h; exact ⟨S, R, hg, fun v hv hn => by rw [← pc]; exact hK v hv hn⟩
  · by_cases hwj : Region.wanted oj (yielded ops a.tmps) = true
    · simp only [hwi, hwj, if_true, Bool.false_eq_true, if_false] at h ⊢
      cases hkj : kd j <;> simp only [hkj] at h ⊢
      · obtain ⟨v, hv, hK⟩ := h; exact ⟨v, hv, by rw [← pc]; exact hK⟩
      · obtain ⟨hD, v, hv, hK⟩ := h; exact ⟨hD, v, hv, by rw [← pc]; exact hK⟩
      · obtain ⟨hD, hst, hM, hK⟩ := h; exact ⟨hD, hst, hM, fun v hv hn => by rw [← pc]; exact hK v hv hn⟩
      · obtain ⟨S, R, hg, hK⟩ := h; exact ⟨S, R, hg, fun v hv hn => by rw [← pc]; exact hK v hv hn⟩
    · simp only [hwi, hwj, Bool.false_eq_true, if_false] at h ⊢
      rw [← pc]; exact h
def wpAnyK (P : Program) (md : Region.Mode) (ops : Array Oper) (w : World) (kd : Nat → Kd) (sp : Nat → Told) (E : Act → (World → Prop) → Prop) : Nat → Array Bool → Act → (World → Prop) → Prop
  | 0, listed, a, D => Region.ready md ops listed = [] ∧ E a D
  | f + 1, listed, a, D => (Region.ready md ops listed = [] → E a D) ∧ ∀ i ∈ Region.ready md ops listed, mOp P ops w kd sp i (wpAnyK P md ops w kd sp E f (listed.setIfInBounds i true)) a D
theorem wpOp_of_mOp {i : Nat} {a : Act} {D : World → Prop} {K : Act → (World → Prop) → Prop} {K' : Act → World → Prop} {Q' : Exit → Act → World → Prop} {W : World} (hW : D W)
    (h : ∀ a D W', D W' → K a D → K' a W') (hh : mOp P ops w kd sp i K a D) : wpOp P ops Q' i K' a W := by
  unfold mOp at hh
  unfold wpOp
  split
  · rename_i ho; simp only [ho] at hh; exact h _ _ _ hW hh
  · rename_i o ho
    simp only [ho] at hh
    unfold mStep at hh
    split
    · rename_i hw
      rw [if_pos hw] at hh
      left
      cases hk : kd i <;> rw [hk] at hh <;> simp only at hh
      · obtain ⟨v, h1, h2⟩ := hh
        have h1 := h1 W
        unfold RunsTo at h1
        unfold Oper.wp
        rw [h1]
        exact h _ _ _ hW h2
      · obtain ⟨hD, v, h1, h2⟩ := hh
        have h1 := h1 W (hD.out W hW)
        unfold RunsTo at h1
        unfold Oper.wp
        rw [h1]
        exact h _ _ _ hW h2
      · obtain ⟨hD, hst, hM, hK⟩ := hh
        exact Oper.wp_of_goes (hM W (hD.out W hW)) fun v W' ⟨⟨hs, hr⟩, hg⟩ => h _ _ W' ⟨hD.grow W W' hW hg, hr⟩ (hK v hs ⟨W', hD.grow W W' hW hg, hr⟩)
      · obtain ⟨S, R, hg, hK⟩ := hh
        exact Oper.wp_of_goes (hg W hW) fun v W' ⟨hs, hr⟩ => h _ _ W' hr (hK v hs ⟨W', hr⟩)
    · rename_i hw; rw [if_neg hw] at hh; exact h _ _ _ hW hh
theorem wpAny_of_K {Q : Exit → Act → World → Prop} : ∀ (f : Nat) (listed : Array Bool) (a : Act) (D : World → Prop) (W : World), D W → wpAnyK P md ops w kd sp (fun a D => ∀ W, D W → Q .normal a W) f listed a D → wpAny P md ops Q f listed a W
  | 0, _, _, _, _, hW, h => ⟨h.1, h.2 _ hW⟩
  | f + 1, _, _, _, _, hW, h => ⟨fun h0 => h.1 h0 _ hW, fun i hi => wpOp_of_mOp hW (fun a' D' W' hW' h' => wpAny_of_K f _ a' D' W' hW' h') (h.2 i hi)⟩
theorem wpAnyK_first {E : Act → (World → Prop) → Prop} {i : Nat} {oi : Oper} (hi : ops[i]? = some oi) (hsel : ∀ (j : Nat) (o : Oper) cs b, ops[j]? = some o → o.op ≠ .select cs b)
    (hsw : ∀ j, j < ops.size → j ≠ i → swapOk (kd i) (kd j) = false → Region.waitsFor md ops j i = true ∨ Region.waitsFor md ops i j = true) :
    ∀ (f : Nat) (listed : Array Bool) (a : Act) (D : World → Prop), Ne D →
      (∀ j oj, ops[j]? = some oj → j ≠ i → listed.getD j true = false → (∀ e ∈ oj.after, Region.binds md e = true → e.on ≠ i) → oi.apart ops oj = true) →
      i ∈ Region.ready md ops listed → mOp P ops w kd sp i (wpAnyK P md ops w kd sp E f (listed.setIfInBounds i true)) a D → wpAnyK P md ops w kd sp E (f + 1) listed a D := by
  intro f
  induction f with
  | zero =>
    intro listed a D hne _ hr H
    refine ⟨fun h => (by rw [h] at hr; cases hr), fun j hj => ?_⟩
    by_cases hji : j = i
    · subst hji; exact H
    · unfold mOp at H
      rw [hi] at H
      obtain ⟨a', D', -, h0, -⟩ := mStep_some hne H
      have := ready_mono hj hji
      rw [h0] at this; cases this
  | succ f ih =>
    intro listed a D hne hfree hr H
    refine ⟨fun h => (by rw [h] at hr; cases hr), fun j hj => ?_⟩
    by_cases hji : j = i
    · subst hji; exact H
    · obtain ⟨hjun, oj, hoj, hall⟩ := mem_ready.1 hj
      have hun := (mem_ready.1 hr).1
      have hnot : ∀ e ∈ oj.after, Region.binds md e = true → e.on ≠ i := fun e he hb heq => by
        have h1 := hall e he hb
        rw [heq, getD_both hun] at h1
        cases h1
      have hap := hfree j oj hoj hji hjun hnot
      have hswap : swapOk (kd i) (kd j) = true := by
        cases hs : swapOk (kd i) (kd j) with
        | true => rfl
        | false =>
          rcases hsw j (Array.getElem?_eq_some_iff.1 hoj).1 hji hs with h1 | h1
          · obtain ⟨o', ho', e, he, hb, hon⟩ := Region.waitsFor_spec h1
            have : o' = oj := Option.some.inj (ho'.symm.trans hoj)
            subst this
            exact absurd hon (hnot e he hb)
          · obtain ⟨o', ho', e, he, hb, hon⟩ := Region.waitsFor_spec h1
            obtain ⟨-, oi', hoi', halli⟩ := mem_ready.1 hr
            have : o' = oi' := Option.some.inj (ho'.symm.trans hoi')
            subst this
            have h2 := halli e he hb
            rw [hon, getD_both hjun] at h2
            cases h2
      have hfree' : ∀ k ok, ops[k]? = some ok → k ≠ i → (listed.setIfInBounds j true).getD k true = false →
          (∀ e ∈ ok.after, Region.binds md e = true → e.on ≠ i) → oi.apart ops ok = true := fun k ok hk hki hun' hno => by
        refine hfree k ok hk hki ?_ hno
        by_cases hjk : j = k
        · subst hjk; exact hjun
        · rw [getD_set_ne true hjk] at hun'; exact hun'
      have hri := ready_mono hr (Ne.symm hji)
      unfold mOp at H
      rw [hi] at H
      have H2 : mStep P ops w kd sp oi i (fun a1 D1 => mStep P ops w kd sp oj j (wpAnyK P md ops w kd sp E f ((listed.setIfInBounds i true).setIfInBounds j true)) a1 D1) a D :=
        mStep_mono hne (fun a1 D1 _ hK => by
          have := hK.2 j (ready_mono hj hji)
          unfold mOp at this
          rw [hoj] at this
          exact this) H
      have H3 := mStep_swap hap (fun cs b => hsel i oi cs b hi) (fun cs b => hsel j oj cs b hoj) hswap hne H2
      unfold mOp
      rw [hoj]
      refine mStep_mono hne (fun a2 D2 hne2 h3 => ih (listed.setIfInBounds j true) a2 D2 hne2 hfree' hri ?_) H3
      unfold mOp
      rw [hi, Array.setIfInBounds_comm _ _ hji]
      exact h3
/-- The walk of the text's order. -/
def wpMix (P : Program) (ops : Array Oper) (w : World) (kd : Nat → Kd) (sp : Nat → Told) (E : Act → (World → Prop) → Prop) : List Oper → Nat → Act → (World → Prop) → Prop
  | [], _, a, D => E a D
  | o :: rest, k, a, D => mStep P ops w kd sp o k (wpMix P ops w kd sp E rest (k + 1)) a D
def mixB (md : Region.Mode) (ops : Array Oper) (kd : Nat → Kd) : Bool :=
  Region.lexB md ops && (List.range ops.size).all fun i => (List.range ops.size).all fun j => decide (j = i) || (swapOk (kd i) (kd j) || (Region.waitsFor md ops j i || Region.waitsFor md ops i j))
theorem wpAnyK_lex {E : Act → (World → Prop) → Prop} (hs : Region.noSelect ops = true) (hsw : ∀ i j, i < ops.size → j < ops.size → j ≠ i → swapOk (kd i) (kd j) = false → Region.waitsFor md ops j i = true ∨ Region.waitsFor md ops i j = true) :
    ∀ (l : List Oper) (k : Nat) (listed : Array Bool) (a : Act) (D : World → Prop), Ne D → (∀ j, l[j]? = ops[k + j]?) →
    Region.lexFrom md ops l.length k listed = true → wpMix P ops w kd sp E l k a D → wpAnyK P md ops w kd sp E l.length listed a D
  | [], _, _, _, _, _, _, hB, h => ⟨by simpa [Region.lexFrom] using hB, h⟩
  | o :: l, k, listed, a, D, hne, hl, hB, h => by
    have h0 : ops[k]? = some o := by simpa using (hl 0).symm
    simp only [List.length_cons, Region.lexFrom, Bool.and_eq_true] at hB
    obtain ⟨⟨hr, hf⟩, hB'⟩ := hB
    have hk : k < ops.size := (Array.getElem?_eq_some_iff.1 h0).1
    refine wpAnyK_first h0 (Region.noSelect_spec hs) (fun j hjl hj hsw' => hsw k j hk hjl hj hsw') l.length listed a D hne (Region.free_spec h0 hf) (by simpa using hr) ?_
    unfold mOp
    rw [h0]
    exact mStep_mono hne (fun a' D' hne' h' => wpAnyK_lex hs hsw l (k + 1) _ a' D' hne' (fun j => by have := hl (j + 1); simpa [Nat.add_assoc, Nat.add_comm 1 j] using this) hB' h') h
/-- **The law.** -/
theorem wp_region_mixed {id : Nat} {Q : Exit → Act → World → Prop} {a : Act} {w : World} {l : List Oper} (kds : List Kd) (sp : Nat → Told) (hm : P.follows .mixedOrders = true) (hB : mixB .any l.toArray (fun i => kds.getD i .pure) = true)
    (h : wpMix P l.toArray w (fun i => kds.getD i .pure) sp (fun a D => ∀ W, D W → Q .normal a W) l 0 a (Grown w)) : (Code.region id l.toArray true).wp P Q a w := by
  simp only [mixB, Bool.and_eq_true] at hB
  obtain ⟨hlex, hall⟩ := hB
  simp only [Region.lexB, Bool.and_eq_true] at hlex
  have hg0 : Grown w { w with drawn := w.drawn + 1 } := (Below.refl _ _).drew
  refine wp_region_any hm (wpAny_of_K (w := w) (kd := fun i => kds.getD i .pure) (sp := sp) _ _ _ (Grown w) _ hg0 ?_)
  have := wpAnyK_lex (P := P) (md := .any) (w := w) (kd := fun i => kds.getD i .pure) (sp := sp) (E := fun a D => ∀ W, D W → Q .normal a W) hlex.1 (fun i j hi hjl hj hs => by
    have h1 := List.all_eq_true.1 (List.all_eq_true.1 hall i (List.mem_range.2 hi)) j (List.mem_range.2 hjl)
    simp only [Bool.or_eq_true, decide_eq_true_eq] at h1
    rcases h1 with h1 | h1 | h1 | h1
    · exact absurd h1 hj
    · rw [hs] at h1; cases h1
    · exact .inl h1
    · exact .inr h1) l 0 (Array.replicate l.toArray.size false) a (Grown w) ⟨w, Grown.refl w⟩ (by simp) (by simpa using hlex.2) h
  simpa using this
/-! ### the walk's steps -/
theorem Keeps.base (w : World) : Keeps w (Grown w) := ⟨fun _ h => h, fun _ _ h k => h.trans k⟩
theorem Keeps.and {D : World → Prop} (h : Keeps w D) {R : World → Prop} (hR : ∀ W U, R W → Grown W U → R U) : Keeps w (fun W => D W ∧ R W) :=
  ⟨fun W hW => h.out W hW.1, fun W U hW hg => ⟨h.grow W U hW.1 hg, hR W U hW.2 hg⟩⟩
/-- Operations that yield a value, and call nothing. -/
def valOp : Op → Bool
  | .call _ | .go _ | .defer _ | .send .. | .recv .. | .select .. | .store .. | .ready _ | .mapUpdate .. | .insert .. | .entryStore .. => false
  | _ => true
theorem val_no_skip (s : Sem Value) (W : World) (w' : World) : (s >>= fun x => (Pure.pure (Next.value x) : Sem Next)).run P W ≠ .ok .skip w' := by
  intro e
  rw [Sem.run_bind] at e
  generalize s.run P W = r at e
  cases r with
  | ok a w1 => simp [Result.andThen] at e
  | halt x w1 => simp [Result.andThen] at e
theorem no_skip {o : Oper} {ρ : Operand → Value} (h : valOp o.op = true) (W : World) (w' : World) : (execOp ρ o).run P W ≠ .ok .skip w' := by
  obtain ⟨dst, op, ty, pos, after, guard⟩ := o
  cases op
  case call c => simp [valOp] at h
  case go c => simp [valOp] at h
  case defer c => simp [valOp] at h
  case send => simp [valOp] at h
  case recv => simp [valOp] at h
  case select => simp [valOp] at h
  case store => simp [valOp] at h
  case ready => simp [valOp] at h
  case mapUpdate => simp [valOp] at h
  case insert => simp [valOp] at h
  case entryStore => simp [valOp] at h
  case move x => simp [execOp]
  case assign x => simp [execOp]
  case pick c a b =>
    simp only [execOp, Sem.run_bind]
    generalize (asBool (ρ c)).run P W = r
    cases r <;> simp [Result.andThen]
  case nilCheck x =>
    simp only [execOp]
    have hrt : (runtimePanic .nilDeref : Sem Next).run P W ≠ .ok .skip w' := by
      simp [runtimePanic, goPanic, Sem.run_bind, run_program, Sem.run]
    split
    · exact hrt
    · exact hrt
    · exact hrt
    · split
      · exact hrt
      · simp only [Sem.run_bind]
        generalize (program).run P W = r
        cases r with
        | halt x w1 => simp [Result.andThen]
        | ok p w1 =>
          simp only [Result.andThen]
          generalize Sem.run P (nilAhead _ _ _ _) w1 = r2
          cases r2 with
          | halt x w2 => simp
          | ok b w2 =>
            simp only
            split
            · simp [unsupported, Sem.run]
            · simp
      · simp
    · simp
  all_goals exact val_no_skip _ _ _
theorem valOp_plain {o : Op} (h : valOp o = true) : plainOp o = true := by cases o <;> simp_all [valOp, plainOp]
theorem runs_of_quiet {C : World → Prop} {o : Oper} {a : Act} {W : World} {v : Value} (hv : valOp o.op = true) (h : o.quietAt P a C W v) : RunsTo P o a W v := by
  unfold Oper.quietAt at h
  unfold RunsTo
  have hne := no_enter (P := P) (ρ := a.eval) (valOp_plain hv) W
  have hns := no_skip (P := P) (ρ := a.eval) hv W
  generalize (execOp a.eval o).run P W = r at *
  cases r with
  | ok n w' =>
    cases n <;> simp only [Oper.quietUpon] at h
    case value u => obtain ⟨rfl, rfl⟩ := h; rfl
    case skip => exact absurd rfl (hns w')
    case enter f args => exact absurd rfl (hne f args w')
  | halt x w' => simp only [Oper.quietUpon] at h
section
variable {E : Act → (World → Prop) → Prop} {a : Act} {o : Oper} {rest : List Oper} {k : Nat} {D : World → Prop}
theorem mix_skip (hw : Region.wanted o (yielded ops a.tmps) = false) (h : wpMix P ops w kd sp E rest (k + 1) (a.put o.dst undef) D) : wpMix P ops w kd sp E (o :: rest) k a D := by
  unfold wpMix mStep
  rw [if_neg (by rw [hw]; decide)]
  exact h
theorem mix_pure (hw : Region.wanted o (yielded ops a.tmps) = true) (hk : kd k = .pure) (hp : valOp o.op = true)
    (h : ∀ K : Act → Prop, (∀ a, wpMix P ops w kd sp E rest (k + 1) a D → K a) → o.quiet P a (fun _ => True) K) : wpMix P ops w kd sp E (o :: rest) k a D := by
  unfold wpMix mStep
  rw [if_pos hw, hk]
  obtain ⟨v, h1, h2⟩ := h _ fun _ h => h
  exact ⟨v, fun W => runs_of_quiet hp (h1 W trivial), h2⟩
theorem mix_held (hw : Region.wanted o (yielded ops a.tmps) = true) (hk : kd k = .held) (hp : valOp o.op = true) (hD : Keeps w D)
    (h : ∀ K : Act → Prop, (∀ a, wpMix P ops w kd sp E rest (k + 1) a D → K a) → o.quiet P a (fun w' => ∃ x : Ext w, w' = x.world) K) : wpMix P ops w kd sp E (o :: rest) k a D := by
  unfold wpMix mStep
  rw [if_pos hw, hk]
  obtain ⟨v, h1, h2⟩ := h _ fun _ h => h
  exact ⟨hD, v, fun W hW => runs_of_quiet hp (h1 W ⟨⟨W, hW⟩, rfl⟩), h2⟩
theorem mix_load (hw : Region.wanted o (yielded ops a.tmps) = true) (hk : kd k = .held) (hD : Keeps w D) (ty : TypeId) (x : Operand) (ho : o.op = .load ty x)
    (b i : Nat) (hx : a.eval x = .pointer (some ⟨b, i, none⟩)) (cs : List Value) (d : TypeDesc) (hb : b < w.heap.size) (hc : w.rangeAt b i cs)
    (hu : P.underlying ty = some d) (hd : d.isRow = true) (hi : (P.info? ty).map (·.size) = some cs.length)
    (h : wpMix P ops w kd sp E rest (k + 1) (a.put o.dst (.agg cs.toArray)) D) : wpMix P ops w kd sp E (o :: rest) k a D := by
  unfold wpMix mStep
  rw [if_pos hw, hk]
  refine ⟨hD, _, fun W hW => ?_, h⟩
  have hc' : W.rangeAt b i cs := fun j v hv => (Below.cell (p := ⟨b, i + j, none⟩) hW hb).trans (hc j v hv)
  unfold RunsTo execOp
  simp only [ho, hx, Instr.loadAt, Instr.sureAddr, Sem.run_bind, Sem.run_pure, Result.andThen_ok, run_loadVar_mid W b i ty cs d hc' hu hd hi]
theorem mix_make (hw : Region.wanted o (yielded ops a.tmps) = true) (hk : kd k = .make) (hD : Keeps w D) (hst : ∀ v W U, (sp k).R v W → Grown W U → (sp k).R v U) (hM : Makes P w o (sp k).S (sp k).R a)
    (h : ∀ v, (sp k).S v → Keeps w (fun W => D W ∧ (sp k).R v W) → wpMix P ops w kd sp E rest (k + 1) (a.put o.dst v) (fun W => D W ∧ (sp k).R v W)) : wpMix P ops w kd sp E (o :: rest) k a D := by
  unfold wpMix mStep
  rw [if_pos hw, hk]
  exact ⟨hD, hst, hM, fun v hv _ => h v hv (hD.and (hst v))⟩
/-- A last operation that writes. -/
theorem mix_tail (hw : Region.wanted o (yielded ops a.tmps) = true) (hk : kd k = .tail) (T : World → World) (hT : ∀ W, D W → (execOp a.eval o).run P W = .ok .skip (T W))
    (h : wpMix P ops w kd sp E rest (k + 1) (a.put o.dst undef) (fun W' => ∃ W, D W ∧ W' = T W)) : wpMix P ops w kd sp E (o :: rest) k a D := by
  unfold wpMix mStep
  rw [if_pos hw, hk]
  refine ⟨fun v => v = undef, fun _ W' => ∃ W, D W ∧ W' = T W, fun W hW => ?_, fun v hv _ => by subst hv; exact h⟩
  unfold Oper.goes
  rw [hT W hW]
  exact ⟨rfl, W, hW, rfl⟩
theorem mix_store (hw : Region.wanted o (yielded ops a.tmps) = true) (hk : kd k = .tail) (ty : TypeId) (x y : Operand) (ho : o.op = .store ty x y)
    (b i : Nat) (cs : Array Value) (hx : a.eval x = .pointer (some ⟨b, i, none⟩)) (hy : a.eval y = .agg cs) (ht : ∀ W, D W → W.there b i cs.size) (hi : (P.info? ty).map (·.size) = some cs.size) (h1 : cs.all (·.oneCell') = true)
    (h : wpMix P ops w kd sp E rest (k + 1) (a.put o.dst undef) (fun W' => ∃ W, D W ∧ W' = W.setCells b i cs.toList)) : wpMix P ops w kd sp E (o :: rest) k a D :=
  mix_tail hw hk (fun W => W.setCells b i cs.toList) (fun W hW => by
    unfold execOp
    simp only [ho, hx, hy, Instr.storeAt, Instr.sureAddr, Sem.run_bind, Sem.run_pure, Result.andThen_ok, run_storeVar_mid W b i ty cs (ht W hW) hi h1]) h
theorem mix_nil (h : E a D) : wpMix P ops w kd sp E [] k a D := h
end
end
end Go.Proofs.YtlonefjbcooaaaaDoor
