/-
  The walks beneath: MixZ, DkQ.
-/
import Derived.Test.YtibeihcpehikoaaGreatSc
namespace Go.Proofs.YtibeihcpehikoaaGreat
open Go.RowKit
set_option maxRecDepth 100000
set_option maxHeartbeats 8000000
set_option linter.unusedSimpArgs false
section
class GRel where
 rel : World → World → Prop
 refl : ∀ w, rel w w
 trans : ∀ {a b c}, rel a b → rel b c → rel a c
 drew : ∀ w : World, rel w { w with drawn := w.drawn + 1 }
namespace Z
section
variable [GRel]
variable {P : Program} {ops : Array Oper} {md : Region.Mode} {kd : Nat → Kd} {sp : Nat → Told}
def AllF (w : World) (F : Facts) (W : World) : Prop := GRel.rel w W ∧ ∀ i, F i W
def StabF (F : Facts) : Prop := ∀ i W U, F i W → GRel.rel W U → F i U
structure OkF (w : World) (F : Facts) : Prop where
 some_ : ∃ W, AllF w F W
 stab : StabF F
theorem AllF.upd {w W W' : World} {F : Facts} {i : Nat} {R : World → Prop} (h : AllF w F W) (hs : StabF F) (hg : GRel.rel W W') (hR : R W') : AllF w (updF F i R) W' := ⟨GRel.trans h.1 hg, fun n => ⟨hs n W W' (h.2 n) hg, fun _ => hR⟩⟩
theorem AllF.before {w W : World} {F : Facts} {i : Nat} {R : World → Prop} (h : AllF w (updF F i R) W) : AllF w F W := ⟨h.1, fun n => (h.2 n).1⟩
theorem StabF.upd {F : Facts} {i : Nat} {R : World → Prop} (hs : StabF F) (hR : ∀ W U, R W → GRel.rel W U → R U) : StabF (updF F i R) := fun n W U h hg => ⟨hs n W U h.1 hg, fun e => hR W U (h.2 e) hg⟩
theorem OkF.none (w : World) : OkF w (fun _ _ => True) := ⟨⟨w, GRel.refl w, fun _ => trivial⟩, fun _ _ _ _ _ => trivial⟩
def yStep (P : Program) (md : Region.Mode) (ops : Array Oper) (kd : Nat → Kd) (sp : Nat → Told) (o : Oper) (i : Nat) (K : Act → World → Facts → Prop) (a : Act) (w : World) (F : Facts) : Prop :=
 if Region.wanted o (yielded ops a.tmps) = true then
  match kd i with
  | .pure => ∃ v, (∀ W, RunsTo P o a W v) ∧ K (a.put o.dst v) w F
  | .held => ∃ v, (∀ W, GRel.rel w W → RunsTo P o a W v) ∧ K (a.put o.dst v) w F
  | .make => (∀ v W U, (sp i).R v W → GRel.rel W U → (sp i).R v U) ∧ (∀ W, GRel.rel w W → (∀ n, waitsM md ops i n = true → F n W) → Oper.goes P o a W (fun u W' => ((sp i).S u ∧ (sp i).R u W') ∧ GRel.rel W W')) ∧ ∀ v, (sp i).S v → OkF w (updF F i ((sp i).R v)) → K (a.put o.dst v) w (updF F i ((sp i).R v))
  | .tail => ∃ T : Value → World → Prop, (∀ W, AllF w F W → Oper.goes P o a W T) ∧ ∀ v W', T v W' → K (a.put o.dst v) W' (fun _ _ => True)
 else K (a.put o.dst undef) w F
def yOp (P : Program) (md : Region.Mode) (ops : Array Oper) (kd : Nat → Kd) (sp : Nat → Told) (i : Nat) (K : Act → World → Facts → Prop) (a : Act) (w : World) (F : Facts) : Prop :=
 match ops[i]? with
 | none => K a w F
 | some o => yStep P md ops kd sp o i K a w F
theorem yStep_mono {o : Oper} {i : Nat} {a : Act} {w : World} {F : Facts} {K K' : Act → World → Facts → Prop} (hne : OkF w F) (h : ∀ a w F, OkF w F → K a w F → K' a w F) (hh : yStep P md ops kd sp o i K a w F) : yStep P md ops kd sp o i K' a w F := by
 unfold yStep at *
 split
 ·rename_i hw
  rw [if_pos hw] at hh
  cases hk : kd i <;> rw [hk] at hh <;> simp only at hh ⊢
  ·obtain ⟨v, h1, h2⟩ := hh; exact ⟨v, h1, h _ _ _ hne h2⟩
  ·obtain ⟨v, h1, h2⟩ := hh; exact ⟨v, h1, h _ _ _ hne h2⟩
  ·obtain ⟨h0, h1, h2⟩ := hh; exact ⟨h0, h1, fun v hv hn => h _ _ _ hn (h2 v hv hn)⟩
  ·obtain ⟨T, h1, h2⟩ := hh; exact ⟨T, h1, fun v W' ht => h _ _ _ (OkF.none W') (h2 v W' ht)⟩
 ·rename_i hw; rw [if_neg hw] at hh; exact h _ _ _ hne hh
theorem make_some {o : Oper} {i : Nat} {a : Act} {w : World} {F : Facts} (hne : OkF w F) (hst : ∀ v W U, (sp i).R v W → GRel.rel W U → (sp i).R v U) (hM : ∀ W, GRel.rel w W → (∀ n, waitsM md ops i n = true → F n W) → Oper.goes P o a W (fun u W' => ((sp i).S u ∧ (sp i).R u W') ∧ GRel.rel W W')) : ∃ v, (sp i).S v ∧ OkF w (updF F i ((sp i).R v)) := by
 obtain ⟨W, hW⟩ := hne.some_
 obtain ⟨v, W', ⟨hs, hr⟩, hg⟩ := goes_some (hM W hW.1 (fun n _ => hW.2 n))
 exact ⟨v, hs, ⟨W', hW.upd hne.stab hg hr⟩, hne.stab.upd (hst v)⟩
theorem yStep_some {o : Oper} {i : Nat} {a : Act} {w : World} {F : Facts} {K : Act → World → Facts → Prop} (hne : OkF w F) (hh : yStep P md ops kd sp o i K a w F) : ∃ a' w' F', OkF w' F' ∧ K a' w' F' := by
 unfold yStep at hh
 split at hh
 ·cases hk : kd i <;> rw [hk] at hh <;> simp only at hh
  ·obtain ⟨v, -, h2⟩ := hh; exact ⟨_, _, _, hne, h2⟩
  ·obtain ⟨v, -, h2⟩ := hh; exact ⟨_, _, _, hne, h2⟩
  ·obtain ⟨h0, h1, h2⟩ := hh
   obtain ⟨v, hs, hn⟩ := make_some hne h0 h1
   exact ⟨_, _, _, hn, h2 v hs hn⟩
  ·obtain ⟨T, h1, h2⟩ := hh
   obtain ⟨W, hW⟩ := hne.some_
   obtain ⟨v, W', ht⟩ := goes_some (h1 W hW)
   exact ⟨_, _, _, OkF.none W', h2 v W' ht⟩
 ·exact ⟨_, _, _, hne, hh⟩
def swapY (a b : Kd) : Bool := match a, b with
 | .pure, _ => true
 | _, .pure => true
 | .tail, _ => false
 | _, .tail => false
 | _, _ => true
theorem yStep_swap {i j : Nat} {oi oj : Oper} (nij : waitsM md ops i j = false) (nji : waitsM md ops j i = false) (hap : oi.apart ops oj = true) (hsi : ∀ cs b, oi.op ≠ .select cs b) (hsj : ∀ cs b, oj.op ≠ .select cs b) (hk : swapY (kd i) (kd j) = true) {K : Act → World → Facts → Prop} {a : Act} {w : World} {F : Facts} (hne : OkF w F)
  (h : yStep P md ops kd sp oi i (fun a1 w1 D1 => yStep P md ops kd sp oj j K a1 w1 D1) a w F) : yStep P md ops kd sp oj j (fun a2 w2 D2 => yStep P md ops kd sp oi i K a2 w2 D2) a w F := by
 have fi : ∀ (R : World → Prop) (n : Nat), waitsM md ops i n = true → updF F j R n = F n := fun R n hn => updF_ne (fun e => by rw [e, nij] at hn; cases hn)
 have fj : ∀ (R : World → Prop) (n : Nat), waitsM md ops j n = true → updF F i R n = F n := fun R n hn => updF_ne (fun e => by rw [e, nji] at hn; cases hn)
 obtain ⟨h1, h2, h3⟩ := Oper.apart_spec hap
 have ei : ∀ (a : Act) u, execOp (a.put oj.dst u).eval oi = execOp a.eval oi := fun a u => execOp_put oi hsi a oj.dst u h3
 have ej : ∀ (a : Act) u, execOp (a.put oi.dst u).eval oj = execOp a.eval oj := fun a u => execOp_put oj hsj a oi.dst u h1
 have wi : ∀ (a : Act) u, Region.wanted oi (yielded ops (a.put oj.dst u).tmps) = Region.wanted oi (yielded ops a.tmps) := fun a u => wanted_put oi a oj.dst u h3
 have wj : ∀ (a : Act) u, Region.wanted oj (yielded ops (a.put oi.dst u).tmps) = Region.wanted oj (yielded ops a.tmps) := fun a u => wanted_put oj a oi.dst u h1
 have pc : ∀ (a : Act) u v, (a.put oi.dst u).put oj.dst v = (a.put oj.dst v).put oi.dst u := fun a u v => Act.put_comm a u v h2
 have ri : ∀ (a : Act) u W v, RunsTo P oi (a.put oj.dst u) W v ↔ RunsTo P oi a W v := fun a u W v => by unfold RunsTo; rw [ei]
 have rj : ∀ (a : Act) u W v, RunsTo P oj (a.put oi.dst u) W v ↔ RunsTo P oj a W v := fun a u W v => by unfold RunsTo; rw [ej]
 have gi : ∀ (a : Act) u W T, Oper.goes P oi (a.put oj.dst u) W T ↔ Oper.goes P oi a W T := fun a u W T => by unfold Oper.goes; rw [ei]
 have gj : ∀ (a : Act) u W T, Oper.goes P oj (a.put oi.dst u) W T ↔ Oper.goes P oj a W T := fun a u W T => by unfold Oper.goes; rw [ej]
 unfold yStep at h ⊢
 simp only [wi, wj, ri, rj, gi, gj] at h ⊢
 by_cases hwi : Region.wanted oi (yielded ops a.tmps) = true
 ·by_cases hwj : Region.wanted oj (yielded ops a.tmps) = true
  ·simp only [hwi, hwj, if_true] at h ⊢
   cases hki : kd i <;> cases hkj : kd j <;> rw [hki, hkj] at hk <;> simp only [hki, hkj] at h ⊢
   case tail.tail => simp [swapY] at hk
   case tail.held => simp [swapY] at hk
   case tail.make => simp [swapY] at hk
   case held.tail => simp [swapY] at hk
   case make.tail => simp [swapY] at hk
   case pure.pure =>
    obtain ⟨v, hv, u, hu, hK⟩ := h
    exact ⟨u, hu, v, hv, by rw [← pc]; exact hK⟩
   case pure.held =>
    obtain ⟨v, hv, u, hu, hK⟩ := h
    exact ⟨u, hu, v, hv, by rw [← pc]; exact hK⟩
   case pure.make =>
    obtain ⟨v, hv, hst, hM, hK⟩ := h
    exact ⟨hst, hM, fun u hu hn => ⟨v, hv, by rw [← pc]; exact hK u hu hn⟩⟩
   case pure.tail =>
    obtain ⟨v, hv, T, hg, hK⟩ := h
    exact ⟨T, hg, fun u W' hu => ⟨v, hv, by rw [← pc]; exact hK u W' hu⟩⟩
   case held.pure =>
    obtain ⟨v, hv, u, hu, hK⟩ := h
    exact ⟨u, hu, v, hv, by rw [← pc]; exact hK⟩
   case held.held =>
    obtain ⟨v, hv, u, hu, hK⟩ := h
    exact ⟨u, hu, v, hv, by rw [← pc]; exact hK⟩
   case held.make =>
    obtain ⟨v, hv, hst, hM, hK⟩ := h
    exact ⟨hst, hM, fun u hu hn => ⟨v, hv, by rw [← pc]; exact hK u hu hn⟩⟩
   case make.pure =>
    obtain ⟨hst, hM, hK⟩ := h
    obtain ⟨v0, hs0, hn0⟩ := make_some hne hst hM
    obtain ⟨u, hu, -⟩ := hK v0 hs0 hn0
    refine ⟨u, hu, hst, hM, fun v hv hn => ?_⟩
    obtain ⟨u', hu', hK'⟩ := hK v hv hn
    have : u' = u := runsTo_uniq (hu' w) (hu w)
    subst this
    rw [← pc]; exact hK'
   case make.held =>
    obtain ⟨hst, hM, hK⟩ := h
    obtain ⟨v0, hs0, hn0⟩ := make_some hne hst hM
    obtain ⟨u, hu, -⟩ := hK v0 hs0 hn0
    refine ⟨u, hu, hst, hM, fun v hv hn => ?_⟩
    obtain ⟨u', hu', hK'⟩ := hK v hv hn
    have : u' = u := runsTo_uniq (hu' w (GRel.refl w)) (hu w (GRel.refl w))
    subst this
    rw [← pc]; exact hK'
   case make.make =>
    obtain ⟨hst, hM, hK⟩ := h
    obtain ⟨v0, hs0, hn0⟩ := make_some hne hst hM
    obtain ⟨hst2, hM2, -⟩ := hK v0 hs0 hn0
    refine ⟨hst2, fun W hW hF => hM2 W hW (fun n hn => by rw [fj _ n hn]; exact hF n hn), fun u hu hn => ⟨hst, fun W hW hF => hM W hW (fun n hn => by have := hF n hn; rw [fi _ n hn] at this; exact this), fun v hv hn2 => ?_⟩⟩
    rw [updF_comm] at hn2 ⊢
    have hn1 : OkF w (updF F i ((sp i).R v)) := by
     obtain ⟨W, hW⟩ := hn2.some_
     exact ⟨⟨W, hW.before⟩, hne.stab.upd (hst v)⟩
    have := (hK v hv hn1).2.2 u hu hn2
    rw [← pc]
    exact this
   case tail.pure =>
    obtain ⟨T, hg, hK⟩ := h
    obtain ⟨W, hW⟩ := hne.some_
    obtain ⟨v0, W', ht0⟩ := goes_some (hg W hW)
    obtain ⟨u, hu, -⟩ := hK v0 W' ht0
    refine ⟨u, hu, T, hg, fun v W2 ht => ?_⟩
    obtain ⟨u', hu', hK'⟩ := hK v W2 ht
    have : u' = u := runsTo_uniq (hu' W) (hu W)
    subst this
    rw [← pc]; exact hK'
  ·simp only [hwi, hwj, if_true, Bool.false_eq_true, if_false] at h ⊢
   cases hki : kd i <;> simp only [hki] at h ⊢
   ·obtain ⟨v, hv, hK⟩ := h; exact ⟨v, hv, by rw [← pc]; exact hK⟩
   ·obtain ⟨v, hv, hK⟩ := h; exact ⟨v, hv, by rw [← pc]; exact hK⟩
   ·obtain ⟨hst, hM, hK⟩ := h; exact ⟨hst, hM, fun v hv hn => by rw [← pc]; exact hK v hv hn⟩
   ·obtain ⟨T, hg, hK⟩ := h; exact ⟨T, hg, fun v W' ht => by rw [← pc]; exact hK v W' ht⟩
 ·by_cases hwj : Region.wanted oj (yielded ops a.tmps) = true
  ·simp only [hwi, hwj, if_true, Bool.false_eq_true, if_false] at h ⊢
   cases hkj : kd j <;> simp only [hkj] at h ⊢
   ·obtain ⟨v, hv, hK⟩ := h; exact ⟨v, hv, by rw [← pc]; exact hK⟩
   ·obtain ⟨v, hv, hK⟩ := h; exact ⟨v, hv, by rw [← pc]; exact hK⟩
   ·obtain ⟨hst, hM, hK⟩ := h; exact ⟨hst, hM, fun v hv hn => by rw [← pc]; exact hK v hv hn⟩
   ·obtain ⟨T, hg, hK⟩ := h; exact ⟨T, hg, fun v W' ht => by rw [← pc]; exact hK v W' ht⟩
  ·simp only [hwi, hwj, Bool.false_eq_true, if_false] at h ⊢
   rw [← pc]; exact h
def wpAnyY (P : Program) (md : Region.Mode) (ops : Array Oper) (kd : Nat → Kd) (sp : Nat → Told) (E : Act → World → Facts → Prop) : Nat → Array Bool → Act → World → Facts → Prop
 | 0, listed, a, w, D => Region.ready md ops listed = [] ∧ E a w D
 | f + 1, listed, a, w, D => (Region.ready md ops listed = [] → E a w D) ∧ ∀ i ∈ Region.ready md ops listed, yOp P md ops kd sp i (wpAnyY P md ops kd sp E f (listed.setIfInBounds i true)) a w D
theorem wpOp_of_yOp {i : Nat} {a : Act} {w : World} {F : Facts} {K : Act → World → Facts → Prop} {K' : Act → World → Prop} {Q' : Exit → Act → World → Prop} {W : World} (hne : OkF w F) (hW : AllF w F W)
  (h : ∀ a w F W', OkF w F → AllF w F W' → K a w F → K' a W') (hh : yOp P md ops kd sp i K a w F) : wpOp P ops Q' i K' a W := by
 unfold yOp at hh
 unfold wpOp
 split
 ·rename_i ho; simp only [ho] at hh; exact h _ _ _ _ hne hW hh
 ·rename_i o ho
  simp only [ho] at hh
  unfold yStep at hh
  split
  ·rename_i hw
   rw [if_pos hw] at hh
   left
   cases hk : kd i <;> rw [hk] at hh <;> simp only at hh
   ·obtain ⟨v, h1, h2⟩ := hh
    have h1 := h1 W
    unfold RunsTo at h1
    unfold Oper.wp
    rw [h1]
    exact h _ _ _ _ hne hW h2
   ·obtain ⟨v, h1, h2⟩ := hh
    have h1 := h1 W hW.1
    unfold RunsTo at h1
    unfold Oper.wp
    rw [h1]
    exact h _ _ _ _ hne hW h2
   ·obtain ⟨hst, hM, hK⟩ := hh
    exact Oper.wp_of_goes (hM W hW.1 (fun n _ => hW.2 n)) fun v W' ⟨⟨hs, hr⟩, hg⟩ => have hn := hW.upd (i := i) hne.stab hg hr; have ho : OkF w (updF F i ((sp i).R v)) := ⟨⟨W', hn⟩, hne.stab.upd (hst v)⟩; h _ _ _ W' ho hn (hK v hs ho)
   ·obtain ⟨T, hg, hK⟩ := hh
    exact Oper.wp_of_goes (hg W hW) fun v W' ht => h _ _ _ W' (OkF.none W') ⟨GRel.refl W', fun _ => trivial⟩ (hK v W' ht)
  ·rename_i hw; rw [if_neg hw] at hh; exact h _ _ _ _ hne hW hh
theorem wpAny_of_Y {Q : Exit → Act → World → Prop} : ∀ (f : Nat) (listed : Array Bool) (a : Act) (w : World) (F : Facts) (W : World), OkF w F → AllF w F W → wpAnyY P md ops kd sp (fun a w F => ∀ W, AllF w F W → Q .normal a W) f listed a w F → wpAny P md ops Q f listed a W
 | 0, _, _, _, _, _, _, hW, h => ⟨h.1, h.2 _ hW⟩
 | f + 1, _, _, _, _, _, hne, hW, h => ⟨fun h0 => h.1 h0 _ hW, fun i hi => wpOp_of_yOp hne hW (fun a' w' D' W' hn' hW' h' => wpAny_of_Y f _ a' w' D' W' hn' hW' h') (h.2 i hi)⟩
theorem wpAnyY_first {E : Act → World → Facts → Prop} {i : Nat} {oi : Oper} (hi : ops[i]? = some oi) (hsel : ∀ (j : Nat) (o : Oper) cs b, ops[j]? = some o → o.op ≠ .select cs b)
  (hsw : ∀ j, j < ops.size → j ≠ i → swapY (kd i) (kd j) = false → waitsM md ops j i = true ∨ waitsM md ops i j = true) :
  ∀ (f : Nat) (listed : Array Bool) (a : Act) (w : World) (F : Facts), OkF w F → Closed md ops listed →
   (∀ j oj, ops[j]? = some oj → j ≠ i → listed.getD j true = false → (∀ e ∈ oj.after, Region.binds md e = true → e.on ≠ i) → oi.apart ops oj = true) →
   i ∈ Region.ready md ops listed → yOp P md ops kd sp i (wpAnyY P md ops kd sp E f (listed.setIfInBounds i true)) a w F → wpAnyY P md ops kd sp E (f + 1) listed a w F := by
 intro f
 induction f with
 | zero =>
  intro listed a w D hne _ _ hr H
  refine ⟨fun h => (by rw [h] at hr; cases hr), fun j hj => ?_⟩
  by_cases hji : j = i
  ·subst hji; exact H
  ·unfold yOp at H
   rw [hi] at H
   obtain ⟨a', w', D', -, h0, -⟩ := yStep_some hne H
   have := ready_mono hj hji
   rw [h0] at this; cases this
 | succ f ih =>
  intro listed a w D hne hcl hfree hr H
  refine ⟨fun h => (by rw [h] at hr; cases hr), fun j hj => ?_⟩
  by_cases hji : j = i
  ·subst hji; exact H
  ·obtain ⟨hjun, oj, hoj, hall⟩ := mem_ready.1 hj
   have hun := (mem_ready.1 hr).1
   have hnot : ∀ e ∈ oj.after, Region.binds md e = true → e.on ≠ i := fun e he hb heq => by
    have h1 := hall e he hb
    rw [heq, getD_both hun] at h1
    cases h1
   have hap := hfree j oj hoj hji hjun hnot
   have hswap : swapY (kd i) (kd j) = true := by
    cases hs : swapY (kd i) (kd j) with
    | true => rfl
    | false =>
     rcases hsw j (Array.getElem?_eq_some_iff.1 hoj).1 hji hs with h1 | h1
     ·have h2 := waitsM_ready hcl hj h1
      rw [getD_both hun] at h2; cases h2
     ·have h2 := waitsM_ready hcl hr h1
      rw [getD_both hjun] at h2; cases h2
   have hfree' : ∀ k ok, ops[k]? = some ok → k ≠ i → (listed.setIfInBounds j true).getD k true = false →
     (∀ e ∈ ok.after, Region.binds md e = true → e.on ≠ i) → oi.apart ops ok = true := fun k ok hk hki hun' hno => by
    refine hfree k ok hk hki ?_ hno
    by_cases hjk : j = k
    ·subst hjk; exact hjun
    ·rw [getD_set_ne true hjk] at hun'; exact hun'
   have hri := ready_mono hr (Ne.symm hji)
   unfold yOp at H
   rw [hi] at H
   have H2 : yStep P md ops kd sp oi i (fun a1 w1 D1 => yStep P md ops kd sp oj j (wpAnyY P md ops kd sp E f ((listed.setIfInBounds i true).setIfInBounds j true)) a1 w1 D1) a w D :=
    yStep_mono hne (fun a1 w1 D1 _ hK => by
     have := hK.2 j (ready_mono hj hji)
     unfold yOp at this
     rw [hoj] at this
     exact this) H
   have nji : waitsM md ops j i = false := by
    cases hs : waitsM md ops j i with
    | false => rfl
    | true => have h2 := waitsM_ready hcl hj hs; rw [getD_both hun] at h2; cases h2
   have nij : waitsM md ops i j = false := by
    cases hs : waitsM md ops i j with
    | false => rfl
    | true => have h2 := waitsM_ready hcl hr hs; rw [getD_both hjun] at h2; cases h2
   have H3 := yStep_swap nij nji hap (fun cs b => hsel i oi cs b hi) (fun cs b => hsel j oj cs b hoj) hswap hne H2
   unfold yOp
   rw [hoj]
   refine yStep_mono hne (fun a2 w2 D2 hne2 h3 => ih (listed.setIfInBounds j true) a2 w2 D2 hne2 (hcl.set hj) hfree' hri ?_) H3
   unfold yOp
   rw [hi, Array.setIfInBounds_comm _ _ hji]
   exact h3
def wpMixY (P : Program) (md : Region.Mode) (ops : Array Oper) (kd : Nat → Kd) (sp : Nat → Told) (E : Act → World → Facts → Prop) : List Oper → Nat → Act → World → Facts → Prop
 | [], _, a, w, D => E a w D
 | o :: rest, k, a, w, D => yStep P md ops kd sp o k (wpMixY P md ops kd sp E rest (k + 1)) a w D
def mixYB (md : Region.Mode) (ops : Array Oper) (kd : Nat → Kd) : Bool :=
 Region.lexB md ops && (List.range ops.size).all fun i => (List.range ops.size).all fun j => decide (j = i) || (swapY (kd i) (kd j) || (waitsM md ops j i || waitsM md ops i j))
theorem wpAnyY_lex {E : Act → World → Facts → Prop} (hs : Region.noSelect ops = true) (hsw : ∀ i j, i < ops.size → j < ops.size → j ≠ i → swapY (kd i) (kd j) = false → waitsM md ops j i = true ∨ waitsM md ops i j = true) :
  ∀ (l : List Oper) (k : Nat) (listed : Array Bool) (a : Act) (w : World) (F : Facts), OkF w F → Closed md ops listed → (∀ j, l[j]? = ops[k + j]?) →
  Region.lexFrom md ops l.length k listed = true → wpMixY P md ops kd sp E l k a w F → wpAnyY P md ops kd sp E l.length listed a w F
 | [], _, _, _, _, _, _, _, _, hB, h => ⟨by simpa [Region.lexFrom] using hB, h⟩
 | o :: l, k, listed, a, w, D, hne, hcl, hl, hB, h => by
  have h0 : ops[k]? = some o := by simpa using (hl 0).symm
  simp only [zH, Region.lexFrom, Bool.and_eq_true] at hB
  obtain ⟨⟨hr, hf⟩, hB'⟩ := hB
  have hk : k < ops.size := (Array.getElem?_eq_some_iff.1 h0).1
  refine wpAnyY_first h0 (Region.noSelect_spec hs) (fun j hjl hj hsw' => hsw k j hk hjl hj hsw') l.length listed a w D hne hcl (Region.free_spec h0 hf) (by simpa using hr) ?_
  unfold yOp
  rw [h0]
  exact yStep_mono hne (fun a' w' D' hne' h' => wpAnyY_lex hs hsw l (k + 1) _ a' w' D' hne' (hcl.set (by simpa using hr)) (fun j => by have := hl (j + 1); simpa [Nat.add_assoc, Nat.add_comm 1 j] using this) hB' h') h
theorem any_mixedY {Q : Exit → Act → World → Prop} {a : Act} {w : World} {l : List Oper} (kds : List Kd) (sp : Nat → Told) (hB : mixYB .any l.toArray (fun i => kds.getD i .pure) = true)
  (h : wpMixY P .any l.toArray (fun i => kds.getD i .pure) sp (fun a w F => ∀ W, AllF w F W → Q .normal a W) l 0 a w (fun _ _ => True)) : wpAny P .any l.toArray Q l.toArray.size (Array.replicate l.toArray.size false) a { w with drawn := w.drawn + 1 } := by
 simp only [mixYB, Bool.and_eq_true] at hB
 obtain ⟨hlex, hall⟩ := hB
 simp only [Region.lexB, Bool.and_eq_true] at hlex
 have hg0 : GRel.rel w { w with drawn := w.drawn + 1 } := GRel.drew w
 refine (wpAny_of_Y (kd := fun i => kds.getD i .pure) (sp := sp) _ _ _ w (fun _ _ => True) _ (OkF.none w) ⟨hg0, fun _ => trivial⟩ ?_)
 have := wpAnyY_lex (P := P) (md := .any) (kd := fun i => kds.getD i .pure) (sp := sp) (E := fun a w F => ∀ W, AllF w F W → Q .normal a W) hlex.1 (fun i j hi hjl hj hs => by
  have h1 := List.all_eq_true.1 (List.all_eq_true.1 hall i (List.mem_range.2 hi)) j (List.mem_range.2 hjl)
  simp only [Bool.or_eq_true, decide_eq_true_eq] at h1
  rcases h1 with h1 | h1 | h1 | h1
  ·exact absurd h1 hj
  ·rw [hs] at h1; cases h1
  ·exact .inl h1
  ·exact .inr h1) l 0 (Array.replicate l.toArray.size false) a w (fun _ _ => True) (OkF.none w) (Closed.none _ _ _) (by simp) (by simpa using hlex.2) h
 simpa using this
section
variable {E : Act → World → Facts → Prop} {a : Act} {o : Oper} {rest : List Oper} {k : Nat} {w : World} {F : Facts}
theorem mixY_pure (hw : Region.wanted o (yielded ops a.tmps) = true) (hk : kd k = .pure) (hp : valOp o.op = true)
  (h : ∀ K : Act → Prop, (∀ a, wpMixY P md ops kd sp E rest (k + 1) a w F → K a) → o.quiet P a (fun _ => True) K) : wpMixY P md ops kd sp E (o :: rest) k a w F := by
 unfold wpMixY yStep
 rw [if_pos hw, hk]
 obtain ⟨v, h1, h2⟩ := h _ fun _ h => h
 exact ⟨v, fun W => runs_of_quiet hp (h1 W trivial), h2⟩
theorem mixY_load (hw : Region.wanted o (yielded ops a.tmps) = true) (hk : kd k = .held) (ty : TypeId) (x : Operand) (ho : o.op = .load ty x)
  (b i : Nat) (hx : a.eval x = .pointer (some ⟨b, i, none⟩)) (cs : List Value) (d : TypeDesc) (hc : ∀ W, GRel.rel w W → W.rangeAt b i cs)
  (hu : P.underlying ty = some d) (hd : d.isRow = true) (hi : (P.info? ty).map (·.size) = some cs.length)
  (h : wpMixY P md ops kd sp E rest (k + 1) (a.put o.dst (.agg cs.toArray)) w F) : wpMixY P md ops kd sp E (o :: rest) k a w F := by
 unfold wpMixY yStep
 rw [if_pos hw, hk]
 refine ⟨_, fun W hW => ?_, h⟩
 have hc' : W.rangeAt b i cs := hc W hW
 unfold RunsTo execOp
 simp only [ho, hx, Instr.loadAt, Instr.sureAddr, Sem.run_bind, Sem.run_pure, Result.andThen_ok, run_loadVar_mid W b i ty cs d hc' hu hd hi]
theorem mixY_make (hw : Region.wanted o (yielded ops a.tmps) = true) (hk : kd k = .make) (hst : ∀ v W U, (sp k).R v W → GRel.rel W U → (sp k).R v U)
  (hM : ∀ W, GRel.rel w W → (∀ n, waitsM md ops k n = true → F n W) → Oper.goes P o a W (fun u W' => ((sp k).S u ∧ (sp k).R u W') ∧ GRel.rel W W'))
  (h : ∀ v, (sp k).S v → wpMixY P md ops kd sp E rest (k + 1) (a.put o.dst v) w (updF F k ((sp k).R v))) : wpMixY P md ops kd sp E (o :: rest) k a w F := by
 unfold wpMixY yStep
 rw [if_pos hw, hk]
 exact ⟨hst, hM, fun v hv _ => h v hv⟩
theorem mixY_write (hw : Region.wanted o (yielded ops a.tmps) = true) (hk : kd k = .tail) (T : Value → World → Prop) (hM : ∀ W, AllF w F W → Oper.goes P o a W T)
  (h : ∀ v W', T v W' → wpMixY P md ops kd sp E rest (k + 1) (a.put o.dst v) W' (fun _ _ => True)) : wpMixY P md ops kd sp E (o :: rest) k a w F := by
 unfold wpMixY yStep
 rw [if_pos hw, hk]
 exact ⟨T, hM, h⟩
theorem mixY_hrun (v : Value) (hw : Region.wanted o (yielded ops a.tmps) = true) (hk : kd k = .held) (hr : ∀ W, GRel.rel w W → RunsTo P o a W v) (h : wpMixY P md ops kd sp E rest (k + 1) (a.put o.dst v) w F) : wpMixY P md ops kd sp E (o :: rest) k a w F := by
 unfold wpMixY yStep
 rw [if_pos hw, hk]
 exact ⟨v, hr, h⟩
theorem mixY_nil (h : E a w F) : wpMixY P md ops kd sp E [] k a w F := h
end
end
end Z
end
section
open Go.RowKit Go.Shelf
attribute [local go_sem] Oper.semAt_some
attribute [local irreducible] wpMixY
structure RelX (c : Nat) (T : TypeId) (C : Array Value) (w W : World) : Prop where
 os : W.os = w.os
 tape : W.tape = w.tape
 output : W.output = w.output
 size : w.heap.size ≤ W.heap.size
 block : ∀ k, k < w.heap.size → k ≠ c → W.heap[k]? = w.heap[k]?
 one : W.heap[c]? = w.heap[c]? ∨ Blk W c T C
section
variable {c g B : Nat} {T t : TypeId} {C cs : Array Value} {w W U a : World}
theorem RelX.refl : RelX c T C w w := ⟨rfl, rfl, rfl, zL _, fun _ _ _ => rfl, .inl rfl⟩
theorem RelX.trans (h : RelX c T C w W) (k : RelX c T C W U) : RelX c T C w U :=
 ⟨k.os.trans h.os, k.tape.trans h.tape, k.output.trans h.output, Nat.le_trans h.size k.size, fun j hj hn => (k.block j (Nat.lt_of_lt_of_le hj h.size) hn).trans (h.block j hj hn), by
  rcases k.one with e | e
  ·rcases h.one with e2 | e2
   ·exact .inl (e.trans e2)
   ·exact .inr (e.trans e2)
  ·exact .inr e⟩
theorem RelX.blk (h : RelX c T C w W) (k : Blk w g t cs) (hg : g ≠ c) : Blk W g t cs := (h.block g k.lt hg).trans k
theorem RelX.own (h : RelX c T C w W) (k : Blk w c T C) : Blk W c T C := by
 rcases h.one with e | e
 ·exact e.trans k
 ·exact e
theorem RelX.below (h : RelX c T C w W) (k : Below B a w) (hB : B ≤ c) (hs : B ≤ w.heap.size) : Below B a W :=
 ⟨h.os.trans k.os, h.tape.trans k.tape, h.output.trans k.output, Nat.le_trans k.size h.size, fun j hj => (h.block j (by omega) (by omega)).trans (k.block j hj)⟩
theorem RelX.keeps (h : RelX c T C w W) (k : KeepsFrom B a w) (hB : c < B) : KeepsFrom B a W :=
 ⟨Nat.le_trans k.1 h.size, fun j o hj ho hc => by
  have h2 := k.2 j o hj ho hc
  exact (h.block j (Array.getElem?_eq_some_iff.1 h2).1 (by omega)).trans h2⟩
abbrev relG (c : Nat) (T : TypeId) (C : Array Value) : GRel := ⟨RelX c T C, fun _ => RelX.refl, fun h k => h.trans k, fun _ => ⟨rfl, rfl, rfl, zL _, fun _ _ _ => rfl, .inl rfl⟩⟩
end
theorem seek_in (s d x mm : Int) (a b : List Nat) (na ev F f base g : Nat) (w : World) (hs : U32 s) (hd : 0 ≤ d ∧ d ≤ 8) (hF : (F : Int) = d + (min a.length b.length : Nat)) (hal : a.length = na) (hbl : b.length = na) (hna : na ≤ 1000) (hev : 1 ≤ ev ∧ ev ≤ 20000) (hf : f ≤ F)
    (h63a : ∀ x ∈ a, x < 64) (h63b : ∀ x ∈ b, x < 64) (hD : DkW w base g s d x mm a b na ev F (keptS (inpT d.toNat a b) (beginS s) ev (F + 1))) :
    Calls Tryz.prog 40 #[.pointer (some ⟨g, 0, none⟩), .int .i64 (f : Int)] w fun e w' => e = .returned (.tuple #[.agg (stCells (stT (inpT d.toNat a b) (beginS s) f)).toArray, .int .i64 ((f % ev : Nat) : Int), .int .i64 0]) ∧ Below w.heap.size w w' := by
  obtain ⟨A, B, K, cA, cB, nK, cK, hk, -, -, -⟩ := hD.blk
  have HK := zz hk
  have HSEQ := zz (fun (w2 : World) (b1 b2 go : Nat) (h0 : Below w.heap.size w w2) hgo hne k1 k2 hp => pages_stB 2 (by decide) s d x mm a b na ev F f base g go b1 b2 w w2 hs hd hF hal hbl hna hev hf h63a h63b hD h0 hgo hne k1 k2 hp)
  have hF1 : F ≤ 1008 := by omega
  have hmod : ((f : Int) % (ev : Int)) = ((f % ev : Nat) : Int) := by simp
  have hml : f % ev < ev := Nat.mod_lt _ (by omega)
  obtain ⟨r, hr⟩ : ∃ r, f % ev = r := ⟨_, rfl⟩
  rw [hr] at hmod hml ⊢
  clear hD hk hF hal hbl h63a h63b hr
  refine (callsIn_wide (n := 3)).1 ?_
  refine callsIn_of_wp_marks Tryz.func40 rfl trivial ?_ rfl
  simp only [Tryz.ntmps40, zM, zH, zI, Nat.reduceAdd, Nat.reduceSub, Array.replicate_succ, Array.replicate_zero, List.push_toArray, List.append_toArray, List.nil_append, List.cons_append]
  refine wpIn_wide.2 ?_
  go_upto_region 1 with fail
  refine named5 (F := fun W => Code.wp _ _ _ _ W) ?_
  intro w1 k2 k3 k4 k5 k6 hb hz1
  have hgw := HK.out.lt
  have kd := HK.out.on hb
  have c2 := k2.cell 0
  have c3 := k3.cell 0
  have d8 := kd.cell 8
  have d7 := kd.cell 7
  simp only [zA, zB, zC] at c2 c3 d8 d7
  have l2 := k2.lt
  have l3 := k3.lt
  have ld := kd.lt
  have K2 := zz k2
  have K3 := zz k3
  have K4 : Hid (∃ cs, Blk w1 (w.heap.size + 1 + 1) 41 cs ∧ cs.size = 60) := zz ⟨_, k4, rfl⟩
  have K5 := zz k5
  have K6 := zz k6
  have HB := zz hb
  clear k2 k3 k4 k5 k6 kd hz1 hb
  have g1 : decide ((f : Int) < 0) = false := decide_eq_false (by omega)
  have g2 : decide ((F : Int) < (f : Int)) = false := decide_eq_false (by omega)
  go_upto_region 3 with fail
  refine wp_region_mixedY [.held, .pure, .pure, .held, .held, .pure, .pure, .held, .pure, .pure, .pure] (fun _ => ⟨fun _ => True, fun _ _ => True⟩) (by kernel_rfl) (by kernel_rfl) ?_
  repeat (first | (refine mixY_pure rfl rfl rfl (fun K hK => ?_); go_big_quiet_op; refine hK _ ?_; clear hK K) | (refine mixY_held rfl rfl rfl (fun K hK => ?_); go_big_quiet_op; refine hK _ ?_; clear hK K) | (refine mixY_skip rfl ?_; simp only [Act.put, zD, zE, zF]))
  refine mixY_nil ?_
  intro w2 hW
  have hb2 := hW.1
  have K22 := zz (K2.out.on hb2)
  have K32 := zz (K3.out.on hb2)
  have K42 : Hid (∃ cs, Blk w2 (w.heap.size + 1 + 1) 41 cs ∧ cs.size = 60) := zz (let ⟨cs, h1, h2⟩ := K4.out; ⟨cs, h1.on hb2, h2⟩)
  have K52 := zz (K5.out.on hb2)
  have K62 := zz (K6.out.on hb2)
  have HB2 := zz (bTrans HB.out hb2)
  clear hW c2 c3 d8 d7 l2 l3 ld K2 K3 K4 K5 K6 HB
  have c2 := K22.out.cell 0
  have c3 := K32.out.cell 0
  simp only [zA, zB, zC] at c2 c3
  have l2 := K22.out.lt
  have l3 := K32.out.lt
  have HPG := zz (fun V => pages_any g (f : Int) V)
  clear hb2
  go_wp2_with (first
    | (go_at_call 96; refine (HPG.out _).mono ?_; rintro e w3 ⟨rfl, q1, q2, q3, q4⟩; have Q1 := zz q1; have Q2 := zz q2; have Q3 := zz q3; have Q4 := zz q4; clear q1 q2 q3 q4))
  have hz := HB2.out.size
  have l4 : w.heap.size + 1 + 1 < w2.heap.size := by obtain ⟨cs, h1, -⟩ := K42.out; exact h1.lt
  have l5 := K52.out.lt
  have l6 := K62.out.lt
  have hz3 : w2.heap.size ≤ w3.heap.size := Q4.out.size
  have HB3 := zz (bTrans HB2.out Q4.out)
  obtain ⟨v2, hv2⟩ : ∃ v2, w2.heap.size = v2 := ⟨_, rfl⟩
  have c3c := (K32.out.on Q4.out).cell 0
  have HK3 := zz (HK.out.on HB3.out)
  have HC3 := zz (K32.out.on Q4.out)
  have HC2 := zz (K22.out.on Q4.out)
  have HS4 : Hid (∃ cs, Blk w3 (w.heap.size + 1 + 1) 41 cs ∧ cs.size = 60) := zz (let ⟨cs, h1, h2⟩ := K42.out; ⟨cs, h1.on Q4.out, h2⟩)
  have HS5 := zz (K52.out.on Q4.out)
  have HS6 := zz (K62.out.on Q4.out)
  have hseq := HSEQ.out w3 w2.heap.size (w2.heap.size + 1) (w.heap.size + 1) HB3.out ⟨by omega, by omega⟩ ⟨by omega, by omega⟩ Q1.out Q2.out (fun r n c e => by
    simp only [zA, zB] at c3c
    rw [c3c] at e; cases e)
  rw [hv2] at hseq hz3 l2 l3 l4 l5 l6 ⊢
  have hv3 : v2 < w3.heap.size := by have := Q1.out.lt; omega
  clear c3c c2 c3 K22 K32 K42 K52 K62 HB2 Q1 Q2 Q3 Q4 HSEQ HPG
  refine (wpIn_wide (n := 3)).1 ?_
  refine wpIn_rangeFunc_stB (by decide) (gf := 166) (lb := #[.pointer (some ⟨v2, 0, none⟩), .pointer (some ⟨v2 + 1, 0, none⟩)]) rfl (enters_of Tryz.func166 (by kernel_rfl) rfl)
    hseq (fun _ => rfl) (fun h k => KpG.trans h k) (fun W l o o' hl ho hc => KpG.put W l o o' hl (by omega) ho hc)
    (fun m pre V => pre = [] ∧ Below w3.heap.size w3 V)
    (fun c m pre V => c = .ret ∧ Blk V (w.heap.size + 1 + 1) 41 (stCells (stT (inpT d.toNat a b) (beginS s) f)).toArray ∧ Blk V (w.heap.size + 1 + 1 + 1) 3 #[.int .i64 (r : Int)] ∧ Blk V (w.heap.size + 1 + 1 + 1 + 1) 28 #[.int .i64 0] ∧ Below w.heap.size w V)
    (fun m pre A A' row h hg hr => ⟨h.1, h.2.grown hg h.2.size (fun k e => (hr k e).1)⟩)
    (fun c m pre A A' row h hg hr => ⟨h.1, h.2.1.grown hg (fun e => by have := (hr _ e).1; omega), h.2.2.1.grown hg (fun e => by have := (hr _ e).1; omega), h.2.2.2.1.grown hg (fun e => by have := (hr _ e).1; omega), h.2.2.2.2.grown hg (by have := h.2.2.2.2.size; omega) (fun k e => by have := (hr k e).1; omega)⟩)
    (fun V hg => ⟨rfl, ⟨hg.os, hg.tape, hg.output, hg.size, fun k hk => hg.block k hk (by simp)⟩⟩)
    (fun x a' V => ∃ g8, w3.heap.size ≤ g8 ∧ Blk V g8 41 (stCells x.T).toArray ∧ a' = { tmps := #[.pointer (some ⟨g, 0, none⟩), .int .i64 (f : Int), .pointer (some ⟨w.heap.size, 0, none⟩), .pointer (some ⟨w.heap.size + 1, 0, none⟩), .pointer (some ⟨w.heap.size + 1 + 1, 0, none⟩), .pointer (some ⟨w.heap.size + 1 + 1 + 1, 0, none⟩), .pointer (some ⟨w.heap.size + 1 + 1 + 1 + 1, 0, none⟩), undef, .pointer (some ⟨g8, 0, none⟩), .bool false, .pointer (some ⟨g, 0, none⟩), .bool false, undef, .bool false, .int .i64 (f : Int), .bool false, .bool false, .int .i64 (f : Int), .pointer (some ⟨g, 0, none⟩), .pointer (some ⟨g, 0, none⟩), .pointer (some ⟨g, 8, none⟩), .int .i64 (F : Int), .bool false, .bool false, undef, .pointer (some ⟨g, 0, none⟩), .int .i64 (f : Int), .func (.func 166) #[] #[.pointer (some ⟨v2, 0, none⟩), .pointer (some ⟨v2 + 1, 0, none⟩)], .agg #[.int .i64 (x.k : Int), .slice x.A x.L.length x.c], .agg (stCells x.T).toArray, undef, undef, undef, undef, undef, undef, undef, undef], defers := [] })
    (fun x a' V l o o' h hl ho hc => ?ax) ?assign (fun m pre x V l o o' h hl ho hc => ⟨h.1.putObj ho hc, h.2⟩) ?body ?done ?stop
  case ax =>
    obtain ⟨g8, h1, h2, h3⟩ := h
    exact ⟨g8, h1, h2.putObj ho hc, h3⟩
  case assign =>
    rintro l m pre x W K hm hI hY hK
    unfold PgR.encs
    obtain ⟨CR, hCR⟩ : ∃ CR, stCells x.T = CR := ⟨_, rfl⟩
    have hlen : CR.length = 60 := by rw [← hCR, stCells_length]
    have HLN := zz hlen
    have HON : Hid (CR.toArray.all (·.oneCell') = true) := zz (by rw [← hCR]; exact all_oneCell_toArray (int_one _))
    have HSZ : Hid ((Tryz.prog.info? 41).map (·.size) = some CR.length) := zz (by rw [hlen]; kernel_rfl)
    rw [hCR] at hK ⊢
    have HK := zz hK
    have HI := zz hI
    have HY := zz hY
    clear hK hI hY hlen hCR
    dsimp only
    gi_wp2_with (first
      | (refine wpListIn_goes rfl (by intro c h; cases h) rfl (goes_storeN 41 (.tmp 8) (.tmp 29) rfl W.heap.size 0 CR.toArray rfl rfl (there_new _ _ _ (by rw [show CR.toArray.size = 60 from by rw [zM, HLN.out]]; rfl)) (by rw [zM]; exact HSZ.out) HON.out) ?_
         rintro v w7 ⟨rfl, hw7⟩
         have HW7 := zz hw7
         clear hw7))
    have hb7 : Below W.heap.size W w7 := by rw [HW7.out]; exact bSetCells (bAlloc (Below.refl _ _) _) (zL _) 0 _
    have hk7 : Blk w7 W.heap.size 41 CR.toArray := by rw [HW7.out]; exact (Blk.new _ _ _).whole CR (by rw [HLN.out]; rfl)
    have hIW := HI.out.2.size
    exact HK.out _ w7 ⟨hb7.size, fun k o _ ho _ => (hb7.block k (Array.getElem?_eq_some_iff.1 ho).1).trans ho⟩ (KpG.grown hb7 hIW (by omega)) ⟨HI.out.1, bTrans HI.out.2 hb7⟩ ⟨HY.out.1.below hb7, HY.out.2⟩ ⟨W.heap.size, hIW, hk7, rfl⟩
  case body =>
    rintro l m pre x a' W hm ⟨rfl, hB⟩ hY ⟨g8, hg8, k8, rfl⟩
    obtain ⟨-, -, hxk, -, hxT, -⟩ := hY
    rw [show x.k = f from hxk] at hxT
    obtain ⟨CR, hCR⟩ : ∃ CR, stCells x.T = CR := ⟨_, rfl⟩
    have hCF : stCells (stT (inpT d.toNat a b) (beginS s) f) = CR := by rw [← hxT]; exact hCR
    have hlen : CR.length = 60 := by rw [← hCR, stCells_length]
    have HLN := zz hlen
    have HON : Hid (CR.toArray.all (·.oneCell') = true) := zz (by rw [← hCR]; exact all_oneCell_toArray (int_one _))
    have HSZ : Hid ((Tryz.prog.info? 41).map (·.size) = some CR.length) := zz (by rw [hlen]; kernel_rfl)
    rw [hCR] at k8 ⊢
    have HCF := zz hCF
    have K8 := zz k8
    have HB := zz hB
    have c3 := (HC3.out.on hB).cell 0
    have c2 := (HC2.out.on hB).cell 0
    have d7 := (HK3.out.on hB).cell 7
    simp only [zA, zB, zC] at c3 c2 d7
    have m3 := (HC3.out.on hB).lt
    have m2 := (HC2.out.on hB).lt
    have m7 := (HK3.out.on hB).lt
    have m8 := k8.lt
    obtain ⟨cs4, q4, z4⟩ := HS4.out
    have H4 := zz (q4.on hB)
    have Z4 := zz z4
    have H5 := zz (HS5.out.on hB)
    have H6 := zz (HS6.out.on hB)
    have hW3 := hB.size
    have e3 : ((ev : Int) == 0) = false := by simp; omega
    clear hxk hxT hCR hCF hlen k8 hB q4 z4
    gi_wp2_with fail
    refine wp_region_round (by kernel_rfl) (by kernel_rfl) (fun ⟨_, _, e⟩ => e) ?_
    obtain ⟨c4, hc4⟩ : ∃ c4, w.heap.size + 1 + 1 = c4 := ⟨_, rfl⟩
    have HC4 := zz hc4
    have hc4a : w.heap.size + 1 < c4 := by omega
    have hc4b : c4 < v2 := by omega
    rw [hc4] at H4 H5 H6 ⊢
    have hg4 : g ≠ c4 := by omega
    letI : GRel := relG c4 41 CR.toArray
    refine Z.any_mixedY [.held, .held, .held, .pure, .pure, .held, .pure, .make, .tail, .tail] (fun _ => ⟨fun v => v = undef, fun _ V => Blk V c4 41 CR.toArray⟩) (by kernel_rfl) ?_
    refine Z.mixY_load rfl rfl 41 (.tmp 8) rfl g8 0 rfl CR _ (fun V hV => Blk.range (RelX.blk hV K8.out (by omega))) Tryz.underlying41 rfl HSZ.out ?_
    simp only [Act.put, zD, zE, zF]
    refine Z.mixY_hrun (.int .i64 (f : Int)) rfl rfl (fun V hV => by have q := (RelX.blk hV (HC3.out.on HB.out) (by omega)).cell 0; simp only [zA, zB] at q; simp [RunsTo, execOp, go_sem, q]) ?_
    simp only [Act.put, zD, zE, zF]
    refine Z.mixY_hrun (.pointer (some ⟨g, 0, none⟩)) rfl rfl (fun V hV => by have q := (RelX.blk hV (HC2.out.on HB.out) (by omega)).cell 0; simp only [zA, zB] at q; simp [RunsTo, execOp, go_sem, q]) ?_
    simp only [Act.put, zD, zE, zF]
    repeat (refine Z.mixY_pure rfl rfl rfl (fun K hK => ?_); go_big_quiet_op; refine hK _ ?_; clear hK K)
    refine Z.mixY_hrun (.int .i64 (ev : Int)) rfl rfl (fun V hV => by have q := (RelX.blk hV (HK3.out.on HB.out) hg4).cell 7; simp only [zA, zB, zC] at q; simp [RunsTo, execOp, go_sem, q]) ?_
    simp only [Act.put, zD, zE, zF]
    repeat (refine Z.mixY_pure rfl rfl rfl (fun K hK => ?_); go_big_quiet_op; refine hK _ ?_; clear hK K)
    refine Z.mixY_make rfl rfl (fun v V U h hg => RelX.own hg h) (fun V hV _ => goes_mono (goes_storeN 41 (.tmp 4) (.tmp 30) rfl c4 0 CR.toArray rfl rfl ?_ (by rw [zM]; exact HSZ.out) HON.out) (fun v W' h => ?_)) ?_
    · have hV : RelX c4 41 CR.toArray W V := hV
      rcases hV.one with e | e
      · exact Blk.there (show Blk V c4 41 cs4 from e.trans H4.out) (by rw [Z4.out, zM, HLN.out]; decide)
      · exact Blk.there e (by rw [Nat.zero_add]; exact zL _)
    · obtain ⟨rfl, rfl⟩ := h
      have hV : RelX c4 41 CR.toArray W V := hV
      have hbk : Blk (V.setCells c4 0 CR.toArray.toList) c4 41 CR.toArray := by
        rcases hV.one with e | e
        · exact (show Blk V c4 41 cs4 from e.trans H4.out).whole CR (by rw [HLN.out, Z4.out])
        · exact e.whole CR (by rw [zM])
      have hrest := setCells_rest V c4 CR.toArray.toList 0
      exact ⟨⟨rfl, hbk⟩, ⟨hrest.1, hrest.2.1, hrest.2.2, by rw [setCells_size]; exact zL _, fun k _ hn => setCells_block _ _ _ _ _ hn, .inr hbk⟩⟩
    rintro _ rfl
    simp only [Act.put, zD, zE, zF]
    refine Z.mixY_write rfl rfl (fun v W' => ∃ W1, RelX c4 41 CR.toArray W W1 ∧ Blk W1 c4 41 CR.toArray ∧ v = undef ∧ W' = W1.setCell ⟨c4 + 1, 0, none⟩ (.int .i64 (r : Int))) (fun W1 hW1 => goes_mono (goes_store1 3 (.tmp 5) (.tmp 36) rfl (c4 + 1) 0 (.int .i64 (r : Int)) rfl (by show Value.int .i64 ((f : Int) % (ev : Int)) = _; rw [hmod]) (Blk.there (RelX.blk hW1.1 H5.out (by omega)) (by simp)) (by kernel_rfl) rfl rfl) (fun v W' h => ⟨W1, hW1.1, (hW1.2 7).2 rfl, h⟩)) ?_
    rintro v W3 ⟨W4, hg3, k4, rfl, hW3e⟩
    have j4 : Blk W3 c4 41 CR.toArray := by rw [hW3e]; exact k4.farG (by omega) 0 _
    have j5 : Blk W3 (c4 + 1) 3 #[.int .i64 (r : Int)] := by rw [hW3e]; exact (hg3.blk H5.out (by omega)).set 0 _
    have j6 : Blk W3 (c4 + 1 + 1) 28 #[.int .i64 0] := by rw [hW3e]; exact (hg3.blk H6.out (by omega)).farG (by omega) 0 _
    have jb : Below w.heap.size w W3 := by rw [hW3e]; exact bSetG (hg3.below (bTrans HB3.out HB.out) (by omega) (by have := HB3.out.size; have := HB.out.size; omega)) (by omega) 0 _
    have jf : KeepsFrom w3.heap.size W W3 := ⟨by rw [hW3e, World.size_setCell]; exact hg3.size, fun k o hk ho hc => by
      rw [hW3e]
      exact (Below.heap_setCell W4 ⟨c4 + 1, 0, none⟩ _ k (show k ≠ c4 + 1 by omega)).trans ((hg3.block k (Array.getElem?_eq_some_iff.1 ho).1 (by omega)).trans ho)⟩
    have L4 := zz j4
    have L5 := zz j5
    have L6 := zz j6
    have LB := zz jb
    have LF := zz jf
    clear j4 j5 j6 jb jf hW3e hg3 k4
    simp only [Act.put, zD, zE, zF]
    refine Z.mixY_write rfl rfl (fun v W' => ∃ W1, RelX c4 41 CR.toArray W3 W1 ∧ v = undef ∧ W' = W1.setCell ⟨c4 + 1 + 1, 0, none⟩ (.int .i64 0)) (fun W1 hW1 => goes_mono (goes_store1 28 (.tmp 6) (.const (.int .i64 0)) rfl (c4 + 1 + 1) 0 (.int .i64 0) rfl rfl (Blk.there (RelX.blk hW1.1 L6.out (by omega)) (by simp)) (by kernel_rfl) rfl rfl) (fun v W' h => ⟨W1, hW1.1, h⟩)) ?_
    rintro v W5 ⟨W6, hg5, rfl, hW5⟩
    have hg5 : RelX c4 41 CR.toArray W3 W6 := hg5
    have hs3 := LB.out.size
    have j4 : Blk W5 c4 41 CR.toArray := by rw [hW5]; exact (hg5.own L4.out).farG (by omega) 0 _
    have j5 : Blk W5 (c4 + 1) 3 #[.int .i64 (r : Int)] := by rw [hW5]; exact (hg5.blk L5.out (by omega)).farG (by omega) 0 _
    have j6 : Blk W5 (c4 + 1 + 1) 28 #[.int .i64 0] := by rw [hW5]; exact (hg5.blk L6.out (by omega)).set 0 _
    have jb : Below w.heap.size w W5 := by rw [hW5]; exact bSetG (hg5.below LB.out (by omega) hs3) (by omega) 0 _
    have jf : KeepsFrom w3.heap.size W W5 := ⟨by rw [hW5, World.size_setCell]; exact Nat.le_trans LF.out.1 hg5.size, fun k o hk ho hc => by
      rw [hW5]
      exact (Below.heap_setCell W6 ⟨c4 + 1 + 1, 0, none⟩ _ k (show k ≠ c4 + 1 + 1 by omega)).trans ((hg5.keeps LF.out (by omega)).2 k o hk ho hc)⟩
    have M4 := zz j4
    have M5 := zz j5
    have M6 := zz j6
    have MB := zz jb
    have MF := zz jf
    clear j4 j5 j6 jb jf hW5 hg5 L4 L5 L6 LB LF
    simp only [Act.put, zD, zE, zF]
    refine Z.mixY_nil ?_
    intro W7 hW7
    have hg7 : RelX c4 41 CR.toArray W5 W7 := hW7.1
    have HG7 := zz hg7
    clear hg7 hW7
    gi_wp2_with fail
    refine ⟨HG7.out.keeps MF.out (by omega), rfl, ?_, by rw [HC4.out]; exact HG7.out.blk M5.out (by omega), by rw [HC4.out]; exact HG7.out.blk M6.out (by omega), HG7.out.below MB.out (by omega) MB.out.size⟩
    rw [HCF.out, HC4.out]; exact HG7.out.own M4.out
  case done =>
    rintro D m xs W hD hS ⟨rfl, hB⟩ hK
    have hS : 0 = F + 1 - f := hS
    omega
  case stop =>
    rintro D c m xs W hD hS ⟨rfl, h4, h5, h6, hB⟩ hK
    obtain ⟨CR, hCR⟩ : ∃ CR, stCells (stT (inpT d.toNat a b) (beginS s) f) = CR := ⟨_, rfl⟩
    have hlen : CR.length = 60 := by rw [← hCR, stCells_length]
    rw [hCR] at h4
    have HCRR := zz hCR
    have H4 := zz h4
    have H5 := zz h5
    have H6 := zz h6
    have HB := zz hB
    have HLN := zz hlen
    have hWs := hB.size
    have hDs := (Array.getElem?_eq_some_iff.1 hK).1
    clear h4 h5 h6 hB hCR hlen
    gi_wp2_with fail
    refine ⟨by simp, .inl ⟨_, _, rfl, run_takeDeferred hK, ?_⟩⟩
    have hne : ∀ k, k < v2 → k ≠ D := fun k hk e => by omega
    have j4 : Blk (W.putObj D (.deferred none)) (w.heap.size + 1 + 1) 41 CR.toArray := (World.putObj_heap_other (hne _ l4)).trans H4.out
    have j5 : Blk (W.putObj D (.deferred none)) (w.heap.size + 1 + 1 + 1) 3 #[.int .i64 (r : Int)] := (World.putObj_heap_other (hne _ l5)).trans H5.out
    have j6 : Blk (W.putObj D (.deferred none)) (w.heap.size + 1 + 1 + 1 + 1) 28 #[.int .i64 0] := (World.putObj_heap_other (hne _ l6)).trans H6.out
    have hb : Below w.heap.size w (W.putObj D (.deferred none)) := HB.out.grown (grownBy_putObj' W D (.deferred none)) (by have := HB.out.size; omega) (fun k e => by cases e; have := HB3.out.size; omega)
    have hl4 : (loadVar 41 ⟨w.heap.size + 1 + 1, 0, none⟩).run Tryz.prog (W.putObj D (.deferred none)) = .ok (.agg CR.toArray) (W.putObj D (.deferred none)) := run_loadVar_mid _ _ _ _ CR _ (Blk.range j4) Tryz.underlying41 rfl (by rw [HLN.out]; kernel_rfl)
    rw [HCRR.out]
    exact ⟨_, results_ccc (a := 4) (b := 5) (c := 6) (t := 41) (t2 := 3) (t3 := 28) rfl rfl rfl rfl hl4 (load_i1 j5) (load_e1 j6), rfl, hb⟩
theorem seek_out {w : World} {base g : Nat} {s d x m : Int} {a b : List Nat} {n ev F : Nat} {ks : List (Nat → Int)} (h : DkW w base g s d x m a b n ev F ks) (f : Int) (hO : f < 0 ∨ (F : Int) < f) :
  Calls Tryz.prog 40 #[.pointer (some ⟨g, 0, none⟩), .int .i64 f] w fun e w' => e = .returned (.tuple #[.agg (stCells zeroT).toArray, .int .i64 0, .int .i64 6]) ∧ Below w.heap.size w w' := by
 obtain ⟨A, B, K, cA, cB, nK, cK, hk, -, -, -⟩ := h.blk
 obtain ⟨CZ, hcz⟩ : ∃ CZ : Array Value, (stCells zeroT).toArray = CZ := ⟨_, rfl⟩
 have hbz := built_zero
 rw [hcz] at hbz ⊢
 have HBT := zz hbz
 have hsz : CZ.size = 60 := by rw [← hcz, zM, stCells_length]
 have H1C : Hid (CZ.all (·.oneCell') = true) := zz (by rw [← hcz]; exact all_oneCell_toArray (int_one _))
 have HSZ : Hid ((Tryz.prog.info? 41).map (·.size) = some CZ.size) := zz (by rw [hsz]; kernel_rfl)
 have HSI := zz hsz
 have HK := zz hk
 clear hbz hsz hcz h hk
 refine (callsIn_wide (n := 3)).1 ?_
 refine callsIn_of_wp_marks Tryz.func40 rfl trivial ?_ rfl
 simp only [Tryz.ntmps40, zM, zH, zI, Nat.reduceAdd, Nat.reduceSub, Array.replicate_succ, Array.replicate_zero, List.push_toArray, List.append_toArray, List.nil_append, List.cons_append]
 refine wpIn_wide.2 ?_
 go_upto_region 1 with fail
 refine named5 (F := fun W => Code.wp _ _ _ _ W) ?_
 intro w1 k2 k3 k4 k5 k6 hb hz1
 have kd := HK.out.on hb
 have c2 := k2.cell 0
 have c3 := k3.cell 0
 have d8 := kd.cell 8
 simp only [zA, zB, zC] at c2 c3 d8
 have l2 := k2.lt
 have l3 := k3.lt
 have ld := kd.lt
 have K4 : Hid (∃ cs, Blk w1 (w.heap.size + 1 + 1) 41 cs ∧ cs.size = 60) := zz ⟨_, k4, rfl⟩
 have K5 := zz k5
 have K6 := zz k6
 have HB := zz hb
 clear k2 k3 k4 k5 k6 kd hz1 hb
 go_upto_region 3 with fail
 refine wp_region_mixedY [.held, .pure, .pure, .held, .held, .pure, .pure, .held, .pure, .pure, .pure] (fun _ => ⟨fun _ => True, fun _ _ => True⟩) (by kernel_rfl) (by kernel_rfl) ?_
 by_cases h1 : f < 0
 ·have g1 : decide (f < 0) = true := decide_eq_true h1
  clear hO h1
  repeat (first | (refine mixY_pure rfl rfl rfl (fun K hK => ?_); go_big_quiet_op; refine hK _ ?_; clear hK K) | (refine mixY_held rfl rfl rfl (fun K hK => ?_); go_big_quiet_op; refine hK _ ?_; clear hK K) | (refine mixY_skip rfl ?_; simp only [Act.put, zD, zE, zF]))
  refine mixY_nil ?_
  intro w2 hW
  have hb2 := hW.1
  have hb1 := bTrans HB.out hb2
  obtain ⟨Z, hBZ, hZ⟩ : ∃ Z, Blk w2 (w.heap.size + 1 + 1) 41 Z ∧ Z.size = 60 := let ⟨cs, h1, h2⟩ := K4.out; ⟨cs, h1.on hb2, h2⟩
  have HTH : Hid (w2.there (w.heap.size + 1 + 1) 0 CZ.size) := zz (by rw [HSI.out]; exact Blk.there hBZ (by rw [hZ]; decide))
  have hcl : CZ.toList.length = CZ.size := by simp
  have hwh := hBZ.whole CZ.toList (by rw [hcl, HSI.out, hZ])
  have h5 := (K5.out.on hb2).farC (show w.heap.size + 1 + 1 + 1 ≠ w.heap.size + 1 + 1 by omega) 0 CZ.toList
  have h6 := (K6.out.on hb2).farC (show w.heap.size + 1 + 1 + 1 + 1 ≠ w.heap.size + 1 + 1 by omega) 0 CZ.toList
  have hbx := bSetCells hb1 (show w.heap.size ≤ w.heap.size + 1 + 1 by omega) 0 CZ.toList
  obtain ⟨wx, hwx⟩ : ∃ wx, w2.setCells (w.heap.size + 1 + 1) 0 CZ.toList = wx := ⟨_, rfl⟩
  rw [hwx] at hwh h5 h6 hbx
  have HWX := zz hwx
  have HWH := zz hwh
  have H5 := zz h5
  have H6 := zz h6
  have HBX := zz hbx
  have f5 := h5.frozen 0
  have f6 := h6.frozen 0
  have e5 := h5.cell 0
  have e6 := h6.cell 0
  have l5 := h5.lt
  have l6 := h6.lt
  simp only [zA, zB] at e5 e6
  clear hb1 hb2 hW hZ hBZ hwx hwh h5 h6 hbx hcl
  go_wp2_with (first
   | (refine wpList_built rfl 41 [] rfl CZ [] rfl HBT.out ?_)
   | (refine wpList_store_mid rfl 41 (.tmp 4) (.tmp 24) rfl (w.heap.size + 1 + 1) 0 CZ rfl rfl HTH.out HSZ.out H1C.out ?_; rw [HWX.out]))
  have r4 := (HWH.out.farG (show w.heap.size + 1 + 1 ≠ w.heap.size + 1 + 1 + 1 by omega) 0 (.int .i64 0)).farG (show w.heap.size + 1 + 1 ≠ w.heap.size + 1 + 1 + 1 + 1 by omega) 0 (.int .i64 6)
  have r5 := (H5.out.set 0 (.int .i64 0)).farG (show w.heap.size + 1 + 1 + 1 ≠ w.heap.size + 1 + 1 + 1 + 1 by omega) 0 (.int .i64 6)
  have r6 := (H6.out.farG (show w.heap.size + 1 + 1 + 1 + 1 ≠ w.heap.size + 1 + 1 + 1 by omega) 0 (.int .i64 0)).set 0 (.int .i64 6)
  have hb := bSetG (bSetG HBX.out (show w.heap.size ≤ w.heap.size + 1 + 1 + 1 by omega) 0 (.int .i64 0)) (show w.heap.size ≤ w.heap.size + 1 + 1 + 1 + 1 by omega) 0 (.int .i64 6)
  have hl4 := run_loadVar_mid (P := Tryz.prog) _ _ 0 41 CZ.toList _ (Blk.range r4) Tryz.underlying41 rfl (by rw [zK]; exact HSZ.out)
  rw [zJ] at hl4
  exact ⟨_, results_ccc (a := 4) (b := 5) (c := 6) (t := 41) (t2 := 3) (t3 := 28) rfl rfl rfl rfl hl4 (load_i1 r5) (load_e1 r6), rfl, hb⟩
 ·have g1 : decide (f < 0) = false := decide_eq_false h1
  have g2 : decide ((F : Int) < f) = true := decide_eq_true (by omega)
  clear hO h1
  repeat (first | (refine mixY_pure rfl rfl rfl (fun K hK => ?_); go_big_quiet_op; refine hK _ ?_; clear hK K) | (refine mixY_held rfl rfl rfl (fun K hK => ?_); go_big_quiet_op; refine hK _ ?_; clear hK K) | (refine mixY_skip rfl ?_; simp only [Act.put, zD, zE, zF]))
  refine mixY_nil ?_
  intro w2 hW
  have hb2 := hW.1
  have hb1 := bTrans HB.out hb2
  obtain ⟨Z, hBZ, hZ⟩ : ∃ Z, Blk w2 (w.heap.size + 1 + 1) 41 Z ∧ Z.size = 60 := let ⟨cs, h1, h2⟩ := K4.out; ⟨cs, h1.on hb2, h2⟩
  have HTH : Hid (w2.there (w.heap.size + 1 + 1) 0 CZ.size) := zz (by rw [HSI.out]; exact Blk.there hBZ (by rw [hZ]; decide))
  have hcl : CZ.toList.length = CZ.size := by simp
  have hwh := hBZ.whole CZ.toList (by rw [hcl, HSI.out, hZ])
  have h5 := (K5.out.on hb2).farC (show w.heap.size + 1 + 1 + 1 ≠ w.heap.size + 1 + 1 by omega) 0 CZ.toList
  have h6 := (K6.out.on hb2).farC (show w.heap.size + 1 + 1 + 1 + 1 ≠ w.heap.size + 1 + 1 by omega) 0 CZ.toList
  have hbx := bSetCells hb1 (show w.heap.size ≤ w.heap.size + 1 + 1 by omega) 0 CZ.toList
  obtain ⟨wx, hwx⟩ : ∃ wx, w2.setCells (w.heap.size + 1 + 1) 0 CZ.toList = wx := ⟨_, rfl⟩
  rw [hwx] at hwh h5 h6 hbx
  have HWX := zz hwx
  have HWH := zz hwh
  have H5 := zz h5
  have H6 := zz h6
  have HBX := zz hbx
  have f5 := h5.frozen 0
  have f6 := h6.frozen 0
  have e5 := h5.cell 0
  have e6 := h6.cell 0
  have l5 := h5.lt
  have l6 := h6.lt
  simp only [zA, zB] at e5 e6
  clear hb1 hb2 hW hZ hBZ hwx hwh h5 h6 hbx hcl
  go_wp2_with (first
   | (refine wpList_built rfl 41 [] rfl CZ [] rfl HBT.out ?_)
   | (refine wpList_store_mid rfl 41 (.tmp 4) (.tmp 24) rfl (w.heap.size + 1 + 1) 0 CZ rfl rfl HTH.out HSZ.out H1C.out ?_; rw [HWX.out]))
  have r4 := (HWH.out.farG (show w.heap.size + 1 + 1 ≠ w.heap.size + 1 + 1 + 1 by omega) 0 (.int .i64 0)).farG (show w.heap.size + 1 + 1 ≠ w.heap.size + 1 + 1 + 1 + 1 by omega) 0 (.int .i64 6)
  have r5 := (H5.out.set 0 (.int .i64 0)).farG (show w.heap.size + 1 + 1 + 1 ≠ w.heap.size + 1 + 1 + 1 + 1 by omega) 0 (.int .i64 6)
  have r6 := (H6.out.farG (show w.heap.size + 1 + 1 + 1 + 1 ≠ w.heap.size + 1 + 1 + 1 by omega) 0 (.int .i64 0)).set 0 (.int .i64 6)
  have hb := bSetG (bSetG HBX.out (show w.heap.size ≤ w.heap.size + 1 + 1 + 1 by omega) 0 (.int .i64 0)) (show w.heap.size ≤ w.heap.size + 1 + 1 + 1 + 1 by omega) 0 (.int .i64 6)
  have hl4 := run_loadVar_mid (P := Tryz.prog) _ _ 0 41 CZ.toList _ (Blk.range r4) Tryz.underlying41 rfl (by rw [zK]; exact HSZ.out)
  rw [zJ] at hl4
  exact ⟨_, results_ccc (a := 4) (b := 5) (c := 6) (t := 41) (t2 := 3) (t3 := 28) rfl rfl rfl rfl hl4 (load_i1 r5) (load_e1 r6), rfl, hb⟩
end
end Go.Proofs.YtibeihcpehikoaaGreat
