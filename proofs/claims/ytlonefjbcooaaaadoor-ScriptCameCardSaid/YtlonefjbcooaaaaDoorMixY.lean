/-
  A region that draws its order: what makes may come in any order among makers, and may lean on what it waits for has told (a slice that is read again, say); behind what writes the world that it leaves is the new base.
-/
import Derived.Test.YtlonefjbcooaaaaDoorMixU
namespace Go.Proofs.YtlonefjbcooaaaaDoor
open Go.RowKit
section
variable {P : Program} {ops : Array Oper} {md : Region.Mode} {kd : Nat → Kd} {sp : Nat → Told}
/-- What is told of each operation. -/
abbrev Facts := Nat → World → Prop
def AllF (w : World) (F : Facts) (W : World) : Prop := Grown w W ∧ ∀ i, F i W
def updF (F : Facts) (i : Nat) (R : World → Prop) : Facts := fun n W => F n W ∧ (n = i → R W)
def StabF (F : Facts) : Prop := ∀ i W U, F i W → Grown W U → F i U
structure OkF (w : World) (F : Facts) : Prop where
  some_ : ∃ W, AllF w F W
  stab : StabF F
theorem updF_ne {F : Facts} {i n : Nat} {R : World → Prop} (h : n ≠ i) : updF F i R n = F n := by
  funext W; exact propext ⟨fun k => k.1, fun k => ⟨k, fun e => absurd e h⟩⟩
theorem updF_comm {F : Facts} {i j : Nat} {A B : World → Prop} : updF (updF F i A) j B = updF (updF F j B) i A := by
  funext n W; exact propext ⟨fun ⟨⟨a, b⟩, c⟩ => ⟨⟨a, c⟩, b⟩, fun ⟨⟨a, b⟩, c⟩ => ⟨⟨a, c⟩, b⟩⟩
theorem AllF.upd {w W W' : World} {F : Facts} {i : Nat} {R : World → Prop} (h : AllF w F W) (hs : StabF F) (hg : Grown W W') (hR : R W') : AllF w (updF F i R) W' := ⟨h.1.trans hg, fun n => ⟨hs n W W' (h.2 n) hg, fun _ => hR⟩⟩
theorem AllF.told {w W : World} {F : Facts} {i : Nat} {R : World → Prop} (h : AllF w (updF F i R) W) : R W := (h.2 i).2 rfl
theorem AllF.before {w W : World} {F : Facts} {i : Nat} {R : World → Prop} (h : AllF w (updF F i R) W) : AllF w F W := ⟨h.1, fun n => (h.2 n).1⟩
theorem StabF.upd {F : Facts} {i : Nat} {R : World → Prop} (hs : StabF F) (hR : ∀ W U, R W → Grown W U → R U) : StabF (updF F i R) := fun n W U h hg => ⟨hs n W U h.1 hg, fun e => hR W U (h.2 e) hg⟩
theorem OkF.none (w : World) : OkF w (fun _ _ => True) := ⟨⟨w, Grown.refl w, fun _ => trivial⟩, fun _ _ _ _ _ => trivial⟩
def yStep (P : Program) (md : Region.Mode) (ops : Array Oper) (kd : Nat → Kd) (sp : Nat → Told) (o : Oper) (i : Nat) (K : Act → World → Facts → Prop) (a : Act) (w : World) (F : Facts) : Prop :=
  if Region.wanted o (yielded ops a.tmps) = true then
    match kd i with
    | .pure => ∃ v, (∀ W, RunsTo P o a W v) ∧ K (a.put o.dst v) w F
    | .held => ∃ v, (∀ W, Grown w W → RunsTo P o a W v) ∧ K (a.put o.dst v) w F
    | .make => (∀ v W U, (sp i).R v W → Grown W U → (sp i).R v U) ∧ (∀ W, Grown w W → (∀ n, waitsM md ops i n = true → F n W) → Oper.goes P o a W (fun u W' => ((sp i).S u ∧ (sp i).R u W') ∧ Grown W W')) ∧ ∀ v, (sp i).S v → OkF w (updF F i ((sp i).R v)) → K (a.put o.dst v) w (updF F i ((sp i).R v))
    | .tail => ∃ T : Value → World → Prop, (∀ W, AllF w F W → Oper.goes P o a W T) ∧ ∀ v W', T v W' → K (a.put o.dst v) W' (fun _ _ => True)
  else K (a.put o.dst undef) w F
def yOp (P : Program) (md : Region.Mode) (ops : Array Oper) (kd : Nat → Kd) (sp : Nat → Told) (i : Nat) (K : Act → World → Facts → Prop) (a : Act) (w : World) (F : Facts) : Prop :=
  match ops[i]? with
  | none => K a w F
  | some o => yStep P md ops kd sp o i K a w F
theorem yStep_mono {o : Oper} {i : Nat} {a : Act} {w : World} {F : Facts} {K K' : Act → World → Facts → Prop} (hne : OkF w F) (h : ∀ a w F, OkF w F → K a w F → K' a w F) (hh : yStep P md ops kd sp o i K a w F) : yStep P md ops kd sp o i K' a w F := by
  unfold yStep at *
  split
  · rename_i hw
    rw [if_pos hw] at hh
    cases hk : kd i <;> rw [hk] at hh <;> simp only at hh ⊢
    · obtain ⟨v, h1, h2⟩ := hh; exact ⟨v, h1, h _ _ _ hne h2⟩
    · obtain ⟨v, h1, h2⟩ := hh; exact ⟨v, h1, h _ _ _ hne h2⟩
    · obtain ⟨h0, h1, h2⟩ := hh; exact ⟨h0, h1, fun v hv hn => h _ _ _ hn (h2 v hv hn)⟩
    · obtain ⟨T, h1, h2⟩ := hh; exact ⟨T, h1, fun v W' ht => h _ _ _ (OkF.none W') (h2 v W' ht)⟩
  · rename_i hw; rw [if_neg hw] at hh; exact h _ _ _ hne hh
theorem yOp_mono {i : Nat} {a : Act} {w : World} {F : Facts} {K K' : Act → World → Facts → Prop} (hne : OkF w F) (h : ∀ a w F, OkF w F → K a w F → K' a w F) (hh : yOp P md ops kd sp i K a w F) : yOp P md ops kd sp i K' a w F := by
  unfold yOp at *
  split
  · rename_i ho; simp only [ho] at hh; exact h _ _ _ hne hh
  · rename_i o ho; simp only [ho] at hh; exact yStep_mono hne h hh
/-- A make from the worlds at hand gives worlds at hand. -/
theorem make_some {o : Oper} {i : Nat} {a : Act} {w : World} {F : Facts} (hne : OkF w F) (hst : ∀ v W U, (sp i).R v W → Grown W U → (sp i).R v U) (hM : ∀ W, Grown w W → (∀ n, waitsM md ops i n = true → F n W) → Oper.goes P o a W (fun u W' => ((sp i).S u ∧ (sp i).R u W') ∧ Grown W W')) : ∃ v, (sp i).S v ∧ OkF w (updF F i ((sp i).R v)) := by
  obtain ⟨W, hW⟩ := hne.some_
  obtain ⟨v, W', ⟨hs, hr⟩, hg⟩ := goes_some (hM W hW.1 (fun n _ => hW.2 n))
  exact ⟨v, hs, ⟨W', hW.upd hne.stab hg hr⟩, hne.stab.upd (hst v)⟩
theorem yStep_some {o : Oper} {i : Nat} {a : Act} {w : World} {F : Facts} {K : Act → World → Facts → Prop} (hne : OkF w F) (hh : yStep P md ops kd sp o i K a w F) : ∃ a' w' F', OkF w' F' ∧ K a' w' F' := by
  unfold yStep at hh
  split at hh
  · cases hk : kd i <;> rw [hk] at hh <;> simp only at hh
    · obtain ⟨v, -, h2⟩ := hh; exact ⟨_, _, _, hne, h2⟩
    · obtain ⟨v, -, h2⟩ := hh; exact ⟨_, _, _, hne, h2⟩
    · obtain ⟨h0, h1, h2⟩ := hh
      obtain ⟨v, hs, hn⟩ := make_some hne h0 h1
      exact ⟨_, _, _, hn, h2 v hs hn⟩
    · obtain ⟨T, h1, h2⟩ := hh
      obtain ⟨W, hW⟩ := hne.some_
      obtain ⟨v, W', ht⟩ := goes_some (h1 W hW)
      exact ⟨_, _, _, OkF.none W', h2 v W' ht⟩
  · exact ⟨_, _, _, hne, hh⟩
/-- Which kinds may come in either order. -/
def swapY (a b : Kd) : Bool := match a, b with
  | .pure, _ => true
  | _, .pure => true
  | .tail, _ => false
  | _, .tail => false
  | _, _ => true
theorem yStep_swap {i j : Nat} {oi oj : Oper} (nij : waitsM md ops i j = false) (nji : waitsM md ops j i = false) (hap : oi.apart ops oj = true) (hsi : ∀ cs b, oi.op ≠ .select cs b) (hsj : ∀ cs b, oj.op ≠ .select cs b) (hk : swapY (kd i) (kd j) = true) {K : Act → World → Facts → Prop} {a : Act} {w : World} {F : Facts} (hne : OkF w F)
    (h : yStep P md ops kd sp oi i (fun a1 w1 D1 => yStep P md ops kd sp oj j K a1 w1 D1) a w F) : yStep P md ops kd sp oj j (fun a2 w2 D2 => yStep P md ops kd sp oi i K a2 w2 D2) a w F := by
  have fi : ∀ (R : World → Prop) (n : Nat), waitsM md ops i n = true → updF F j R n = F n := fun R n hn => updF_ne (fun e => by rw [e, nij] at hn; cases hn)
  have fj : ∀ (R : World → Prop) (n : Nat), waitsM md ops j n = true → updF F i R n = F n := fun R n hn => updF_ne (fun e => by rw [e, nji] at hn; cases hn)
  obtain ⟨h1, h2, h3⟩ := Oper.apart_spec hap
  have ei : ∀ (a : Act) u, execOp (a.put oj.dst u).eval oi = execOp a.eval oi := fun a u => execOp_put oi hsi a oj.dst u h3
  have ej : ∀ (a : Act) u, execOp (a.put oi.dst u).eval oj = execOp a.eval oj := fun a u => execOp_put oj hsj a oi.dst u h1
  have wi : ∀ (a : Act) u, Region.wanted oi (yielded ops (a.put oj.dst u).tmps) = Region.wanted oi (yielded ops a.tmps) := fun a u => wanted_put oi a oj.dst u h3
  have wj : ∀ (a : Act) u, Region.wanted oj (yielded ops (a.put oi.dst u).tmps) = Region.wanted oj (yielded ops a.tmps) := fun a u => wanted_put oj a oi.dst u h1
  have pc : ∀ (a : Act) u v, (a.put oi.dst u).put oj.dst v = (a.put oj.dst v).put oi.dst u := fun a u v => Act.put_comm a u v h2
  have ri : ∀ (a : Act) u W v, RunsTo P oi (a.put oj.dst u) W v ↔ RunsTo P oi a W v := fun a u W v => by unfold RunsTo; rw [ei]
  have rj : ∀ (a : Act) u W v, RunsTo P oj (a.put oi.dst u) W v ↔ RunsTo P oj a W v := fun a u W v => by unfold RunsTo; rw [ej]
  have gi : ∀ (a : Act) u W T, Oper.goes P oi (a.put oj.dst u) W T ↔ Oper.goes P oi a W T := fun a u W T => by unfold Oper.goes; rw [ei]
  have gj : ∀ (a : Act) u W T, Oper.goes P oj (a.put oi.dst u) W T ↔ Oper.goes P oj a W T := fun a u W T => by unfold Oper.goes; rw [ej]
  unfold yStep at h ⊢
  simp only [wi, wj, ri, rj, gi, gj] at h ⊢
  by_cases hwi : Region.wanted oi (yielded ops a.tmps) = true
  · by_cases hwj : Region.wanted oj (yielded ops a.tmps) = true
    · simp only [hwi, hwj, if_true] at h ⊢
      cases hki : kd i <;> cases hkj : kd j <;> rw [hki, hkj] at hk <;> simp only [hki, hkj] at h ⊢
      case tail.tail => simp [swapY] at hk
      case tail.held => simp [swapY] at hk
      case tail.make => simp [swapY] at hk
      case held.tail => simp [swapY] at hk
      case make.tail => simp [swapY] at hk
      case pure.pure =>
        obtain ⟨v, hv, u, hu, hK⟩ := h
        exact ⟨u, hu, v, hv, by rw [← pc]; exact hK⟩
      case pure.held =>
        obtain ⟨v, hv, u, hu, hK⟩ := h
        exact ⟨u, hu, v, hv, by rw [← pc]; exact hK⟩
      case pure.make =>
        obtain ⟨v, hv, hst, hM, hK⟩ := h
        exact ⟨hst, hM, fun u hu hn => ⟨v, hv, by rw [← pc]; exact hK u hu hn⟩⟩
      case pure.tail =>
        obtain ⟨v, hv, T, hg, hK⟩ := h
        exact ⟨T, hg, fun u W' hu => ⟨v, hv, by rw [← pc]; exact hK u W' hu⟩⟩
      case held.pure =>
        obtain ⟨v, hv, u, hu, hK⟩ := h
        exact ⟨u, hu, v, hv, by rw [← pc]; exact hK⟩
      case held.held =>
        obtain ⟨v, hv, u, hu, hK⟩ := h
        exact ⟨u, hu, v, hv, by rw [← pc]; exact hK⟩
      case held.make =>
        obtain ⟨v, hv, hst, hM, hK⟩ := h
        exact ⟨hst, hM, fun u hu hn => ⟨v, hv, by rw [← pc]; exact hK u hu hn⟩⟩
      case make.pure =>
        obtain ⟨hst, hM, hK⟩ := h
        obtain ⟨v0, hs0, hn0⟩ := make_some hne hst hM
        obtain ⟨u, hu, -⟩ := hK v0 hs0 hn0
        refine ⟨u, hu, hst, hM, fun v hv hn => ?_⟩
        obtain ⟨u', hu', hK'⟩ := hK v hv hn
        have : u' = u := runsTo_uniq (hu' w) (hu w)
        subst this
        rw [← pc]; exact hK'
      case make.held =>
        obtain ⟨hst, hM, hK⟩ := h
        obtain ⟨v0, hs0, hn0⟩ := make_some hne hst hM
        obtain ⟨u, hu, -⟩ := hK v0 hs0 hn0
        refine ⟨u, hu, hst, hM, fun v hv hn => ?_⟩
        obtain ⟨u', hu', hK'⟩ := hK v hv hn
        have : u' = u := runsTo_uniq (hu' w (Grown.refl w)) (hu w (Grown.refl w))
        subst this
        rw [← pc]; exact hK'
      case make.make =>
        obtain ⟨hst, hM, hK⟩ := h
        obtain ⟨v0, hs0, hn0⟩ := make_some hne hst hM
        obtain ⟨hst2, hM2, -⟩ := hK v0 hs0 hn0
        refine ⟨hst2, fun W hW hF => hM2 W hW (fun n hn => by rw [fj _ n hn]; exact hF n hn), fun u hu hn => ⟨hst, fun W hW hF => hM W hW (fun n hn => by have := hF n hn; rw [fi _ n hn] at this; exact this), fun v hv hn2 => ?_⟩⟩
        rw [updF_comm] at hn2 ⊢
        have hn1 : OkF w (updF F i ((sp i).R v)) := by
          obtain ⟨W, hW⟩ := hn2.some_
          exact ⟨⟨W, hW.before⟩, hne.stab.upd (hst v)⟩
        have := (hK v hv hn1).2.2 u hu hn2
        rw [← pc]
        exact this
      case tail.pure =>
        obtain ⟨T, hg, hK⟩ := h
        obtain ⟨W, hW⟩ := hne.some_
        obtain ⟨v0, W', ht0⟩ := goes_some (hg W hW)
        obtain ⟨u, hu, -⟩ := hK v0 W' ht0
        refine ⟨u, hu, T, hg, fun v W2 ht => ?_⟩
        obtain ⟨u', hu', hK'⟩ := hK v W2 ht
        have : u' = u := runsTo_uniq (hu' W) (hu W)
        subst this
        rw [← pc]; exact hK'
    · simp only [hwi, hwj, if_true, Bool.false_eq_true, if_false] at h ⊢
      cases hki : kd i <;> simp only [hki] at h ⊢
      · obtain ⟨v, hv, hK⟩ := h; exact ⟨v, hv, by rw [← pc]; exact hK⟩
      · obtain ⟨v, hv, hK⟩ := h; exact ⟨v, hv, by rw [← pc]; exact hK⟩
      · obtain ⟨hst, hM, hK⟩ := h; exact ⟨hst, hM, fun v hv hn => by rw [← pc]; exact hK v hv hn⟩
      · obtain ⟨T, hg, hK⟩ := h; exact ⟨T, hg, fun v W' ht => by rw [← pc]; exact hK v W' ht⟩
  · by_cases hwj : Region.wanted oj (yielded ops a.tmps) = true
    · simp only [hwi, hwj, if_true, Bool.false_eq_true, if_false] at h ⊢
      cases hkj : kd j <;> simp only [hkj] at h ⊢
      · obtain ⟨v, hv, hK⟩ := h; exact ⟨v, hv, by rw [← pc]; exact hK⟩
      · obtain ⟨v, hv, hK⟩ := h; exact ⟨v, hv, by rw [← pc]; exact hK⟩
      · obtain ⟨hst, hM, hK⟩ := h; exact ⟨hst, hM, fun v hv hn => by rw [← pc]; exact hK v hv hn⟩
      · obtain ⟨T, hg, hK⟩ := h; exact ⟨T, hg, fun v W' ht => by rw [← pc]; exact hK v W' ht⟩
    · simp only [hwi, hwj, Bool.false_eq_true, if_false] at h ⊢
      rw [← pc]; exact h
def wpAnyY (P : Program) (md : Region.Mode) (ops : Array Oper) (kd : Nat → Kd) (sp : Nat → Told) (E : Act → World → Facts → Prop) : Nat → Array Bool → Act → World → Facts → Prop
  | 0, listed, a, w, D => Region.ready md ops listed = [] ∧ E a w D
  | f + 1, listed, a, w, D => (Region.ready md ops listed = [] → E a w D) ∧ ∀ i ∈ Region.ready md ops listed, yOp P md ops kd sp i (wpAnyY P md ops kd sp E f (listed.setIfInBounds i true)) a w D
theorem wpOp_of_yOp {i : Nat} {a : Act} {w : World} {F : Facts} {K : Act → World → Facts → Prop} {K' : Act → World → Prop} {Q' : Exit → Act → World → Prop} {W : World} (hne : OkF w F) (hW : AllF w F W)
    (h : ∀ a w F W', OkF w F → AllF w F W' → K a w F → K' a W') (hh : yOp P md ops kd sp i K a w F) : wpOp P ops Q' i K' a W := by
  unfold yOp at hh
  unfold wpOp
  split
  · rename_i ho; simp only [ho] at hh; exact h _ _ _ _ hne hW hh
  · rename_i o ho
    simp only [ho] at hh
    unfold yStep at hh
    split
    · rename_i hw
      rw [if_pos hw] at hh
      left
      cases hk : kd i <;> rw [hk] at hh <;> simp only at hh
      · obtain ⟨v, h1, h2⟩ := hh
        have h1 := h1 W
        unfold RunsTo at h1
        unfold Oper.wp
        rw [h1]
        exact h _ _ _ _ hne hW h2
      · obtain ⟨v, h1, h2⟩ := hh
        have h1 := h1 W hW.1
        unfold RunsTo at h1
        unfold Oper.wp
        rw [h1]
        exact h _ _ _ _ hne hW h2
      · obtain ⟨hst, hM, hK⟩ := hh
        exact Oper.wp_of_goes (hM W hW.1 (fun n _ => hW.2 n)) fun v W' ⟨⟨hs, hr⟩, hg⟩ => have hn := hW.upd (i := i) hne.stab hg hr; have ho : OkF w (updF F i ((sp i).R v)) := ⟨⟨W', hn⟩, hne.stab.upd (hst v)⟩; h _ _ _ W' ho hn (hK v hs ho)
      · obtain ⟨T, hg, hK⟩ := hh
        exact Oper.wp_of_goes (hg W hW) fun v W' ht => h _ _ _ W' (OkF.none W') ⟨Grown.refl W', fun _ => trivial⟩ (hK v W' ht)
    · rename_i hw; rw [if_neg hw] at hh; exact h _ _ _ _ hne hW hh
theorem wpAny_of_Y {Q : Exit → Act → World → Prop} : ∀ (f : Nat) (listed : Array Bool) (a : Act) (w : World) (F : Facts) (W : World), OkF w F → AllF w F W → wpAnyY P md ops kd sp (fun a w F => ∀ W, AllF w F W → Q .normal a W) f listed a w F → wpAny P md ops Q f listed a W
  | 0, _, _, _, _, _, _, hW, h => ⟨h.1, h.2 _ hW⟩
  | f + 1, _, _, _, _, _, hne, hW, h => ⟨fun h0 => h.1 h0 _ hW, fun i hi => wpOp_of_yOp hne hW (fun a' w' D' W' hn' hW' h' => wpAny_of_Y f _ a' w' D' W' hn' hW' h') (h.2 i hi)⟩
theorem wpAnyY_first {E : Act → World → Facts → Prop} {i : Nat} {oi : Oper} (hi : ops[i]? = some oi) (hsel : ∀ (j : Nat) (o : Oper) cs b, ops[j]? = some o → o.op ≠ .select cs b)
    (hsw : ∀ j, j < ops.size → j ≠ i → swapY (kd i) (kd j) = false → waitsM md ops j i = true ∨ waitsM md ops i j = true) :
    ∀ (f : Nat) (listed : Array Bool) (a : Act) (w : World) (F : Facts), OkF w F → Closed md ops listed →
      (∀ j oj, ops[j]? = some oj → j ≠ i → listed.getD j true = false → (∀ e ∈ oj.after, Region.binds md e = true → e.on ≠ i) → oi.apart ops oj = true) →
      i ∈ Region.ready md ops listed → yOp P md ops kd sp i (wpAnyY P md ops kd sp E f (listed.setIfInBounds i true)) a w F → wpAnyY P md ops kd sp E (f + 1) listed a w F := by
  intro f
  induction f with
  | zero =>
    intro listed a w D hne _ _ hr H
    refine ⟨fun h => (by rw [h] at hr; cases hr), fun j hj => ?_⟩
    by_cases hji : j = i
    · subst hji; exact H
    · unfold yOp at H
      rw [hi] at H
      obtain ⟨a', w', D', -, h0, -⟩ := yStep_some hne H
      have := ready_mono hj hji
      rw [h0] at this; cases this
  | succ f ih =>
    intro listed a w D hne hcl hfree hr H
    refine ⟨fun h => (by rw [h] at hr; cases hr), fun j hj => ?_⟩
    by_cases hji : j = i
    · subst hji; exact H
    · obtain ⟨hjun, oj, hoj, hall⟩ := mem_ready.1 hj
      have hun := (mem_ready.1 hr).1
      have hnot : ∀ e ∈ oj.after, Region.binds md e = true → e.on ≠ i := fun e he hb heq => by
        have h1 := hall e he hb
        rw [heq, getD_both hun] at h1
        cases h1
      have hap := hfree j oj hoj hji hjun hnot
      have hswap : swapY (kd i) (kd j) = true := by
        cases hs : swapY (kd i) (kd j) with
        | true => rfl
        | false =>
          rcases hsw j (Array.getElem?_eq_some_iff.1 hoj).1 hji hs with h1 | h1
          · have h2 := waitsM_ready hcl hj h1
            rw [getD_both hun] at h2; cases h2
          · have h2 := waitsM_ready hcl hr h1
            rw [getD_both hjun] at h2; cases h2
      have hfree' : ∀ k ok, ops[k]? = some ok → k ≠ i → (listed.setIfInBounds j true).getD k true = false →
          (∀ e ∈ ok.after, Region.binds md e = true → e.on ≠ i) → oi.apart ops ok = true := fun k ok hk hki hun' hno => by
        refine hfree k ok hk hki ?_ hno
        by_cases hjk : j = k
        · subst hjk; exact hjun
        · rw [getD_set_ne true hjk] at hun'; exact hun'
      have hri := ready_mono hr (Ne.symm hji)
      unfold yOp at H
      rw [hi] at H
      have H2 : yStep P md ops kd sp oi i (fun a1 w1 D1 => yStep P md ops kd sp oj j (wpAnyY P md ops kd sp E f ((listed.setIfInBounds i true).setIfInBounds j true)) a1 w1 D1) a w D :=
        yStep_mono hne (fun a1 w1 D1 _ hK => by
          have := hK.2 j (ready_mono hj hji)
          unfold yOp at this
          rw [hoj] at this
          exact this) H
      have nji : waitsM md ops j i = false := by
        cases hs : waitsM md ops j i with
        | false => rfl
        | true => have h2 := waitsM_ready hcl hj hs; rw [getD_both hun] at h2; cases h2
      have nij : waitsM md ops i j = false := by
        cases hs : waitsM md ops i j with
        | false => rfl
        | true => have h2 := waitsM_ready hcl hr hs; rw [getD_both hjun] at h2; cases h2
      have H3 := yStep_swap nij nji hap (fun cs b => hsel i oi cs b hi) (fun cs b => hsel j oj cs b hoj) hswap hne H2
      unfold yOp
      rw [hoj]
      refine yStep_mono hne (fun a2 w2 D2 hne2 h3 => ih (listed.setIfInBounds j true) a2 w2 D2 hne2 (hcl.set hj) hfree' hri ?_) H3
      unfold yOp
      rw [hi, Array.setIfInBounds_comm _ _ hji]
      exact h3
def wpMixY (P : Program) (md : Region.Mode) (ops : Array Oper) (kd : Nat → Kd) (sp : Nat → Told) (E : Act → World → Facts → Prop) : List Oper → Nat → Act → World → Facts → Prop
  | [], _, a, w, D => E a w D
  | o :: rest, k, a, w, D => yStep P md ops kd sp o k (wpMixY P md ops kd sp E rest (k + 1)) a w D
def mixYB (md : Region.Mode) (ops : Array Oper) (kd : Nat → Kd) : Bool :=
  Region.lexB md ops && (List.range ops.size).all fun i => (List.range ops.size).all fun j => decide (j = i) || (swapY (kd i) (kd j) || (waitsM md ops j i || waitsM md ops i j))
theorem wpAnyY_lex {E : Act → World → Facts → Prop} (hs : Region.noSelect ops = true) (hsw : ∀ i j, i < ops.size → j < ops.size → j ≠ i → swapY (kd i) (kd j) = false → waitsM md ops j i = true ∨ waitsM md ops i j = true) :
    ∀ (l : List Oper) (k : Nat) (listed : Array Bool) (a : Act) (w : World) (F : Facts), OkF w F → Closed md ops listed → (∀ j, l[j]? = ops[k + j]?) →
    Region.lexFrom md ops l.length k listed = true → wpMixY P md ops kd sp E l k a w F → wpAnyY P md ops kd sp E l.length listed a w F
  | [], _, _, _, _, _, _, _, _, hB, h => ⟨by simpa [Region.lexFrom] using hB, h⟩
  | o :: l, k, listed, a, w, D, hne, hcl, hl, hB, h => by
    have h0 : ops[k]? = some o := by simpa using (hl 0).symm
    simp only [List.length_cons, Region.lexFrom, Bool.and_eq_true] at hB
    obtain ⟨⟨hr, hf⟩, hB'⟩ := hB
    have hk : k < ops.size := (Array.getElem?_eq_some_iff.1 h0).1
    refine wpAnyY_first h0 (Region.noSelect_spec hs) (fun j hjl hj hsw' => hsw k j hk hjl hj hsw') l.length listed a w D hne hcl (Region.free_spec h0 hf) (by simpa using hr) ?_
    unfold yOp
    rw [h0]
    exact yStep_mono hne (fun a' w' D' hne' h' => wpAnyY_lex hs hsw l (k + 1) _ a' w' D' hne' (hcl.set (by simpa using hr)) (fun j => by have := hl (j + 1); simpa [Nat.add_assoc, Nat.add_comm 1 j] using this) hB' h') h
/-- **The law**, before it is a region. -/
theorem any_mixedY {Q : Exit → Act → World → Prop} {a : Act} {w : World} {l : List Oper} (kds : List Kd) (sp : Nat → Told) (hB : mixYB .any l.toArray (fun i => kds.getD i .pure) = true)
    (h : wpMixY P .any l.toArray (fun i => kds.getD i .pure) sp (fun a w F => ∀ W, AllF w F W → Q .normal a W) l 0 a w (fun _ _ => True)) : wpAny P .any l.toArray Q l.toArray.size (Array.replicate l.toArray.size false) a { w with drawn := w.drawn + 1 } := by
  simp only [mixYB, Bool.and_eq_true] at hB
  obtain ⟨hlex, hall⟩ := hB
  simp only [Region.lexB, Bool.and_eq_true] at hlex
  have hg0 : Grown w { w with drawn := w.drawn + 1 } := (Below.refl _ _).drew
  refine (wpAny_of_Y (kd := fun i => kds.getD i .pure) (sp := sp) _ _ _ w (fun _ _ => True) _ (OkF.none w) ⟨hg0, fun _ => trivial⟩ ?_)
  have := wpAnyY_lex (P := P) (md := .any) (kd := fun i => kds.getD i .pure) (sp := sp) (E := fun a w F => ∀ W, AllF w F W → Q .normal a W) hlex.1 (fun i j hi hjl hj hs => by
    have h1 := List.all_eq_true.1 (List.all_eq_true.1 hall i (List.mem_range.2 hi)) j (List.mem_range.2 hjl)
    simp only [Bool.or_eq_true, decide_eq_true_eq] at h1
    rcases h1 with h1 | h1 | h1 | h1
    · exact absurd h1 hj
    · rw [hs] at h1; cases h1
    · exact .inl h1
    · exact .inr h1) l 0 (Array.replicate l.toArray.size false) a w (fun _ _ => True) (OkF.none w) (Closed.none _ _ _) (by simp) (by simpa using hlex.2) h
  simpa using this
theorem wp_region_mixedY {id : Nat} {Q : Exit → Act → World → Prop} {a : Act} {w : World} {l : List Oper} (kds : List Kd) (sp : Nat → Told) (hm : P.follows .mixedOrders = true) (hB : mixYB .any l.toArray (fun i => kds.getD i .pure) = true)
    (h : wpMixY P .any l.toArray (fun i => kds.getD i .pure) sp (fun a w F => ∀ W, AllF w F W → Q .normal a W) l 0 a w (fun _ _ => True)) : (Code.region id l.toArray true).wp P Q a w :=
  wp_region_any hm (any_mixedY kds sp hB h)
/-! ### the walk's steps -/
section
variable {E : Act → World → Facts → Prop} {a : Act} {o : Oper} {rest : List Oper} {k : Nat} {w : World} {F : Facts}
theorem mixY_skip (hw : Region.wanted o (yielded ops a.tmps) = false) (h : wpMixY P md ops kd sp E rest (k + 1) (a.put o.dst undef) w F) : wpMixY P md ops kd sp E (o :: rest) k a w F := by
  unfold wpMixY yStep
  rw [if_neg (by rw [hw]; decide)]
  exact h
theorem mixY_pure (hw : Region.wanted o (yielded ops a.tmps) = true) (hk : kd k = .pure) (hp : valOp o.op = true)
    (h : ∀ K : Act → Prop, (∀ a, wpMixY P md ops kd sp E rest (k + 1) a w F → K a) → o.quiet P a (fun _ => True) K) : wpMixY P md ops kd sp E (o :: rest) k a w F := by
  unfold wpMixY yStep
  rw [if_pos hw, hk]
  obtain ⟨v, h1, h2⟩ := h _ fun _ h => h
  exact ⟨v, fun W => runs_of_quiet hp (h1 W trivial), h2⟩
theorem mixY_held (hw : Region.wanted o (yielded ops a.tmps) = true) (hk : kd k = .held) (hp : valOp o.op = true)
    (h : ∀ K : Act → Prop, (∀ a, wpMixY P md ops kd sp E rest (k + 1) a w F → K a) → o.quiet P a (fun w' => ∃ x : Ext w, w' = x.world) K) : wpMixY P md ops kd sp E (o :: rest) k a w F := by
  unfold wpMixY yStep
  rw [if_pos hw, hk]
  obtain ⟨v, h1, h2⟩ := h _ fun _ h => h
  exact ⟨v, fun W hW => runs_of_quiet hp (h1 W ⟨⟨W, hW⟩, rfl⟩), h2⟩
theorem mixY_load (hw : Region.wanted o (yielded ops a.tmps) = true) (hk : kd k = .held) (ty : TypeId) (x : Operand) (ho : o.op = .load ty x)
    (b i : Nat) (hx : a.eval x = .pointer (some ⟨b, i, none⟩)) (cs : List Value) (d : TypeDesc) (hb : b < w.heap.size) (hc : w.rangeAt b i cs)
    (hu : P.underlying ty = some d) (hd : d.isRow = true) (hi : (P.info? ty).map (·.size) = some cs.length)
    (h : wpMixY P md ops kd sp E rest (k + 1) (a.put o.dst (.agg cs.toArray)) w F) : wpMixY P md ops kd sp E (o :: rest) k a w F := by
  unfold wpMixY yStep
  rw [if_pos hw, hk]
  refine ⟨_, fun W hW => ?_, h⟩
  have hc' : W.rangeAt b i cs := fun j v hv => (Below.cell (p := ⟨b, i + j, none⟩) hW hb).trans (hc j v hv)
  unfold RunsTo execOp
  simp only [ho, hx, Instr.loadAt, Instr.sureAddr, Sem.run_bind, Sem.run_pure, Result.andThen_ok, run_loadVar_mid W b i ty cs d hc' hu hd hi]
/-- What makes: it may lean on what it waits for has told. -/
theorem mixY_make (hw : Region.wanted o (yielded ops a.tmps) = true) (hk : kd k = .make) (hst : ∀ v W U, (sp k).R v W → Grown W U → (sp k).R v U)
    (hM : ∀ W, Grown w W → (∀ n, waitsM md ops k n = true → F n W) → Oper.goes P o a W (fun u W' => ((sp k).S u ∧ (sp k).R u W') ∧ Grown W W'))
    (h : ∀ v, (sp k).S v → wpMixY P md ops kd sp E rest (k + 1) (a.put o.dst v) w (updF F k ((sp k).R v))) : wpMixY P md ops kd sp E (o :: rest) k a w F := by
  unfold wpMixY yStep
  rw [if_pos hw, hk]
  exact ⟨hst, hM, fun v hv _ => h v hv⟩
/-- What writes: the world that it leaves is the new base. -/
theorem mixY_write (hw : Region.wanted o (yielded ops a.tmps) = true) (hk : kd k = .tail) (T : Value → World → Prop) (hM : ∀ W, AllF w F W → Oper.goes P o a W T)
    (h : ∀ v W', T v W' → wpMixY P md ops kd sp E rest (k + 1) (a.put o.dst v) W' (fun _ _ => True)) : wpMixY P md ops kd sp E (o :: rest) k a w F := by
  unfold wpMixY yStep
  rw [if_pos hw, hk]
  exact ⟨T, hM, h⟩
theorem mixY_run (v : Value) (hw : Region.wanted o (yielded ops a.tmps) = true) (hk : kd k = .pure) (hr : ∀ W, RunsTo P o a W v) (h : wpMixY P md ops kd sp E rest (k + 1) (a.put o.dst v) w F) : wpMixY P md ops kd sp E (o :: rest) k a w F := by
  unfold wpMixY yStep
  rw [if_pos hw, hk]
  exact ⟨v, hr, h⟩
theorem mixY_hrun (v : Value) (hw : Region.wanted o (yielded ops a.tmps) = true) (hk : kd k = .held) (hr : ∀ W, Grown w W → RunsTo P o a W v) (h : wpMixY P md ops kd sp E rest (k + 1) (a.put o.dst v) w F) : wpMixY P md ops kd sp E (o :: rest) k a w F := by
  unfold wpMixY yStep
  rw [if_pos hw, hk]
  exact ⟨v, hr, h⟩
theorem mixY_nil (h : E a w F) : wpMixY P md ops kd sp E [] k a w F := h
end
end
end Go.Proofs.YtlonefjbcooaaaaDoor
