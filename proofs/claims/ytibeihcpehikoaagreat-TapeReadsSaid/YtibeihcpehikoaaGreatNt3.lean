/-
  The walks beneath: MixY, TapI, RgSc, RgSb, TrFb, Str.
-/
import Derived.Deep.CutBlock
import Derived.Deep.DeepCutAuto
import Derived.Test.YtibeihcpehikoaaGreatNs6
import Derived.Test.YtibeihcpehikoaaGreatNt1
import Derived.Test.YtibeihcpehikoaaGreatNr39
import Derived.Test.YtibeihcpehikoaaGreatNs1
import Derived.Test.YtibeihcpehikoaaGreatNs4
import Derived.Test.YtibeihcpehikoaaGreatNs7
import Derived.Test.YtibeihcpehikoaaGreatNr41
namespace Go.Proofs.YtibeihcpehikoaaGreat
section
open Go.RowKit
section
variable {P : Program} {ops : Array Oper} {md : Region.Mode} {kd : Nat → Kd} {sp : Nat → Told}
/-- What is told of each operation. -/
abbrev Facts := Nat → World → Prop
def AllF (w : World) (F : Facts) (W : World) : Prop := Grown w W ∧ ∀ i, F i W
def updF (F : Facts) (i : Nat) (R : World → Prop) : Facts := fun n W => F n W ∧ (n = i → R W)
def StabF (F : Facts) : Prop := ∀ i W U, F i W → Grown W U → F i U
structure OkF (w : World) (F : Facts) : Prop where
  some_ : ∃ W, AllF w F W
  stab : StabF F
theorem updF_ne {F : Facts} {i n : Nat} {R : World → Prop} (h : n ≠ i) : updF F i R n = F n := by
  funext W; exact propext ⟨fun k => k.1, fun k => ⟨k, fun e => absurd e h⟩⟩
theorem updF_comm {F : Facts} {i j : Nat} {A B : World → Prop} : updF (updF F i A) j B = updF (updF F j B) i A := by
  funext n W; exact propext ⟨fun ⟨⟨a, b⟩, c⟩ => ⟨⟨a, c⟩, b⟩, fun ⟨⟨a, b⟩, c⟩ => ⟨⟨a, c⟩, b⟩⟩
theorem AllF.upd {w W W' : World} {F : Facts} {i : Nat} {R : World → Prop} (h : AllF w F W) (hs : StabF F) (hg : Grown W W') (hR : R W') : AllF w (updF F i R) W' := ⟨h.1.trans hg, fun n => ⟨hs n W W' (h.2 n) hg, fun _ => hR⟩⟩
theorem AllF.before {w W : World} {F : Facts} {i : Nat} {R : World → Prop} (h : AllF w (updF F i R) W) : AllF w F W := ⟨h.1, fun n => (h.2 n).1⟩
theorem StabF.upd {F : Facts} {i : Nat} {R : World → Prop} (hs : StabF F) (hR : ∀ W U, R W → Grown W U → R U) : StabF (updF F i R) := fun n W U h hg => ⟨hs n W U h.1 hg, fun e => hR W U (h.2 e) hg⟩
theorem OkF.none (w : World) : OkF w (fun _ _ => True) := ⟨⟨w, Grown.refl w, fun _ => trivial⟩, fun _ _ _ _ _ => trivial⟩
def yStep (P : Program) (md : Region.Mode) (ops : Array Oper) (kd : Nat → Kd) (sp : Nat → Told) (o : Oper) (i : Nat) (K : Act → World → Facts → Prop) (a : Act) (w : World) (F : Facts) : Prop :=
  if Region.wanted o (yielded ops a.tmps) = true then
    match kd i with
    | .pure => ∃ v, (∀ W, RunsTo P o a W v) ∧ K (a.put o.dst v) w F
    | .held => ∃ v, (∀ W, Grown w W → RunsTo P o a W v) ∧ K (a.put o.dst v) w F
    | .make => (∀ v W U, (sp i).R v W → Grown W U → (sp i).R v U) ∧ (∀ W, Grown w W → (∀ n, waitsM md ops i n = true → F n W) → Oper.goes P o a W (fun u W' => ((sp i).S u ∧ (sp i).R u W') ∧ Grown W W')) ∧ ∀ v, (sp i).S v → OkF w (updF F i ((sp i).R v)) → K (a.put o.dst v) w (updF F i ((sp i).R v))
    | .tail => ∃ T : Value → World → Prop, (∀ W, AllF w F W → Oper.goes P o a W T) ∧ ∀ v W', T v W' → K (a.put o.dst v) W' (fun _ _ => True)
  else K (a.put o.dst undef) w F
def yOp (P : Program) (md : Region.Mode) (ops : Array Oper) (kd : Nat → Kd) (sp : Nat → Told) (i : Nat) (K : Act → World → Facts → Prop) (a : Act) (w : World) (F : Facts) : Prop :=
  match ops[i]? with
  | none => K a w F
  | some o => yStep P md ops kd sp o i K a w F
theorem yStep_mono {o : Oper} {i : Nat} {a : Act} {w : World} {F : Facts} {K K' : Act → World → Facts → Prop} (hne : OkF w F) (h : ∀ a w F, OkF w F → K a w F → K' a w F) (hh : yStep P md ops kd sp o i K a w F) : yStep P md ops kd sp o i K' a w F := by
  unfold yStep at *
  split
  · rename_i hw
    rw [if_pos hw] at hh
    cases hk : kd i <;> rw [hk] at hh <;> simp only at hh ⊢
    · obtain ⟨v, h1, h2⟩ := hh; exact ⟨v, h1, h _ _ _ hne h2⟩
    · obtain ⟨v, h1, h2⟩ := hh; exact ⟨v, h1, h _ _ _ hne h2⟩
    · obtain ⟨h0, h1, h2⟩ := hh; exact ⟨h0, h1, fun v hv hn => h _ _ _ hn (h2 v hv hn)⟩
    · obtain ⟨T, h1, h2⟩ := hh; exact ⟨T, h1, fun v W' ht => h _ _ _ (OkF.none W') (h2 v W' ht)⟩
  · rename_i hw; rw [if_neg hw] at hh; exact h _ _ _ hne hh
/-- A make from the worlds at hand gives worlds at hand. -/
theorem make_some {o : Oper} {i : Nat} {a : Act} {w : World} {F : Facts} (hne : OkF w F) (hst : ∀ v W U, (sp i).R v W → Grown W U → (sp i).R v U) (hM : ∀ W, Grown w W → (∀ n, waitsM md ops i n = true → F n W) → Oper.goes P o a W (fun u W' => ((sp i).S u ∧ (sp i).R u W') ∧ Grown W W')) : ∃ v, (sp i).S v ∧ OkF w (updF F i ((sp i).R v)) := by
  obtain ⟨W, hW⟩ := hne.some_
  obtain ⟨v, W', ⟨hs, hr⟩, hg⟩ := goes_some (hM W hW.1 (fun n _ => hW.2 n))
  exact ⟨v, hs, ⟨W', hW.upd hne.stab hg hr⟩, hne.stab.upd (hst v)⟩
theorem yStep_some {o : Oper} {i : Nat} {a : Act} {w : World} {F : Facts} {K : Act → World → Facts → Prop} (hne : OkF w F) (hh : yStep P md ops kd sp o i K a w F) : ∃ a' w' F', OkF w' F' ∧ K a' w' F' := by
  unfold yStep at hh
  split at hh
  · cases hk : kd i <;> rw [hk] at hh <;> simp only at hh
    · obtain ⟨v, -, h2⟩ := hh; exact ⟨_, _, _, hne, h2⟩
    · obtain ⟨v, -, h2⟩ := hh; exact ⟨_, _, _, hne, h2⟩
    · obtain ⟨h0, h1, h2⟩ := hh
      obtain ⟨v, hs, hn⟩ := make_some hne h0 h1
      exact ⟨_, _, _, hn, h2 v hs hn⟩
    · obtain ⟨T, h1, h2⟩ := hh
      obtain ⟨W, hW⟩ := hne.some_
      obtain ⟨v, W', ht⟩ := goes_some (h1 W hW)
      exact ⟨_, _, _, OkF.none W', h2 v W' ht⟩
  · exact ⟨_, _, _, hne, hh⟩
/-- Which kinds may come in either order. -/
def swapY (a b : Kd) : Bool := match a, b with
  | .pure, _ => true
  | _, .pure => true
  | .tail, _ => false
  | _, .tail => false
  | _, _ => true
theorem yStep_swap {i j : Nat} {oi oj : Oper} (nij : waitsM md ops i j = false) (nji : waitsM md ops j i = false) (hap : oi.apart ops oj = true) (hsi : ∀ cs b, oi.op ≠ .select cs b) (hsj : ∀ cs b, oj.op ≠ .select cs b) (hk : swapY (kd i) (kd j) = true) {K : Act → World → Facts → Prop} {a : Act} {w : World} {F : Facts} (hne : OkF w F)
    (h : yStep P md ops kd sp oi i (fun a1 w1 D1 => yStep P md ops kd sp oj j K a1 w1 D1) a w F) : yStep P md ops kd sp oj j (fun a2 w2 D2 => yStep P md ops kd sp oi i K a2 w2 D2) a w F := by
  have fi : ∀ (R : World → Prop) (n : Nat), waitsM md ops i n = true → updF F j R n = F n := fun R n hn => updF_ne (fun e => by rw [e, nij] at hn; cases hn)
  have fj : ∀ (R : World → Prop) (n : Nat), waitsM md ops j n = true → updF F i R n = F n := fun R n hn => updF_ne (fun e => by rw [e, nji] at hn; cases hn)
  obtain ⟨h1, h2, h3⟩ := Oper.apart_spec hap
  have ei : ∀ (a : Act) u, execOp (a.put oj.dst u).eval oi = execOp a.eval oi := fun a u => execOp_put oi hsi a oj.dst u h3
  have ej : ∀ (a : Act) u, execOp (a.put oi.dst u).eval oj = execOp a.eval oj := fun a u => execOp_put oj hsj a oi.dst u h1
  have wi : ∀ (a : Act) u, Region.wanted oi (yielded ops (a.put oj.dst u).tmps) = Region.wanted oi (yielded ops a.tmps) := fun a u => wanted_put oi a oj.dst u h3
  have wj : ∀ (a : Act) u, Region.wanted oj (yielded ops (a.put oi.dst u).tmps) = Region.wanted oj (yielded ops a.tmps) := fun a u => wanted_put oj a oi.dst u h1
  have pc : ∀ (a : Act) u v, (a.put oi.dst u).put oj.dst v = (a.put oj.dst v).put oi.dst u := fun a u v => Act.put_comm a u v h2
  have ri : ∀ (a : Act) u W v, RunsTo P oi (a.put oj.dst u) W v ↔ RunsTo P oi a W v := fun a u W v => by unfold RunsTo; rw [ei]
  have rj : ∀ (a : Act) u W v, RunsTo P oj (a.put oi.dst u) W v ↔ RunsTo P oj a W v := fun a u W v => by unfold RunsTo; rw [ej]
  have gi : ∀ (a : Act) u W T, Oper.goes P oi (a.put oj.dst u) W T ↔ Oper.goes P oi a W T := fun a u W T => by unfold Oper.goes; rw [ei]
  have gj : ∀ (a : Act) u W T, Oper.goes P oj (a.put oi.dst u) W T ↔ Oper.goes P oj a W T := fun a u W T => by unfold Oper.goes; rw [ej]
  unfold yStep at h ⊢
  simp only [wi, wj, ri, rj, gi, gj] at h ⊢
  by_cases hwi : Region.wanted oi (yielded ops a.tmps) = true
  · by_cases hwj : Region.wanted oj (yielded ops a.tmps) = true
    · simp only [hwi, hwj, if_true] at h ⊢
      cases hki : kd i <;> cases hkj : kd j <;> rw [hki, hkj] at hk <;> simp only [hki, hkj] at h ⊢
      case tail.tail => simp [swapY] at hk
      case tail.held => simp [swapY] at hk
      case tail.make => simp [swapY] at hk
      case held.tail => simp [swapY] at hk
      case make.tail => simp [swapY] at hk
      case pure.pure =>
        obtain ⟨v, hv, u, hu, hK⟩ := h
        exact ⟨u, hu, v, hv, by rw [← pc]; exact hK⟩
      case pure.held =>
        obtain ⟨v, hv, u, hu, hK⟩ := h
        exact ⟨u, hu, v, hv, by rw [← pc]; exact hK⟩
      case pure.make =>
        obtain ⟨v, hv, hst, hM, hK⟩ := h
        exact ⟨hst, hM, fun u hu hn => ⟨v, hv, by rw [← pc]; exact hK u hu hn⟩⟩
      case pure.tail =>
        obtain ⟨v, hv, T, hg, hK⟩ := h
        exact ⟨T, hg, fun u W' hu => ⟨v, hv, by rw [← pc]; exact hK u W' hu⟩⟩
      case held.pure =>
        obtain ⟨v, hv, u, hu, hK⟩ := h
        exact ⟨u, hu, v, hv, by rw [← pc]; exact hK⟩
      case held.held =>
        obtain ⟨v, hv, u, hu, hK⟩ := h
        exact ⟨u, hu, v, hv, by rw [← pc]; exact hK⟩
      case held.make =>
        obtain ⟨v, hv, hst, hM, hK⟩ := h
        exact ⟨hst, hM, fun u hu hn => ⟨v, hv, by rw [← pc]; exact hK u hu hn⟩⟩
      case make.pure =>
        obtain ⟨hst, hM, hK⟩ := h
        obtain ⟨v0, hs0, hn0⟩ := make_some hne hst hM
        obtain ⟨u, hu, -⟩ := hK v0 hs0 hn0
        refine ⟨u, hu, hst, hM, fun v hv hn => ?_⟩
        obtain ⟨u', hu', hK'⟩ := hK v hv hn
        have : u' = u := runsTo_uniq (hu' w) (hu w)
        subst this
        rw [← pc]; exact hK'
      case make.held =>
        obtain ⟨hst, hM, hK⟩ := h
        obtain ⟨v0, hs0, hn0⟩ := make_some hne hst hM
        obtain ⟨u, hu, -⟩ := hK v0 hs0 hn0
        refine ⟨u, hu, hst, hM, fun v hv hn => ?_⟩
        obtain ⟨u', hu', hK'⟩ := hK v hv hn
        have : u' = u := runsTo_uniq (hu' w (Grown.refl w)) (hu w (Grown.refl w))
        subst this
        rw [← pc]; exact hK'
      case make.make =>
        obtain ⟨hst, hM, hK⟩ := h
        obtain ⟨v0, hs0, hn0⟩ := make_some hne hst hM
        obtain ⟨hst2, hM2, -⟩ := hK v0 hs0 hn0
        refine ⟨hst2, fun W hW hF => hM2 W hW (fun n hn => by rw [fj _ n hn]; exact hF n hn), fun u hu hn => ⟨hst, fun W hW hF => hM W hW (fun n hn => by have := hF n hn; rw [fi _ n hn] at this; exact this), fun v hv hn2 => ?_⟩⟩
        rw [updF_comm] at hn2 ⊢
        have hn1 : OkF w (updF F i ((sp i).R v)) := by
          obtain ⟨W, hW⟩ := hn2.some_
          exact ⟨⟨W, hW.before⟩, hne.stab.upd (hst v)⟩
        have := (hK v hv hn1).2.2 u hu hn2
        rw [← pc]
        exact this
      case tail.pure =>
        obtain ⟨T, hg, hK⟩ := h
        obtain ⟨W, hW⟩ := hne.some_
        obtain ⟨v0, W', ht0⟩ := goes_some (hg W hW)
        obtain ⟨u, hu, -⟩ := hK v0 W' ht0
        refine ⟨u, hu, T, hg, fun v W2 ht => ?_⟩
        obtain ⟨u', hu', hK'⟩ := hK v W2 ht
        have : u' = u := runsTo_uniq (hu' W) (hu W)
        subst this
        rw [← pc]; exact hK'
    · simp only [hwi, hwj, if_true, Bool.false_eq_true, if_false] at h ⊢
      cases hki : kd i <;> simp only [hki] at h ⊢
      · obtain ⟨v, hv, hK⟩ := h; exact ⟨v, hv, by rw [← pc]; exact hK⟩
      · obtain ⟨v, hv, hK⟩ := h; exact ⟨v, hv, by rw [← pc]; exact hK⟩
      · obtain ⟨hst, hM, hK⟩ := h; exact ⟨hst, hM, fun v hv hn => by rw [← pc]; exact hK v hv hn⟩
      · obtain ⟨T, hg, hK⟩ := h; exact ⟨T, hg, fun v W' ht => by rw [← pc]; exact hK v W' ht⟩
  · by_cases hwj : Region.wanted oj (yielded ops a.tmps) = true
    · simp only [hwi, hwj, if_true, Bool.false_eq_true, if_false] at h ⊢
      cases hkj : kd j <;> simp only [hkj] at h ⊢
      · obtain ⟨v, hv, hK⟩ := h; exact ⟨v, hv, by rw [← pc]; exact hK⟩
      · obtain ⟨v, hv, hK⟩ := h; exact ⟨v, hv, by rw [← pc]; exact hK⟩
      · obtain ⟨hst, hM, hK⟩ := h; exact ⟨hst, hM, fun v hv hn => by rw [← pc]; exact hK v hv hn⟩
      · obtain ⟨T, hg, hK⟩ := h; exact ⟨T, hg, fun v W' ht => by rw [← pc]; exact hK v W' ht⟩
    · simp only [hwi, hwj, Bool.false_eq_true, if_false] at h ⊢
      rw [← pc]; exact h
def wpAnyY (P : Program) (md : Region.Mode) (ops : Array Oper) (kd : Nat → Kd) (sp : Nat → Told) (E : Act → World → Facts → Prop) : Nat → Array Bool → Act → World → Facts → Prop
  | 0, listed, a, w, D => Region.ready md ops listed = [] ∧ E a w D
  | f + 1, listed, a, w, D => (Region.ready md ops listed = [] → E a w D) ∧ ∀ i ∈ Region.ready md ops listed, yOp P md ops kd sp i (wpAnyY P md ops kd sp E f (listed.setIfInBounds i true)) a w D
theorem wpOp_of_yOp {i : Nat} {a : Act} {w : World} {F : Facts} {K : Act → World → Facts → Prop} {K' : Act → World → Prop} {Q' : Exit → Act → World → Prop} {W : World} (hne : OkF w F) (hW : AllF w F W)
    (h : ∀ a w F W', OkF w F → AllF w F W' → K a w F → K' a W') (hh : yOp P md ops kd sp i K a w F) : wpOp P ops Q' i K' a W := by
  unfold yOp at hh
  unfold wpOp
  split
  · rename_i ho; simp only [ho] at hh; exact h _ _ _ _ hne hW hh
  · rename_i o ho
    simp only [ho] at hh
    unfold yStep at hh
    split
    · rename_i hw
      rw [if_pos hw] at hh
      left
      cases hk : kd i <;> rw [hk] at hh <;> simp only at hh
      · obtain ⟨v, h1, h2⟩ := hh
        have h1 := h1 W
        unfold RunsTo at h1
        unfold Oper.wp
        rw [h1]
        exact h _ _ _ _ hne hW h2
      · obtain ⟨v, h1, h2⟩ := hh
        have h1 := h1 W hW.1
        unfold RunsTo at h1
        unfold Oper.wp
        rw [h1]
        exact h _ _ _ _ hne hW h2
      · obtain ⟨hst, hM, hK⟩ := hh
        exact Oper.wp_of_goes (hM W hW.1 (fun n _ => hW.2 n)) fun v W' ⟨⟨hs, hr⟩, hg⟩ => have hn := hW.upd (i := i) hne.stab hg hr; have ho : OkF w (updF F i ((sp i).R v)) := ⟨⟨W', hn⟩, hne.stab.upd (hst v)⟩; h _ _ _ W' ho hn (hK v hs ho)
      · obtain ⟨T, hg, hK⟩ := hh
        exact Oper.wp_of_goes (hg W hW) fun v W' ht => h _ _ _ W' (OkF.none W') ⟨Grown.refl W', fun _ => trivial⟩ (hK v W' ht)
    · rename_i hw; rw [if_neg hw] at hh; exact h _ _ _ _ hne hW hh
theorem wpAny_of_Y {Q : Exit → Act → World → Prop} : ∀ (f : Nat) (listed : Array Bool) (a : Act) (w : World) (F : Facts) (W : World), OkF w F → AllF w F W → wpAnyY P md ops kd sp (fun a w F => ∀ W, AllF w F W → Q .normal a W) f listed a w F → wpAny P md ops Q f listed a W
  | 0, _, _, _, _, _, _, hW, h => ⟨h.1, h.2 _ hW⟩
  | f + 1, _, _, _, _, _, hne, hW, h => ⟨fun h0 => h.1 h0 _ hW, fun i hi => wpOp_of_yOp hne hW (fun a' w' D' W' hn' hW' h' => wpAny_of_Y f _ a' w' D' W' hn' hW' h') (h.2 i hi)⟩
theorem wpAnyY_first {E : Act → World → Facts → Prop} {i : Nat} {oi : Oper} (hi : ops[i]? = some oi) (hsel : ∀ (j : Nat) (o : Oper) cs b, ops[j]? = some o → o.op ≠ .select cs b)
    (hsw : ∀ j, j < ops.size → j ≠ i → swapY (kd i) (kd j) = false → waitsM md ops j i = true ∨ waitsM md ops i j = true) :
    ∀ (f : Nat) (listed : Array Bool) (a : Act) (w : World) (F : Facts), OkF w F → Closed md ops listed →
      (∀ j oj, ops[j]? = some oj → j ≠ i → listed.getD j true = false → (∀ e ∈ oj.after, Region.binds md e = true → e.on ≠ i) → oi.apart ops oj = true) →
      i ∈ Region.ready md ops listed → yOp P md ops kd sp i (wpAnyY P md ops kd sp E f (listed.setIfInBounds i true)) a w F → wpAnyY P md ops kd sp E (f + 1) listed a w F := by
  intro f
  induction f with
  | zero =>
    intro listed a w D hne _ _ hr H
    refine ⟨fun h => (by rw [h] at hr; cases hr), fun j hj => ?_⟩
    by_cases hji : j = i
    · subst hji; exact H
    · unfold yOp at H
      rw [hi] at H
      obtain ⟨a', w', D', -, h0, -⟩ := yStep_some hne H
      have := ready_mono hj hji
      rw [h0] at this; cases this
  | succ f ih =>
    intro listed a w D hne hcl hfree hr H
    refine ⟨fun h => (by rw [h] at hr; cases hr), fun j hj => ?_⟩
    by_cases hji : j = i
    · subst hji; exact H
    · obtain ⟨hjun, oj, hoj, hall⟩ := mem_ready.1 hj
      have hun := (mem_ready.1 hr).1
      have hnot : ∀ e ∈ oj.after, Region.binds md e = true → e.on ≠ i := fun e he hb heq => by
        have h1 := hall e he hb
        rw [heq, getD_both hun] at h1
        cases h1
      have hap := hfree j oj hoj hji hjun hnot
      have hswap : swapY (kd i) (kd j) = true := by
        cases hs : swapY (kd i) (kd j) with
        | true => rfl
        | false =>
          rcases hsw j (Array.getElem?_eq_some_iff.1 hoj).1 hji hs with h1 | h1
          · have h2 := waitsM_ready hcl hj h1
            rw [getD_both hun] at h2; cases h2
          · have h2 := waitsM_ready hcl hr h1
            rw [getD_both hjun] at h2; cases h2
      have hfree' : ∀ k ok, ops[k]? = some ok → k ≠ i → (listed.setIfInBounds j true).getD k true = false →
          (∀ e ∈ ok.after, Region.binds md e = true → e.on ≠ i) → oi.apart ops ok = true := fun k ok hk hki hun' hno => by
        refine hfree k ok hk hki ?_ hno
        by_cases hjk : j = k
        · subst hjk; exact hjun
        · rw [getD_set_ne true hjk] at hun'; exact hun'
      have hri := ready_mono hr (Ne.symm hji)
      unfold yOp at H
      rw [hi] at H
      have H2 : yStep P md ops kd sp oi i (fun a1 w1 D1 => yStep P md ops kd sp oj j (wpAnyY P md ops kd sp E f ((listed.setIfInBounds i true).setIfInBounds j true)) a1 w1 D1) a w D :=
        yStep_mono hne (fun a1 w1 D1 _ hK => by
          have := hK.2 j (ready_mono hj hji)
          unfold yOp at this
          rw [hoj] at this
          exact this) H
      have nji : waitsM md ops j i = false := by
        cases hs : waitsM md ops j i with
        | false => rfl
        | true => have h2 := waitsM_ready hcl hj hs; rw [getD_both hun] at h2; cases h2
      have nij : waitsM md ops i j = false := by
        cases hs : waitsM md ops i j with
        | false => rfl
        | true => have h2 := waitsM_ready hcl hr hs; rw [getD_both hjun] at h2; cases h2
      have H3 := yStep_swap nij nji hap (fun cs b => hsel i oi cs b hi) (fun cs b => hsel j oj cs b hoj) hswap hne H2
      unfold yOp
      rw [hoj]
      refine yStep_mono hne (fun a2 w2 D2 hne2 h3 => ih (listed.setIfInBounds j true) a2 w2 D2 hne2 (hcl.set hj) hfree' hri ?_) H3
      unfold yOp
      rw [hi, Array.setIfInBounds_comm _ _ hji]
      exact h3
def wpMixY (P : Program) (md : Region.Mode) (ops : Array Oper) (kd : Nat → Kd) (sp : Nat → Told) (E : Act → World → Facts → Prop) : List Oper → Nat → Act → World → Facts → Prop
  | [], _, a, w, D => E a w D
  | o :: rest, k, a, w, D => yStep P md ops kd sp o k (wpMixY P md ops kd sp E rest (k + 1)) a w D
def mixYB (md : Region.Mode) (ops : Array Oper) (kd : Nat → Kd) : Bool :=
  Region.lexB md ops && (List.range ops.size).all fun i => (List.range ops.size).all fun j => decide (j = i) || (swapY (kd i) (kd j) || (waitsM md ops j i || waitsM md ops i j))
theorem wpAnyY_lex {E : Act → World → Facts → Prop} (hs : Region.noSelect ops = true) (hsw : ∀ i j, i < ops.size → j < ops.size → j ≠ i → swapY (kd i) (kd j) = false → waitsM md ops j i = true ∨ waitsM md ops i j = true) :
    ∀ (l : List Oper) (k : Nat) (listed : Array Bool) (a : Act) (w : World) (F : Facts), OkF w F → Closed md ops listed → (∀ j, l[j]? = ops[k + j]?) →
    Region.lexFrom md ops l.length k listed = true → wpMixY P md ops kd sp E l k a w F → wpAnyY P md ops kd sp E l.length listed a w F
  | [], _, _, _, _, _, _, _, _, hB, h => ⟨by simpa [Region.lexFrom] using hB, h⟩
  | o :: l, k, listed, a, w, D, hne, hcl, hl, hB, h => by
    have h0 : ops[k]? = some o := by simpa using (hl 0).symm
    simp only [List.length_cons, Region.lexFrom, Bool.and_eq_true] at hB
    obtain ⟨⟨hr, hf⟩, hB'⟩ := hB
    have hk : k < ops.size := (Array.getElem?_eq_some_iff.1 h0).1
    refine wpAnyY_first h0 (Region.noSelect_spec hs) (fun j hjl hj hsw' => hsw k j hk hjl hj hsw') l.length listed a w D hne hcl (Region.free_spec h0 hf) (by simpa using hr) ?_
    unfold yOp
    rw [h0]
    exact yStep_mono hne (fun a' w' D' hne' h' => wpAnyY_lex hs hsw l (k + 1) _ a' w' D' hne' (hcl.set (by simpa using hr)) (fun j => by have := hl (j + 1); simpa [Nat.add_assoc, Nat.add_comm 1 j] using this) hB' h') h
/-- **The law**, before it is a region. -/
theorem any_mixedY {Q : Exit → Act → World → Prop} {a : Act} {w : World} {l : List Oper} (kds : List Kd) (sp : Nat → Told) (hB : mixYB .any l.toArray (fun i => kds.getD i .pure) = true)
    (h : wpMixY P .any l.toArray (fun i => kds.getD i .pure) sp (fun a w F => ∀ W, AllF w F W → Q .normal a W) l 0 a w (fun _ _ => True)) : wpAny P .any l.toArray Q l.toArray.size (Array.replicate l.toArray.size false) a { w with drawn := w.drawn + 1 } := by
  simp only [mixYB, Bool.and_eq_true] at hB
  obtain ⟨hlex, hall⟩ := hB
  simp only [Region.lexB, Bool.and_eq_true] at hlex
  have hg0 : Grown w { w with drawn := w.drawn + 1 } := (Below.refl _ _).drew
  refine (wpAny_of_Y (kd := fun i => kds.getD i .pure) (sp := sp) _ _ _ w (fun _ _ => True) _ (OkF.none w) ⟨hg0, fun _ => trivial⟩ ?_)
  have := wpAnyY_lex (P := P) (md := .any) (kd := fun i => kds.getD i .pure) (sp := sp) (E := fun a w F => ∀ W, AllF w F W → Q .normal a W) hlex.1 (fun i j hi hjl hj hs => by
    have h1 := List.all_eq_true.1 (List.all_eq_true.1 hall i (List.mem_range.2 hi)) j (List.mem_range.2 hjl)
    simp only [Bool.or_eq_true, decide_eq_true_eq] at h1
    rcases h1 with h1 | h1 | h1 | h1
    · exact absurd h1 hj
    · rw [hs] at h1; cases h1
    · exact .inl h1
    · exact .inr h1) l 0 (Array.replicate l.toArray.size false) a w (fun _ _ => True) (OkF.none w) (Closed.none _ _ _) (by simp) (by simpa using hlex.2) h
  simpa using this
theorem wp_region_mixedY {id : Nat} {Q : Exit → Act → World → Prop} {a : Act} {w : World} {l : List Oper} (kds : List Kd) (sp : Nat → Told) (hm : P.follows .mixedOrders = true) (hB : mixYB .any l.toArray (fun i => kds.getD i .pure) = true)
    (h : wpMixY P .any l.toArray (fun i => kds.getD i .pure) sp (fun a w F => ∀ W, AllF w F W → Q .normal a W) l 0 a w (fun _ _ => True)) : (Code.region id l.toArray true).wp P Q a w :=
  wp_region_any hm (any_mixedY kds sp hB h)
section
variable {E : Act → World → Facts → Prop} {a : Act} {o : Oper} {rest : List Oper} {k : Nat} {w : World} {F : Facts}
theorem mixY_pure (hw : Region.wanted o (yielded ops a.tmps) = true) (hk : kd k = .pure) (hp : valOp o.op = true)
    (h : ∀ K : Act → Prop, (∀ a, wpMixY P md ops kd sp E rest (k + 1) a w F → K a) → o.quiet P a (fun _ => True) K) : wpMixY P md ops kd sp E (o :: rest) k a w F := by
  unfold wpMixY yStep
  rw [if_pos hw, hk]
  obtain ⟨v, h1, h2⟩ := h _ fun _ h => h
  exact ⟨v, fun W => runs_of_quiet hp (h1 W trivial), h2⟩
theorem mixY_held (hw : Region.wanted o (yielded ops a.tmps) = true) (hk : kd k = .held) (hp : valOp o.op = true)
    (h : ∀ K : Act → Prop, (∀ a, wpMixY P md ops kd sp E rest (k + 1) a w F → K a) → o.quiet P a (fun w' => ∃ x : Ext w, w' = x.world) K) : wpMixY P md ops kd sp E (o :: rest) k a w F := by
  unfold wpMixY yStep
  rw [if_pos hw, hk]
  obtain ⟨v, h1, h2⟩ := h _ fun _ h => h
  exact ⟨v, fun W hW => runs_of_quiet hp (h1 W ⟨⟨W, hW⟩, rfl⟩), h2⟩
/-- What makes: it may lean on what it waits for has told. -/
theorem mixY_make (hw : Region.wanted o (yielded ops a.tmps) = true) (hk : kd k = .make) (hst : ∀ v W U, (sp k).R v W → Grown W U → (sp k).R v U)
    (hM : ∀ W, Grown w W → (∀ n, waitsM md ops k n = true → F n W) → Oper.goes P o a W (fun u W' => ((sp k).S u ∧ (sp k).R u W') ∧ Grown W W'))
    (h : ∀ v, (sp k).S v → wpMixY P md ops kd sp E rest (k + 1) (a.put o.dst v) w (updF F k ((sp k).R v))) : wpMixY P md ops kd sp E (o :: rest) k a w F := by
  unfold wpMixY yStep
  rw [if_pos hw, hk]
  exact ⟨hst, hM, fun v hv _ => h v hv⟩
/-- What writes: the world that it leaves is the new base. -/
theorem mixY_write (hw : Region.wanted o (yielded ops a.tmps) = true) (hk : kd k = .tail) (T : Value → World → Prop) (hM : ∀ W, AllF w F W → Oper.goes P o a W T)
    (h : ∀ v W', T v W' → wpMixY P md ops kd sp E rest (k + 1) (a.put o.dst v) W' (fun _ _ => True)) : wpMixY P md ops kd sp E (o :: rest) k a w F := by
  unfold wpMixY yStep
  rw [if_pos hw, hk]
  exact ⟨T, hM, h⟩
theorem mixY_nil (h : E a w F) : wpMixY P md ops kd sp E [] k a w F := h
end
end
end
section
open Go.RowKit Go.Shelf
attribute [local irreducible] wpMixY
set_option maxRecDepth 100000
set_option linter.unusedSimpArgs false
theorem same_at {l : List Nat} {k j : Nat} (h : ∀ i, k ≤ i → i < j → l[i + 1]? = l[i]?) : ∀ d, k + d ≤ j → l[k + d]? = l[k]?
  | 0, _ => rfl
  | d + 1, hd => (h (k + d) (by omega) (by omega)).trans (same_at h d (by omega))
theorem runsL_at {l : List Nat} {k j : Nat} (hkj : k ≤ j) (hj : j < l.length) (h : ∀ i, k ≤ i → i < j → l[i + 1]? = l[i]?) (he : l[j + 1]? ≠ l[j]?) : runsL (l.drop k) = (l[j], j - k + 1) :: runsL (l.drop (j + 1)) := by
  have hk : k < l.length := by omega
  have ex : l[j]? = l[k]? := by
    have := same_at h (j - k) (by omega)
    rwa [Nat.add_sub_cancel' hkj] at this
  have ej : l[j] = l[k] := by
    rw [List.getElem?_eq_getElem hj, List.getElem?_eq_getElem hk] at ex
    exact Option.some.inj ex
  have hd : ∀ d, k + d ≤ j → headN l[k] (l.drop (k + 1)) = d + headN l[k] (l.drop (k + 1 + d)) := by
    intro d
    induction d with
    | zero => intro _; simp
    | succ d ih =>
      intro hdj
      rw [ih (by omega)]
      have hlt : k + 1 + d < l.length := by omega
      have e1 : l[k + 1 + d] = l[k] := by
        have := same_at h (d + 1) (by omega)
        rw [show k + (d + 1) = k + 1 + d by omega, List.getElem?_eq_getElem hlt, List.getElem?_eq_getElem hk] at this
        exact Option.some.inj this
      rw [headN_hit hlt e1, Nat.add_assoc (k + 1) d 1]
      omega
  have e0 : headN l[k] (l.drop (j + 1)) = 0 := by
    by_cases hn : j + 1 < l.length
    · refine headN_miss hn (fun e => he ?_)
      rw [List.getElem?_eq_getElem hn, List.getElem?_eq_getElem hj, e, ej]
    · exact headN_end (by omega)
  have hh : headN l[k] (l.drop (k + 1)) = j - k := by
    have := hd (j - k) (by omega)
    rw [show k + 1 + (j - k) = j + 1 by omega, e0] at this
    omega
  rw [List.drop_eq_getElem_cons hk, runsL_cons, hh, List.drop_drop, show k + 1 + (j - k) = j + 1 by omega, ej]
theorem goes_bs_b1 {W : World} {o : Oper} {a : Act} (y : Operand) (ho : o.op = .buildSlice 25 1 #[(0, y)]) (x : Int) (hy : a.eval y = .int .u8 x) : Oper.goes Tryz.prog o a W (fun v W' => v = .slice (some ⟨W.heap.size, 0, none⟩) 1 1 ∧ W' = W.alloc (.cells #[.int .u8 x] 5)) := by
  obtain ⟨i0, hi0, hz0, hz1, hz2⟩ := info_parts Tryz.infoU8
  refine goes_bs 25 5 1 _ ho _ i0 _ Tryz.underlying25 hi0 hz0 (by rw [hz1]; decide) (by rw [hz1]; decide) ?_
  rw [hz1]
  simp only [List.map_toArray, List.map_cons, List.map_nil, hy]
  simp [Instr.fill, go_sem]
theorem goes_conv1 {W : World} {o : Oper} {a : Act} (y : Operand) (ho : o.op = .convert 25 9 y) (g x : Nat) (hx : x < 256) (hy : a.eval y = .slice (some ⟨g, 0, none⟩) 1 1) (hc : W.cell? ⟨g, 0, none⟩ = some (.int .u8 x)) : Oper.goes Tryz.prog o a W (fun v W' => v = strN [UInt8.ofNat x] ∧ W' = W) := by
  have h := run_convert_bytes_back (P := Tryz.prog) W 25 9 5 ⟨g, 0, none⟩ 1 [UInt8.ofNat x] Tryz.underlying25 Tryz.underlying5 Tryz.underlying9 (fun k hk => by
    obtain rfl : k = 0 := by simp at hk; omega
    rw [Go.WideShapes.add_plain, Nat.zero_add, hc]
    simp [UInt8.toNat_ofNat, Nat.mod_eq_of_lt hx])
  unfold Oper.goes execOp
  simp only [ho, hy, Sem.run_bind]
  rw [show ([UInt8.ofNat x] : List UInt8).length = 1 from rfl] at h
  rw [h]
  exact ⟨rfl, rfl⟩
/-- A row of one byte, told ahead. -/
def rowB (x : Nat) : Told := ⟨fun v => ∃ g, v = .slice (some ⟨g, 0, none⟩) 1 1, fun v W => ∃ g, v = .slice (some ⟨g, 0, none⟩) 1 1 ∧ Blk W g 5 #[.int .u8 (x : Int)]⟩
theorem rowB_st {x : Nat} : ∀ v W U, (rowB x).R v W → Grown W U → (rowB x).R v U := fun _ _ _ ⟨g, hv, hb⟩ k => ⟨g, hv, hb.on k⟩
theorem rowB_goes {W : World} {o : Oper} {a : Act} (y : Operand) (ho : o.op = .buildSlice 25 1 #[(0, y)]) (x : Nat) (hy : a.eval y = .int .u8 (x : Int)) : Oper.goes Tryz.prog o a W (fun u W' => ((rowB x).S u ∧ (rowB x).R u W') ∧ Grown W W') :=
  goes_mono (goes_bs_b1 y ho x hy) (by
    rintro v W' ⟨rfl, rfl⟩
    exact ⟨⟨⟨_, rfl⟩, _, rfl, Blk.new _ _ _⟩, bAlloc (Below.refl _ _) _⟩)
theorem conv1_goes {W : World} {o : Oper} {a : Act} (y : Operand) (ho : o.op = .convert 25 9 y) (g x : Nat) (hx : x < 256) (hy : a.eval y = .slice (some ⟨g, 0, none⟩) 1 1) (h : (rowB x).R (.slice (some ⟨g, 0, none⟩) 1 1) W) : Oper.goes Tryz.prog o a W (fun u W' => ((valF (strN [UInt8.ofNat x])).S u ∧ (valF (strN [UInt8.ofNat x])).R u W') ∧ Grown W W') := by
  obtain ⟨g', hv, hb⟩ := h
  simp only [Value.slice.injEq, Option.some.injEq, Addr.mk.injEq, and_true] at hv
  subst hv
  refine goes_mono (goes_conv1 y ho g x hx hy (hb.cell 0)) ?_
  rintro v W' ⟨rfl, rfl⟩
  exact ⟨⟨rfl, trivial⟩, Grown.refl _⟩
theorem runsB_pre {l : List Nat} {pre r : List (Nat × Nat)} (h : pre ++ r = runsL l) (hl : l.length ≤ 20000) : (runsB pre).length ≤ 220000 := by
  have h1 := runsL_len l.length l (Nat.le_refl _)
  have h2 : pre.length ≤ (runsL l).length := by rw [← h, List.length_append]; omega
  have h3 := runsB_len pre (fun p hp => by
    have := (runsL_mem l.length l (Nat.le_refl _) p (by
      show p ∈ runsL l
      rw [← h]; exact List.mem_append_left _ hp)).2.2
    omega)
  have : (runsL l).length ≤ l.length := h1
  omega
set_option maxHeartbeats 8000000 in
theorem rinputs_any (A : Option Addr) (c : Nat) (l : List Nat) (hl : l.length ≤ 20000) (hb : ∀ x ∈ l, x < 256) (w : World) (hr : Rd w w.heap.size A (l.flatMap btC)) : Calls Tryz.prog 94 #[.slice A l.length c] w fun e w' => e = .returned (.string ⟨(insB l).toArray⟩) ∧ Below w.heap.size w w' := by
  have HR := Lib.hid hr
  have HBT := Lib.hid hb
  have HLL := Lib.hid hl
  clear hr hb
  go_enter Tryz.func94, Tryz.ntmps94
  go_wp2
  obtain ⟨n, hn⟩ : ∃ n, l.length = n := ⟨_, rfl⟩
  have HN := Lib.hid hn
  rw [hn] at hl ⊢
  clear hn
  go_loopw [3, 4, 5] (fun s u v wr => ∃ (j k : Nat) (pre : List (Nat × Nat)), j ≤ n ∧ k ≤ j ∧ v = .int .i64 j ∧ u = .int .i64 k ∧ s = .string ⟨(runsB pre).toArray⟩ ∧ Hid (pre ++ runsL (l.drop k) = runsL l) ∧ Hid (∀ i, k ≤ i → i < j → j < n → l[i + 1]? = l[i]?) ∧ Hid (j = n → k = n) ∧ Hid (Below w.heap.size w wr)) (fun _ _ v _ => n - (intOf v).toNat)
  case atStart => exact ⟨0, 0, [], Nat.zero_le _, Nat.le_refl _, rfl, rfl, rfl, Lib.hid (by simp), Lib.hid (fun i h1 h2 _ => by omega), Lib.hid (fun e => e), Lib.hid (Below.refl _ _)⟩
  case round =>
    obtain ⟨j, k, pre, hj, hkj, rfl, rfl, rfl, HP, HE, HZ, HB⟩ := hrel
    by_cases hlt : j < n
    · have hjl : j < l.length := by rw [HN.out]; exact hlt
      obtain ⟨b, off, rfl, hbw, hc⟩ := (HR.out.below HB.out (Nat.le_refl _)).at_ btC_length (by decide) hjl
      have x1 : wr.cell? ⟨b, off + j, none⟩ = some (.int .u8 (l[j] : Nat)) := by
        have := hc 0 _ rfl
        simpa using this
      have hpl := runsB_pre HP.out HLL.out
      have hx256 := HBT.out _ (List.getElem_mem hjl)
      have HRA := Lib.hid (fun he => runsL_at (l := l) hkj hjl (fun i h1 h2 => HE.out i h1 h2 hlt) he)
      have HXJ := Lib.hid (List.getElem?_eq_getElem hjl)
      obtain ⟨x, hx⟩ : ∃ x, l[j] = x := ⟨_, rfl⟩
      rw [hx] at x1 hx256 HRA HXJ
      obtain ⟨p, hp⟩ : ∃ p, runsB pre = p := ⟨_, rfl⟩
      have HPP := Lib.hid hp
      rw [hp] at hpl ⊢
      have hnl := numB_le (n := j - k + 1) (by omega)
      have HNM := Lib.hid (fun V => by
        have h := rnum_any (j - k + 1) (by omega) V
        rw [show ((j - k + 1 : Nat) : Int) = (j : Int) + 1 - (k : Int) by omega] at h
        exact valF_of (v := .string ⟨(numB (j - k + 1)).toArray⟩) h)
      have hlb : b < wr.heap.size := Nat.lt_of_lt_of_le hbw HB.out.size
      clear hc hx hp hjl
      by_cases hlast : j + 1 = n
      · have g1 : ((j : Int) == (n : Int) - 1) = true := by simp; omega
        have HLA := Lib.hid hlast
        clear hlast
        go_upto_region 6 with fail
        refine wp_region_mild (by kernel_rfl) (by kernel_rfl) ?_
        repeat (go_big_quiet_step (fail))
        refine wpQuiet_nil ?_
        intro w5 hw'
        obtain ⟨⟨wq, k5⟩, hw''⟩ := hw'
        subst hw''
        have HNE : Hid (l[j + 1]? ≠ l[j]?) := Lib.hid (by
          rw [HXJ.out, List.getElem?_eq_none (by rw [HN.out]; exact Nat.le_of_eq HLA.out.symm)]; simp)
        have x5 := (k5.cell (p := ⟨b, off + j, none⟩) hlb).trans x1
        have hlb5 : b < w5.heap.size := Nat.lt_of_lt_of_le hlb k5.size
        go_upto_region 7 with fail
        refine wp_region_mixedY [.pure, .pure, .pure, .pure, .held, .make, .make, .pure, .pure, .pure, .pure, .pure, .pure, .make, .pure, .pure] (fun | 5 => rowB x | 6 => valF (.string ⟨[UInt8.ofNat x].toArray⟩) | _ => valF (.string ⟨(numB (j - k + 1)).toArray⟩)) (by kernel_rfl) (by kernel_rfl) ?_
        repeat (first | (refine mixY_pure rfl rfl rfl (fun K hK => ?_); go_big_quiet_op; refine hK _ ?_; clear hK K) | (refine mixY_held rfl rfl rfl (fun K hK => ?_); go_big_quiet_op; refine hK _ ?_; clear hK K))
        refine mixY_make rfl rfl rowB_st (fun W hW hF => rowB_goes (.tmp 33) rfl x rfl) ?_
        rintro v ⟨g, rfl⟩
        simp only [Act.put, List.setIfInBounds_toArray, List.set_cons_zero, List.set_cons_succ]
        refine mixY_make rfl rfl valF_st (fun W hW hF => conv1_goes (.tmp 34) rfl g x hx256 rfl ((hF 5 (by kernel_rfl)).2 rfl)) ?_
        rintro _ rfl
        simp only [Act.put, List.setIfInBounds_toArray, List.set_cons_zero, List.set_cons_succ]
        repeat (refine mixY_pure rfl rfl rfl (fun K hK => ?_); go_big_quiet_op; refine hK _ ?_; clear hK K)
        refine mixY_make rfl rfl valF_st (fun W hW hF => ?_) ?_
        · have HS2 := Lib.hid (HNM.out W)
          go_simp
          with_reducible exact HS2.out
        rintro _ rfl
        simp only [Act.put, List.setIfInBounds_toArray, List.set_cons_zero, List.set_cons_succ]
        repeat (refine mixY_pure rfl rfl rfl (fun K hK => ?_); go_big_quiet_op; refine hK _ ?_; clear hK K)
        refine mixY_nil ?_
        intro W7 hW7
        have HB7 := Lib.hid (hW7.1)
        clear hW7
        have hs : (⟨p.toArray⟩ : ByteArray) ++ ⟨[UInt8.ofNat x].toArray⟩ ++ ⟨(numB (j - k + 1)).toArray⟩ = ⟨(runsB (pre ++ [(x, j - k + 1)])).toArray⟩ := by
          rw [strN_append, strN_append, runsB_snoc, HPP.out]; simp [runB]
        rw [hs]
        clear hs
        have HPN : Hid ((pre ++ [(x, j - k + 1)]) ++ runsL (l.drop (j + 1)) = runsL l) := Lib.hid (by
          have := HP.out
          rw [HRA.out HNE.out] at this
          simpa using this)
        clear x1 x5 HNM hpl hnl
        go_wp2
        go_roundw
        case rel => exact ⟨j + 1, j + 1, pre ++ [(x, j - k + 1)], by omega, Nat.le_refl _, by go_num, by go_num, rfl, HPN, Lib.hid (fun i h1 h2 _ => by omega), Lib.hid (fun e => e), Lib.hid (bTrans (bTrans HB.out k5) HB7.out)⟩
        case measure => simp [intOf]; omega
      · have hjl2 : j + 1 < l.length := by rw [HN.out]; omega
        obtain ⟨b2, off2, e2, -, hc2⟩ := (HR.out.below HB.out (Nat.le_refl _)).at_ btC_length (by decide) hjl2
        simp only [Option.some.injEq, Addr.mk.injEq, and_true] at e2
        obtain ⟨rfl, rfl⟩ := e2
        have y1 : wr.cell? ⟨b, off + (j + 1), none⟩ = some (.int .u8 (l[j + 1] : Nat)) := by
          have := hc2 0 _ rfl
          simpa using this
        have HYJ := Lib.hid (List.getElem?_eq_getElem hjl2)
        obtain ⟨y, hy⟩ : ∃ y, l[j + 1] = y := ⟨_, rfl⟩
        rw [hy] at y1 HYJ
        have g1 : ((j : Int) == (n : Int) - 1) = false := by simp; omega
        clear hc2 hy hjl2
        by_cases hyx : y = x
        · have g2 : ((y : Int) == (x : Int)) = true := by simp [hyx]
          have g3 : ((y : Int) != (x : Int)) = false := by simp [hyx]
          have HEQ : Hid (l[j + 1]? = l[j]?) := Lib.hid (by rw [HXJ.out, HYJ.out, hyx])
          have hl2 : j + 1 < n := by omega
          clear hyx
          go_upto_region 6 with fail
          refine wp_region_mild (by kernel_rfl) (by kernel_rfl) ?_
          repeat (go_big_quiet_step (fail))
          refine wpQuiet_nil ?_
          intro w5 hw'
          obtain ⟨⟨wq, k5⟩, hw''⟩ := hw'
          subst hw''
          go_wp2
          go_roundw
          case rel =>
            refine ⟨j + 1, k, pre, by omega, by omega, by go_num, rfl, by rw [HPP.out], HP, Lib.hid (fun i h1 h2 _ => ?_), Lib.hid (fun e => by omega), Lib.hid (bTrans HB.out k5)⟩
            by_cases hij : i = j
            · rw [hij]; exact HEQ.out
            · exact HE.out i h1 (by omega) hlt
          case measure => simp [intOf]; omega
        · have g2 : ((y : Int) == (x : Int)) = false := by simp; omega
          have g3 : ((y : Int) != (x : Int)) = true := by simp; omega
          have HNE : Hid (l[j + 1]? ≠ l[j]?) := Lib.hid (by
            rw [HXJ.out, HYJ.out]
            exact fun e => hyx (Option.some.inj e))
          clear hyx
          go_upto_region 6 with fail
          refine wp_region_mild (by kernel_rfl) (by kernel_rfl) ?_
          repeat (go_big_quiet_step (fail))
          refine wpQuiet_nil ?_
          intro w5 hw'
          obtain ⟨⟨wq, k5⟩, hw''⟩ := hw'
          subst hw''
          have x5 := (k5.cell (p := ⟨b, off + j, none⟩) hlb).trans x1
          have hlb5 : b < w5.heap.size := Nat.lt_of_lt_of_le hlb k5.size
          go_upto_region 7 with fail
          refine wp_region_mixedY [.pure, .pure, .pure, .pure, .held, .make, .make, .pure, .pure, .pure, .pure, .pure, .pure, .make, .pure, .pure] (fun | 5 => rowB x | 6 => valF (.string ⟨[UInt8.ofNat x].toArray⟩) | _ => valF (.string ⟨(numB (j - k + 1)).toArray⟩)) (by kernel_rfl) (by kernel_rfl) ?_
          repeat (first | (refine mixY_pure rfl rfl rfl (fun K hK => ?_); go_big_quiet_op; refine hK _ ?_; clear hK K) | (refine mixY_held rfl rfl rfl (fun K hK => ?_); go_big_quiet_op; refine hK _ ?_; clear hK K))
          refine mixY_make rfl rfl rowB_st (fun W hW hF => rowB_goes (.tmp 33) rfl x rfl) ?_
          rintro v ⟨g, rfl⟩
          simp only [Act.put, List.setIfInBounds_toArray, List.set_cons_zero, List.set_cons_succ]
          refine mixY_make rfl rfl valF_st (fun W hW hF => conv1_goes (.tmp 34) rfl g x hx256 rfl ((hF 5 (by kernel_rfl)).2 rfl)) ?_
          rintro _ rfl
          simp only [Act.put, List.setIfInBounds_toArray, List.set_cons_zero, List.set_cons_succ]
          repeat (refine mixY_pure rfl rfl rfl (fun K hK => ?_); go_big_quiet_op; refine hK _ ?_; clear hK K)
          refine mixY_make rfl rfl valF_st (fun W hW hF => ?_) ?_
          · have HS2 := Lib.hid (HNM.out W)
            go_simp
            with_reducible exact HS2.out
          rintro _ rfl
          simp only [Act.put, List.setIfInBounds_toArray, List.set_cons_zero, List.set_cons_succ]
          repeat (refine mixY_pure rfl rfl rfl (fun K hK => ?_); go_big_quiet_op; refine hK _ ?_; clear hK K)
          refine mixY_nil ?_
          intro W7 hW7
          have HB7 := Lib.hid (hW7.1)
          clear hW7
          have hs : (⟨p.toArray⟩ : ByteArray) ++ ⟨[UInt8.ofNat x].toArray⟩ ++ ⟨(numB (j - k + 1)).toArray⟩ = ⟨(runsB (pre ++ [(x, j - k + 1)])).toArray⟩ := by
            rw [strN_append, strN_append, runsB_snoc, HPP.out]; simp [runB]
          rw [hs]
          clear hs
          have HPN : Hid ((pre ++ [(x, j - k + 1)]) ++ runsL (l.drop (j + 1)) = runsL l) := Lib.hid (by
            have := HP.out
            rw [HRA.out HNE.out] at this
            simpa using this)
          clear x1 x5 HNM hpl hnl
          go_wp2
          go_roundw
          case rel => exact ⟨j + 1, j + 1, pre ++ [(x, j - k + 1)], by omega, Nat.le_refl _, by go_num, by go_num, rfl, HPN, Lib.hid (fun i h1 h2 _ => by omega), Lib.hid (fun e => e), Lib.hid (bTrans (bTrans HB.out k5) HB7.out)⟩
          case measure => simp [intOf]; omega
    · have hjn : j = n := by omega
      go_wp2
      go_ret
      have hk := HZ.out hjn
      have h1 := HP.out
      rw [hk, List.drop_of_length_le (by rw [HN.out]; exact Nat.le_refl _), runsL_nil, List.append_nil] at h1
      exact ⟨by rw [h1]; rfl, HB.out⟩
end
section
open Go.RowKit
section
variable {α : Type} {P : Program} {n : Nat}
/-- What an iterator may turn: cells of its own, and those of G. -/
def TurnsG (G : Nat → Prop) (B m : Nat) (A : World) (row : Option Nat) : Prop := ∀ r, row = some r → (G r ∨ (B ≤ r ∧ r < m)) ∧ ∃ o : Obj, A.heap[r]? = some o ∧ o.isCells = true
/-- What abides growth, and such turns. -/
def AbidesG (G : Nat → Prop) (B : Nat) (J : Nat → List α → World → Prop) : Prop := ∀ m pre A A' row, J m pre A → A.grownBy A' row → TurnsG G B m A row → J m pre A'
/-- The contract of an iterator that keeps state in cells and stops when it is told to: in the end all has come (S) or it was left (Sp). -/
def SeqStG (G : Nat → Prop) (n : Nat) (P : Program) (gf : Nat) (lb : Array Value) (encs : α → Array Value) (Yp : Nat → List α → α → World → Prop) (Kp : World → World → Prop) (S Sp : List α → Prop) (w0 : World) : Prop :=
  ∀ (l : Nat) (J Js : Nat → List α → World → Prop) (W : World), Below w0.heap.size w0 W → AbidesG G W.heap.size J → AbidesG G W.heap.size Js →
    (∀ A, W.grownBy A none → J A.heap.size [] A) →
    (∀ m pre x A, W.heap.size ≤ m → J m pre A → Yp m pre x A → YieldAt Fence.wide (n - 1) P l (encs x) A fun e A' => (e = .returned (.bool true) ∧ J m (pre ++ [x]) A' ∧ Kp A A') ∨ (e = .returned (.bool false) ∧ Js m (pre ++ [x]) A')) →
    CallsIn Fence.wide n P gf (#[.func (.yield l) #[] #[]] ++ lb) W fun e A => (∃ v, e = .returned v) ∧ ∃ m xs, W.heap.size ≤ m ∧ ((S xs ∧ J m xs A) ∨ (Sp xs ∧ Js m xs A))
/-- How a round's body is left: it goes on, or it leaves the loop. -/
def goesOnG (B : Nat) (Kp : World → World → Prop) (I : List α → World → Prop) (Ix : Code → List α → World → Prop) (xs : List α) (W : World) : Exit → Act → World → Prop
  | .normal, _, W' => KeepsFrom B W W' ∧ Kp W W' ∧ I xs W'
  | .ret, _, W' => KeepsFrom B W W' ∧ Ix .ret xs W'
  | .exit id, _, W' => KeepsFrom B W W' ∧ Ix (.exit id) xs W'
  | _, _, _ => False
theorem wpIn_rangeFunc_stG {G : Nat → Prop} {g : Operand} {ps : Array Tmp} {assign body : Code} {Q : Exit → Act → World → Prop} {a : Act} {w : World} (h1 : 1 ≤ n) {gf : Nat} {lb : Array Value} (hg : a.eval g = .func (.func gf) #[] lb) (eg : ∀ args w, (callFunc gf args).run P w = .ok (.enter gf args) w)
    {encs : α → Array Value} {Yp : Nat → List α → α → World → Prop} {Kp : World → World → Prop} {S Sp : List α → Prop} (hseq : SeqStG G (n - 1) P gf lb encs Yp Kp S Sp w) (hps : ∀ x, (encs x).size = ps.size)
    (hKt : ∀ {A B C : World}, Kp A B → Kp B C → Kp A C) (hKb : ∀ (W : World) (l : Nat) (o o' : Obj), w.heap.size ≤ l → W.heap[l]? = some o → o.isCells = false → Kp W (W.putObj l o'))
    (I : Nat → List α → World → Prop) (Ix : Code → Nat → List α → World → Prop)
    (hI : ∀ m pre A A' row, I m pre A → A.grownBy A' row → (∀ r, row = some r → (w.heap.size ≤ r ∧ ∃ o : Obj, A.heap[r]? = some o ∧ o.isCells = false) ∨ ((G r ∨ (w.heap.size ≤ r ∧ r < m)) ∧ ∃ o : Obj, A.heap[r]? = some o ∧ o.isCells = true)) → I m pre A')
    (hIx : ∀ c m pre A A' row, Ix c m pre A → A.grownBy A' row → (∀ r, row = some r → (w.heap.size ≤ r ∧ ∃ o : Obj, A.heap[r]? = some o ∧ o.isCells = false) ∨ ((G r ∨ (w.heap.size ≤ r ∧ r < m)) ∧ ∃ o : Obj, A.heap[r]? = some o ∧ o.isCells = true)) → Ix c m pre A')
    (h0 : ∀ A, w.grownBy A none → I A.heap.size [] A) (Ax : α → Act → World → Prop) (hAx : ∀ x a' A l o o', Ax x a' A → w.heap.size ≤ l → A.heap[l]? = some o → o.isCells = false → Ax x a' (A.putObj l o'))
    (hassign : ∀ (l m : Nat) (pre : List α) (x : α) (W : World) (K : Act → World → Prop), w.heap.size ≤ m → I m pre W → Yp m pre x W → (∀ a' W', KeepsFrom w.heap.size W W' → Kp W W' → I m pre W' → Yp m pre x W' → Ax x a' W' → K a' W') →
      assign.wpIn (Fence.wide.inRound l) (n - 1 - 1) P (Exit.then K (fun _ _ _ => False)) { tmps := (ps.zip (encs x)).foldl (fun t (p, v) => t.setIfInBounds p v) a.tmps, defers := [] } W)
    (hYp : ∀ m pre x A l o o', Yp m pre x A → w.heap.size ≤ l → A.heap[l]? = some o → o.isCells = false → Yp m pre x (A.putObj l o'))
    (hbody : ∀ (l m : Nat) (pre : List α) (x : α) (a' : Act) (W : World), w.heap.size ≤ m → I m pre W → Yp m pre x W → Ax x a' W → body.wpIn (Fence.wide.inRound l) (n - 1 - 1) P (goesOnG w.heap.size Kp (I m) (fun c => Ix c m) (pre ++ [x]) W) a' W)
    (hdone : ∀ (D m : Nat) (xs : List α) (W : World), w.heap.size ≤ D → S xs → I m xs W → W.heap[D]? = some (.deferred (some [])) → Q .normal { a with defers := { target := .collected D, args := #[] } :: a.defers } W)
    (hstop : ∀ (D : Nat) (c : Code) (m : Nat) (xs : List α) (W : World), w.heap.size ≤ D → Sp xs → Ix c m xs W → W.heap[D]? = some (.deferred (some [])) → c.wpIn Fence.wide n P Q { a with defers := { target := .collected D, args := #[] } :: a.defers } W) :
    (Code.rangeFunc g ps assign body).wpIn Fence.wide n P Q a w := by
  refine wpIn_rangeFunc fun fn _ => ?_
  obtain ⟨rc, hrc⟩ : ∃ rc : LoopState → Option Code → Loop, rc = fun st pe => { state := st, pending := pe, fn := fn, tmps := a.tmps, params := ps, assign := assign, body := body, defers := w.heap.size } := ⟨_, rfl⟩
  obtain ⟨V, hV⟩ : ∃ V, (w.alloc (.deferred (some []))).alloc (.loop (rc .ready none)) = V := ⟨_, rfl⟩
  have hz : V.heap.size = w.heap.size + 2 := by rw [← hV]; simp
  have hgV : w.grownBy V none := by rw [← hV]; exact (World.grownBy_alloc w _ none).trans (World.grownBy_alloc _ _ none)
  have hbV : Below w.heap.size w V := by rw [← hV]; exact (((Below.refl _ w).alloc (Nat.le_refl _) _).alloc (by simp) _)
  have hl0 : V.heap[w.heap.size + 1]? = some (.loop (rc .ready none)) := by
    rw [← hV]
    have := World.alloc_heap_new (w.alloc (.deferred (some []))) (.loop (rc .ready none))
    rwa [World.size_alloc] at this
  have hd0 : V.heap[w.heap.size]? = some (.deferred (some [])) := by
    rw [← hV]
    exact (Below.heap_alloc _ _ _ (by simp)).trans (World.alloc_heap_new w _)
  have hturn : ∀ {m : Nat} {A A' : World} {row : Option Nat}, A.grownBy A' row → TurnsG G V.heap.size m A row →
      (∀ (k : Nat) (o : Obj), A.heap[k]? = some o → o.isCells = false → A'.heap[k]? = some o) ∧ (∀ r, row = some r → (w.heap.size ≤ r ∧ ∃ o : Obj, A.heap[r]? = some o ∧ o.isCells = false) ∨ ((G r ∨ (w.heap.size ≤ r ∧ r < m)) ∧ ∃ o : Obj, A.heap[r]? = some o ∧ o.isCells = true)) := fun hgr hrow => by
    refine ⟨fun k o hk ho => ?_, fun r e => ?_⟩
    · rw [hgr.block k (Array.getElem?_eq_some_iff.1 hk).1 (fun e => by
        obtain ⟨-, o', ho', hc⟩ := hrow k e.symm
        rw [hk] at ho'; cases ho'; rw [ho] at hc; cases hc)]
      exact hk
    · obtain ⟨q1, q3⟩ := hrow r e
      refine .inr ⟨?_, q3⟩
      rcases q1 with q1 | q1
      · exact .inl q1
      · exact .inr ⟨by omega, q1.2⟩
  refine ⟨w.heap.size + 1, [{ target := .collected w.heap.size, args := #[] }], V, { target := .fn (.func gf) lb, args := #[.func (.yield (w.heap.size + 1)) #[] #[]] }, V, gf, #[.func (.yield (w.heap.size + 1)) #[] #[]] ++ lb, V, ?_, ?_, fun _ _ => trivial, ?_, fun _ => h1, ?_⟩
  · rw [← hV, hrc]; exact run_enterLoop_outer _ _ _ _ _
  · simp only [resolve, hg]
    simp [go_sem]
  · simp [invoke, go_sem, eg]
  · refine (hseq (w.heap.size + 1) (fun m pre W => I m pre W ∧ W.heap[w.heap.size + 1]? = some (.loop (rc .ready none)) ∧ W.heap[w.heap.size]? = some (.deferred (some [])))
      (fun m pre W => ∃ c, Ix c m pre W ∧ W.heap[w.heap.size + 1]? = some (.loop (rc .done (some c))) ∧ W.heap[w.heap.size]? = some (.deferred (some []))) V hbV ?_ ?_ ?_ ?_).mono ?_
    · rintro m pre A A' row ⟨hi, hl, hd⟩ hgr hrow
      obtain ⟨h2, h3⟩ := hturn hgr hrow
      exact ⟨hI m pre A A' row hi hgr h3, h2 _ _ hl rfl, h2 _ _ hd rfl⟩
    · rintro m pre A A' row ⟨c, hi, hl, hd⟩ hgr hrow
      obtain ⟨h2, h3⟩ := hturn hgr hrow
      exact ⟨c, hIx c m pre A A' row hi hgr h3, h2 _ _ hl rfl, h2 _ _ hd rfl⟩
    · intro A hA
      refine ⟨h0 A (hgV.trans hA), ?_, ?_⟩
      · rw [hA.block _ (by omega) (by simp)]; exact hl0
      · rw [hA.block _ (by omega) (by simp)]; exact hd0
    · rintro m pre x A hm ⟨hi, hl, hd⟩ hyp
      have hy := run_yield (P := P) (args := encs x) hl (by rw [hrc]; exact hps x)
      rw [hrc] at hy
      refine ⟨fn, _, assign, body, hy, roundIn_of_wpIn trivial (hassign _ m pre x A _ (by omega) hi hyp ?_)⟩
      intro a' B hkf hkp hib hyb hax
      have hlB := hkf.same _ _ (by omega) hl rfl
      have hdB := hkf.same _ _ (Nat.le_refl _) hd rfl
      have hltB : w.heap.size + 1 < B.heap.size := (Array.getElem?_eq_some_iff.1 hlB).1
      refine ⟨_, run_beginRound hlB (by rw [hrc]), ?_⟩
      have hrow : ∀ (C : World) (o : Obj), C.heap[w.heap.size + 1]? = some o → o.isCells = false → ∀ (m : Nat) (r : Nat), some (w.heap.size + 1) = some r → (w.heap.size ≤ r ∧ ∃ o : Obj, C.heap[r]? = some o ∧ o.isCells = false) ∨ ((G r ∨ (w.heap.size ≤ r ∧ r < m)) ∧ ∃ o : Obj, C.heap[r]? = some o ∧ o.isCells = true) := fun C o hC ho m r e => by
        cases e; exact .inl ⟨by omega, o, hC, ho⟩
      have hput : ∀ (C : World) (o o' : Obj), C.heap[w.heap.size + 1]? = some o → o.isCells = false → ∀ m pre, I m pre C → I m pre (C.putObj (w.heap.size + 1) o') := fun C o o' hC ho m pre h =>
        hI m pre C _ _ h (grownBy_putObj' C (w.heap.size + 1) o') (hrow C o hC ho m)
      have hputx : ∀ (c : Code) (C : World) (o o' : Obj), C.heap[w.heap.size + 1]? = some o → o.isCells = false → ∀ m pre, Ix c m pre C → Ix c m pre (C.putObj (w.heap.size + 1) o') := fun c C o o' hC ho m pre h =>
        hIx c m pre C _ _ h (grownBy_putObj' C (w.heap.size + 1) o') (hrow C o hC ho m)
      obtain ⟨C, hC⟩ : ∃ C, B.putObj (w.heap.size + 1) (.loop { rc .ready none with state := .busy }) = C := ⟨_, rfl⟩
      have hlC : C.heap[w.heap.size + 1]? = some (.loop { rc .ready none with state := .busy }) := by rw [← hC]; exact World.putObj_heap_same hltB
      have hdC : C.heap[w.heap.size]? = some (.deferred (some [])) := by rw [← hC]; exact (World.putObj_heap_other (by omega)).trans hdB
      have hKC : Kp B C := by rw [← hC]; exact hKb _ _ _ _ (by omega) hlB rfl
      have hiC : I m pre C := by rw [← hC]; exact hput B _ _ hlB rfl m pre hib
      have hyC : Yp m pre x C := by rw [← hC]; exact hYp _ _ _ _ _ _ _ hyb (by omega) hlB rfl
      have haC : Ax x a' C := by rw [← hC]; exact hAx _ _ _ _ _ _ hax (by omega) hlB rfl
      rw [hC]
      have fin : ∀ (jump : Option Code) (E : World), KeepsFrom w.heap.size C E →
          (Instr.endRound (w.heap.size + 1) jump).run P E = .ok (.bool jump.isNone) (E.putObj (w.heap.size + 1) (.loop (rc (if jump.isNone then .ready else .done) jump))) ∧
          E.heap[w.heap.size + 1]? = some (.loop { rc .ready none with state := .busy }) ∧
          (E.putObj (w.heap.size + 1) (.loop (rc (if jump.isNone then .ready else .done) jump))).heap[w.heap.size + 1]? = some (.loop (rc (if jump.isNone then .ready else .done) jump)) ∧
          (E.putObj (w.heap.size + 1) (.loop (rc (if jump.isNone then .ready else .done) jump))).heap[w.heap.size]? = some (.deferred (some [])) := fun jump E hkE => by
        have hlE := hkE.same _ _ (by omega) hlC rfl
        have hdE := hkE.same _ _ (Nat.le_refl _) hdC rfl
        have hltE : w.heap.size + 1 < E.heap.size := (Array.getElem?_eq_some_iff.1 hlE).1
        have hr := run_endRound (P := P) jump hlE
        rw [hrc] at hr hlE ⊢
        exact ⟨hr, hlE, World.putObj_heap_same hltE, (World.putObj_heap_other (by omega)).trans hdE⟩
      refine wpIn_mono (hbody (w.heap.size + 1) m pre x a' C (by omega) hiC hyC haC) ?_
      intro e a3 E hp
      cases e with
      | normal =>
        obtain ⟨hkE, hkpE, hiE⟩ := hp
        obtain ⟨hr, hlE, hl4, hd4⟩ := fin none E hkE
        exact ⟨_, _, hr, .inl ⟨rfl, ⟨hput E _ _ hlE rfl m _ hiE, hl4, hd4⟩, hKt hkp (hKt hKC (hKt hkpE (hKb _ _ _ _ (by omega) hlE rfl)))⟩⟩
      | ret =>
        obtain ⟨hkE, hiE⟩ := hp
        obtain ⟨hr, hlE, hl4, hd4⟩ := fin (some .ret) E hkE
        exact ⟨_, _, hr, .inr ⟨rfl, .ret, hputx _ E _ _ hlE rfl m _ hiE, hl4, hd4⟩⟩
      | exit id =>
        obtain ⟨hkE, hiE⟩ := hp
        obtain ⟨hr, hlE, hl4, hd4⟩ := fin (some (.exit id)) E hkE
        exact ⟨_, _, hr, .inr ⟨rfl, .exit id, hputx _ E _ _ hlE rfl m _ hiE, hl4, hd4⟩⟩
      | goto t => exact hp.elim
      | panic ch => exact hp.elim
      | outgrown => exact hp.elim
    · rintro e A ⟨⟨v, rfl⟩, m, xs, hm, (⟨hS, hi, hl, hd⟩ | ⟨hSp, c, hi, hl, hd⟩)⟩
      · have hr := run_endLoop (P := P) hl (by rw [hrc]; simp)
        rw [hrc] at hr
        refine ⟨none, _, hr, hdone w.heap.size m xs _ (Nat.le_refl _) hS ?_ ((World.putObj_heap_other (by omega)).trans hd)⟩
        exact hI m xs A _ _ hi (grownBy_putObj' A (w.heap.size + 1) _) (fun r e => by cases e; exact .inl ⟨by omega, _, hl, rfl⟩)
      · have hr := run_endLoop (P := P) hl (by rw [hrc]; simp)
        rw [hrc] at hr
        refine ⟨some c, _, hr, hstop w.heap.size c m xs _ (Nat.le_refl _) hSp ?_ ((World.putObj_heap_other (by omega)).trans hd)⟩
        exact hIx c m xs A _ _ hi (grownBy_putObj' A (w.heap.size + 1) _) (fun r e => by cases e; exact .inl ⟨by omega, _, hl, rfl⟩)
end
end
section
open Go.RowKit Go.Shelf
attribute [local go_sem] Oper.semAt_some
set_option maxRecDepth 100000
set_option linter.unusedSimpArgs false
theorem wpListIn_yieldB {F : Fence} {n : Nat} {P : Program} {ops : Array Oper} {rest : List Oper} {o : Oper} {a : Act} {w w' : World} {Q : Exit → Act → World → Prop} {l : Nat} {fn : FuncId} {tms : Array Value} {assign body : Code} {R1 R2 : World → Prop}
    (hw : Region.wanted o (yielded ops a.tmps) = true) (hd : ∀ c, o.op ≠ .defer c) (ha : o.about P w a.eval = none) (hr : (execOp a.eval o).run P w = .ok (.round l fn tms assign body) w') (hn : F.depth.isSome = true → 1 ≤ n)
    (hR : RoundIn F (n - 1) P l fn tms assign body w' fun e A => (e = .returned (.bool true) ∧ R1 A) ∨ (e = .returned (.bool false) ∧ R2 A)) (h1 : ∀ A, R1 A → wpListIn F n P ops Q rest (a.put o.dst (.bool true)) A) (h2 : ∀ A, R2 A → wpListIn F n P ops Q rest (a.put o.dst (.bool false)) A) : wpListIn F n P ops Q (o :: rest) a w := by
  unfold wpListIn
  rw [if_pos hw]
  refine ⟨fun f hf => (by rw [ha] at hf; cases hf), ?_⟩
  rw [Oper.semAt_plain _ _ _ hd, hr]
  refine ⟨hn, hR.mono ?_⟩
  rintro e A (⟨rfl, hA⟩ | ⟨rfl, hA⟩)
  · exact h1 A hA
  · exact h2 A hA
end
section
open Go.RowKit Go.Shelf
attribute [local go_sem] Oper.semAt_some
set_option maxRecDepth 100000
set_option linter.unusedSimpArgs false
def strE (p : Nat × Nat) : Array Value := #[.int .u8 (p.1 : Nat), .int .i64 (p.2 : Nat)]
/-- Blocks below B0 lie as they lay, but for those of X. -/
def KpS (B0 : Nat) (X : Nat → Prop) (A B : World) : Prop := A.heap.size ≤ B.heap.size ∧ ∀ r, r < B0 → ¬ X r → B.heap[r]? = A.heap[r]?
theorem KpS.trans {B0 : Nat} {X : Nat → Prop} {A B C : World} (h : KpS B0 X A B) (k : KpS B0 X B C) : KpS B0 X A C := ⟨Nat.le_trans h.1 k.1, fun r hr hx => (k.2 r hr hx).trans (h.2 r hr hx)⟩
theorem KpS.put {B0 : Nat} {X : Nat → Prop} (W : World) (l : Nat) (_o o' : Obj) (hB : B0 ≤ l) : KpS B0 X W (W.putObj l o') := ⟨(grownBy_putObj' W l o').size, fun r hr _ => World.putObj_heap_other (by omega)⟩
theorem Rd.low2 {w V : World} {Bq B0 gl : Nat} {X : Nat → Prop} {A : Option Addr} {xs : List Value} (h : Rd w Bq A xs) (hV : ∀ r, r < B0 → ¬ X r → r ≠ gl → V.heap[r]? = w.heap[r]?) (h1 : Bq ≤ gl) (h2 : gl < B0) (hx : ∀ r, X r → Bq ≤ r ∧ r ≠ gl) : Rd V Bq A xs := fun hn => by
  obtain ⟨b, off, rfl, hb, hc⟩ := h hn
  exact ⟨b, off, rfl, hb, fun i u hu => by rw [cell_heap (hV b (by omega) (fun e => by have := (hx b e).1; omega) (by omega))]; exact hc i u hu⟩
theorem stretches_any (A : Option Addr) (n c : Nat) (w : World) : Calls Tryz.prog 165 #[.slice A n c] w fun e w' => e = .returned (.func (.func 231) #[] #[.pointer (some ⟨w.heap.size, 0, none⟩)]) ∧ w' = w.alloc (.cells #[.slice A n c] 25) := by
  go_enter Tryz.func165, Tryz.ntmps165
  go_wp2
  go_ret
  exact ⟨rfl, rfl⟩
/-- What is so of the rest. -/
structure StrF (B0 gl : Nat) (X : Nat → Prop) (w : World) (t : List Nat) (A : Option Addr) (c : Nat) (W : World) : Prop where
  cell : Blk W gl 25 #[.slice A t.length c]
  low : ∀ r, r < B0 → ¬ X r → r ≠ gl → W.heap[r]? = w.heap[r]?
  cap : t.length ≤ c
  size : B0 ≤ W.heap.size
section
variable {P : Program} {o : Oper} {a : Act} {W : World}
theorem runs_load1 (ty : TypeId) (x : Operand) (ho : o.op = .load ty x) (b i : Nat) (hx : a.eval x = .pointer (some ⟨b, i, none⟩)) {d : TypeDesc} (hu : P.underlying ty = some d) (hd : d.isRow = false) {v : Value} (hc : W.cell? ⟨b, i, none⟩ = some v) : RunsTo P o a W v := by
  unfold RunsTo execOp
  simp only [ho, hx, Instr.loadAt, Instr.sureAddr, Sem.run_bind, Sem.run_pure, Result.andThen_ok]
  cases d <;> first | (simp [loadVar, isAgg, run_underlying hu, hc]; done) | (cases hd)
theorem runs_idx0 (ty e : TypeId) (x : Operand) (ho : o.op = .indexAddr ty x (.const (.int .i64 0))) (hu : P.underlying ty = some (.slice e)) (he : (P.info? e).map (·.size) = some 1) (b i n c : Nat) (hx : a.eval x = .slice (some ⟨b, i, none⟩) (n + 1) c) : RunsTo P o a W (.pointer (some ⟨b, i, none⟩)) := by
  unfold RunsTo execOp
  have h0 : a.eval (.const (.int .i64 0)) = .int .i64 0 := rfl
  simp only [ho, hx, h0, Sem.run_bind, Sem.run_pure, Result.andThen_ok]
  obtain ⟨i1, hi1, he1⟩ : ∃ i1, P.info? e = some i1 ∧ i1.size = 1 := by
    cases h : P.info? e with
    | none => rw [h] at he; cases he
    | some z => exact ⟨z, rfl, by rw [h] at he; simpa using he⟩
  simp [Instr.indexAt, run_underlying hu, go_sem, run_sizeOf W hi1]
end
set_option maxHeartbeats 8000000 in
theorem str_seq (n : Nat) (hn : 1 ≤ n) (A : Option Addr) (c : Nat) (l : List Nat) (Bq : Nat) (X : Nat → Prop) (w : World) (gl : Nat) (hl : l.length ≤ 20000) (hb : ∀ x ∈ l, x < 256) (hc : l.length ≤ c) (hg : Blk w gl 25 #[.slice A l.length c]) (hr : Rd w Bq A (l.flatMap btC)) (hBq : Bq ≤ gl) (hx : ∀ r, X r → Bq ≤ r ∧ r ≠ gl) :
    SeqStG (fun r => r = gl) n Tryz.prog 231 #[.pointer (some ⟨gl, 0, none⟩)] strE (fun _ pre x _ => pre ++ [x] = (runsL l).take (pre.length + 1)) (KpS w.heap.size X) (fun xs => xs = runsL l) (fun _ => True) w := by
  intro lp J Js W hW hJ hJs hJ0 hY
  have HJ := Lib.hid hJ
  have HY := Lib.hid hY
  have HRD := Lib.hid hr
  have HX := Lib.hid hx
  have HBD := Lib.hid hb
  have hglw := hg.lt
  have HF0 : Hid (StrF w.heap.size gl X w l A c W) := Lib.hid ⟨hg.on hW, fun r hr _ _ => hW.block r hr, hc, hW.size⟩
  have HJ1 := Lib.hid (hJ0 W (World.grownBy.refl W none))
  have hWz := hW.size
  clear hJ hJs hJ0 hY hr hx hb hg hc
  refine callsIn_of_wp Tryz.func231 rfl trivial ?_ rfl
  simp only [Tryz.ntmps231, List.size_toArray, List.length_cons, List.length_nil, Nat.reduceAdd, Nat.reduceSub, Array.replicate_succ, Array.replicate_zero, List.push_toArray, List.append_toArray, List.nil_append, List.cons_append]
  refine wpIn_wide.2 ?_
  go_wp2_with fail
  go_loopw [3] (fun _ wr => ∃ (t : List Nat) (pre : List (Nat × Nat)) (A' : Option Addr) (c' : Nat), t.length ≤ l.length ∧ Hid (pre ++ runsL t = runsL l) ∧ Hid (∀ x ∈ t, x < 256) ∧ Hid (StrF w.heap.size gl X w t A' c' wr) ∧ Hid (∀ V, (∀ r, r < w.heap.size → ¬ X r → r ≠ gl → V.heap[r]? = w.heap[r]?) → Rd V Bq A' (t.flatMap btC)) ∧ Hid (J W.heap.size pre wr)) (fun _ wr => match wr.cell? ⟨gl, 0, none⟩ with | some (.slice _ k _) => k | _ => 0)
  case atStart => exact ⟨l, [], A, c, Nat.le_refl _, rfl, HBD, HF0, Lib.hid (fun V hV => HRD.out.low2 hV hBq hglw (fun r e => HX.out r e)), HJ1⟩
  case round =>
    obtain ⟨t, pre, A', c', htl, HP, HBT, HF, HRT, HJK⟩ := hrel
    clear HF0 HJ1 HRD HBD
    have c0 := HF.out.cell.cell 0
    have l0 := HF.out.cell.lt
    have fz := HF.out.cell.frozen 0
    simp only [List.getElem?_toArray, List.getElem?_cons_zero] at c0
    cases t with
    | nil =>
      have hpe : pre = runsL l := by have := HP.out; rwa [runsL_nil, List.append_nil] at this
      have HPE := Lib.hid hpe
      clear hpe
      rw [List.length_nil] at c0
      go_wp2_with fail
      go_end0
      exact ⟨⟨_, rfl⟩, W.heap.size, pre, Nat.le_refl _, .inl ⟨HPE.out, HJK.out⟩⟩
    | cons x r =>
      obtain ⟨w7, rfl⟩ : ∃ w7, w7 = wr := ⟨_, rfl⟩
      obtain ⟨b, off, rfl, hbb, hcx⟩ := (HRT.out w7 HF.out.low).at_ btC_length (by decide) (k := 0) (by rw [List.length_cons]; omega)
      have hcx : w7.cell? ⟨b, off, none⟩ = some (.int .u8 (x : Nat)) := by
        have := hcx 0 _ rfl
        simpa using this
      have HCJ : Hid (∀ j (hj : j < r.length), w7.cell? ⟨b, off + (j + 1), none⟩ = some (.int .u8 (r[j] : Nat))) := Lib.hid (fun j hj => by
        obtain ⟨b2, off2, e2, -, hc2⟩ := (HRT.out w7 HF.out.low).at_ btC_length (by decide) (k := j + 1) (by rw [List.length_cons]; omega)
        simp only [Option.some.injEq, Addr.mk.injEq, and_true] at e2
        obtain ⟨rfl, rfl⟩ := e2
        have := hc2 0 _ rfl
        simpa using this)
      obtain ⟨q, hq⟩ : ∃ q, r.length = q := ⟨_, rfl⟩
      have HQ := Lib.hid hq
      rw [List.length_cons, hq] at c0
      have hq1 : q + 1 ≤ 20000 := by rw [List.length_cons, hq] at htl; omega
      have hbw : b < w7.heap.size := by have := HF.out.cell.lt; omega
      have HC0 := Lib.hid c0
      have HCX := Lib.hid hcx
      have HL0 := Lib.hid l0
      have hle := headN_le x r
      rw [hq] at hle
      clear hq
      go_upto_block 2 with fail
      go_cut [3] (fun v wx => v = .int .i64 ((headN x r : Nat) + 1 : Int) ∧ Hid (Below w7.heap.size w7 wx))
      case first =>
        go_wp2_with fail
        go_loopw [3] (fun v wq => ∃ j : Nat, j ≤ q ∧ v = .int .i64 ((j : Int) + 1) ∧ Hid (headN x r = j + headN x (r.drop j)) ∧ Hid (Below w7.heap.size w7 wq)) (fun v _ => q + 1 - (intOf v).toNat)
        case atStart => exact ⟨0, Nat.zero_le _, rfl, Lib.hid (by simp), Lib.hid (Below.refl _ _)⟩
        case round =>
          obtain ⟨j, hj, rfl, HH, HB⟩ := hrel
          have c1 := (HB.out.cell (p := ⟨gl, 0, none⟩) HL0.out).trans HC0.out
          have x1 := (HB.out.cell (p := ⟨b, off, none⟩) hbw).trans HCX.out
          have hlg : gl < wr.heap.size := Nat.lt_of_lt_of_le HL0.out HB.out.size
          have hlb : b < wr.heap.size := Nat.lt_of_lt_of_le hbw HB.out.size
          clear c0 hcx fz l0
          by_cases hlt : j < q
          · have hjr : j < r.length := by rw [HQ.out]; exact hlt
            have y1 := (HB.out.cell (p := ⟨b, off + (j + 1), none⟩) hbw).trans (HCJ.out j hjr)
            have HIT := Lib.hid (fun h => headN_hit (x := x) (l := r) (j := j) hjr h)
            have MIS := Lib.hid (fun h => headN_miss (x := x) (l := r) (j := j) hjr h)
            obtain ⟨z, hz⟩ : ∃ z, r[j] = z := ⟨_, rfl⟩
            rw [hz] at y1 HIT MIS
            have g1 : decide ((j : Int) + 1 < (q : Int) + 1) = true := decide_eq_true (by omega)
            clear hz hjr
            by_cases hzx : z = x
            · have g2 : ((z : Int) == (x : Int)) = true := by simp [hzx]
              have HN := Lib.hid (HIT.out hzx)
              clear hzx
              go_upto_region 2 with fail
              refine wp_region_mild (by kernel_rfl) (by kernel_rfl) ?_
              repeat (go_big_quiet_step (fail))
              refine wpQuiet_nil ?_
              intro w5 hw'
              obtain ⟨⟨wq, k5⟩, hw''⟩ := hw'
              subst hw''
              go_wp2
              go_roundw
              case rel => exact ⟨j + 1, by omega, by push_cast; rfl, Lib.hid (by rw [HH.out, HN.out]; omega), Lib.hid (HB.out.trans (Below.mono k5 HB.out.size))⟩
              case measure => simp [intOf]; omega
            · have g2 : ((z : Int) == (x : Int)) = false := by simp; omega
              have HN : Hid (headN x r = j) := Lib.hid (by rw [HH.out, MIS.out hzx]; rfl)
              clear hzx
              go_upto_region 2 with fail
              refine wp_region_mild (by kernel_rfl) (by kernel_rfl) ?_
              repeat (go_big_quiet_step (fail))
              refine wpQuiet_nil ?_
              intro w5 hw'
              obtain ⟨⟨wq, k5⟩, hw''⟩ := hw'
              subst hw''
              go_wp2
              go_meet
              exact ⟨by rw [HN.out], Lib.hid (HB.out.trans (Below.mono k5 HB.out.size))⟩
          · have hjq : j = q := by omega
            have HN : Hid (headN x r = j) := Lib.hid (by rw [HH.out, headN_end (by rw [HQ.out]; omega)]; rfl)
            have g1 : decide ((j : Int) + 1 < (q : Int) + 1) = false := decide_eq_false (by omega)
            clear hjq
            go_upto_region 2 with fail
            refine wp_region_mild (by kernel_rfl) (by kernel_rfl) ?_
            repeat (go_big_quiet_step (fail))
            refine wpQuiet_nil ?_
            intro w5 hw'
            obtain ⟨⟨wq, k5⟩, hw''⟩ := hw'
            subst hw''
            go_wp2
            go_meet
            exact ⟨by rw [HN.out], Lib.hid (HB.out.trans (Below.mono k5 HB.out.size))⟩
      case rest =>
      obtain ⟨rfl, HB⟩ := hcut
      obtain ⟨k, hk⟩ : ∃ k, headN x r = k := ⟨_, rfl⟩
      have HK := Lib.hid hk
      rw [hk] at hle ⊢
      have HPX : pre ++ [(x, k + 1)] = (runsL l).take (pre.length + 1) := by
        rw [← HP.out, runsL_cons, HK.out]
        simp [List.take_append, List.take_of_length_le]
      have HP2 : Hid ((pre ++ [(x, k + 1)]) ++ runsL (r.drop k) = runsL l) := Lib.hid (by rw [← HP.out, runsL_cons, HK.out]; simp)
      have c1 := (HB.out.cell (p := ⟨gl, 0, none⟩) HL0.out).trans HC0.out
      have x1 := (HB.out.cell (p := ⟨b, off, none⟩) hbw).trans HCX.out
      have HJC := Lib.hid (HJ.out W.heap.size pre w7 wc none HJK.out (grown_of HB.out) (fun r e => by cases e))
      obtain ⟨fn, tmps, assign, body, hy, hR⟩ := HY.out W.heap.size pre (x, k + 1) wc (Nat.le_refl _) HJC.out HPX
      unfold strE at hy
      dsimp only at hy
      clear hk hcx fz l0 c0 HPX HCJ
      go_upto_region 4 with fail
      refine (wpIn_wide (n := n)).1 ?_
      apply wpIn_region_lit
      refine wpListIn_runs (.func (.yield lp) #[] #[]) rfl (by intro c h; cases h) rfl rfl ?_
      simp only [Act.put, List.setIfInBounds_toArray, List.set_cons_zero, List.set_cons_succ]
      refine wpListIn_runs (.slice (some ⟨b, off, none⟩) (q + 1) c') rfl (by intro c h; cases h) rfl (runs_load1 25 (.tmp 1) rfl gl 0 rfl Tryz.underlying25 rfl c1) ?_
      simp only [Act.put, List.setIfInBounds_toArray, List.set_cons_zero, List.set_cons_succ]
      refine wpListIn_runs (.pointer (some ⟨b, off, none⟩)) rfl (by intro c h; cases h) rfl (runs_idx0 25 5 (.tmp 24) rfl Tryz.underlying25 (by kernel_rfl) b off q c' rfl) ?_
      simp only [Act.put, List.setIfInBounds_toArray, List.set_cons_zero, List.set_cons_succ]
      refine wpListIn_runs (.int .u8 (x : Nat)) rfl (by intro c h; cases h) rfl (runs_load1 5 (.tmp 25) rfl b off rfl Tryz.underlying5 rfl x1) ?_
      simp only [Act.put, List.setIfInBounds_toArray, List.set_cons_zero, List.set_cons_succ]
      refine wpListIn_runs (.int .i64 ((k : Int) + 1)) rfl (by intro c h; cases h) rfl rfl ?_
      simp only [Act.put, List.setIfInBounds_toArray, List.set_cons_zero, List.set_cons_succ]
      refine wpListIn_yieldB (l := lp) (fn := fn) (tms := tmps) (assign := assign) (body := body) ?_ ?_ ?_ ?_ (fun _ => hn) hR ?_ ?_
      · rfl
      · intro c h; cases h
      · rfl
      · exact runs_yield (.tmp 23) [.tmp 26, .tmp 27] rfl rfl rfl rfl hy
      rotate_left
      · intro w9 hJ9
        have HJ9 := Lib.hid hJ9
        clear hJ9
        simp only [Act.put, List.setIfInBounds_toArray, List.set_cons_zero, List.set_cons_succ]
        refine wpListIn_runs (.bool true) rfl (by intro c h; cases h) rfl rfl ?_
        simp only [Act.put, List.setIfInBounds_toArray, List.set_cons_zero, List.set_cons_succ]
        refine wpListIn_nil ?_
        go_wp2_with fail
        refine bodyPost_ret (results_none rfl _ _ _) rfl ?_
        exact ⟨⟨_, rfl⟩, W.heap.size, _, Nat.le_refl _, .inr ⟨trivial, HJ9.out⟩⟩
      rintro w9 ⟨hJ9, hk9⟩
      simp only [Act.put, List.setIfInBounds_toArray, List.set_cons_zero, List.set_cons_succ]
      refine wpListIn_runs (.bool false) rfl (by intro c h; cases h) rfl rfl ?_
      simp only [Act.put, List.setIfInBounds_toArray, List.set_cons_zero, List.set_cons_succ]
      refine wpListIn_nil ?_
      have hgx : ¬ X gl := fun e => (HX.out _ e).2 rfl
      have hG9 : Blk w9 gl 25 #[.slice (some ⟨b, off, none⟩) (q + 1) c'] := by
        have h1 := HF.out.cell.on HB.out
        rw [List.length_cons, HQ.out] at h1
        exact (hk9.2 gl hglw hgx).trans h1
      have c9 := hG9.cell 0
      have l9 := hG9.lt
      have f9 := hG9.frozen 0
      simp only [List.getElem?_toArray, List.getElem?_cons_zero] at c9
      have HKP := Lib.hid hk9
      have HJ9 := Lib.hid hJ9
      have hcc : q + 1 ≤ c' := by have := HF.out.cap; rw [List.length_cons, HQ.out] at this; exact this
      clear hk9 hJ9 HJC hy hR c1 x1
      go_wp2_with fail
      obtain ⟨A2, hA2⟩ : ∃ A2 : Option Addr, (if c' = k + 1 then some (⟨b, off, none⟩ : Addr) else some ⟨b, off + (k + 1), none⟩) = A2 := ⟨_, rfl⟩
      rw [hA2]
      have hG10 := hG9.set 0 (.slice A2 (q - k) (c' - (k + 1)))
      have hlen : (r.drop k).length = q - k := by rw [List.length_drop, HQ.out]
      have hJ10 := HJ.out W.heap.size _ w9 _ (some gl) HJ9.out (grownBy_setCell' w9 gl (.slice A2 (q - k) (c' - (k + 1)))) (fun r e => by cases e; exact ⟨.inl rfl, _, hG9, rfl⟩)
      refine ⟨⟨r.drop k, pre ++ [(x, k + 1)], A2, c' - (k + 1), by rw [hlen]; rw [List.length_cons, HQ.out] at htl; omega, HP2, Lib.hid (fun y hy => HBT.out y (List.mem_cons_of_mem _ (List.mem_of_mem_drop hy))), Lib.hid ⟨?_, ?_, ?_, ?_⟩, Lib.hid ?_, Lib.hid hJ10⟩, ?_⟩
      · rw [hlen]
        simpa using hG10
      · intro r1 hr1 hx1 hn1
        exact (Below.heap_setCell w9 _ _ r1 hn1).trans ((HKP.out.2 r1 hr1 hx1).trans ((HB.out.block r1 (by have := HF.out.size; omega)).trans (HF.out.low r1 hr1 hx1 hn1)))
      · rw [hlen]; omega
      · have h1 := HF.out.size
        have h2 := HB.out.size
        have h3 := HKP.out.1
        have h4 := (grownBy_setCell' w9 gl (.slice A2 (q - k) (c' - (k + 1)))).size
        omega
      · intro V hV
        by_cases he : c' = k + 1
        · have : r.drop k = [] := List.eq_nil_of_length_eq_zero (by rw [hlen]; omega)
          rw [this]
          exact Rd.nil _ _ _
        · rw [if_neg he] at hA2
          rw [← hA2]
          have h1 := (HRT.out V hV).sub btC_length (k := k + 1) (i := (x :: r).length) (by rw [List.length_cons, HQ.out]; omega) (Nat.le_refl _)
          rw [List.take_length, Nat.mul_one, List.drop_succ_cons] at h1
          exact h1
      · have e1 := hG10.cell 0
        simp only [List.getElem?_toArray, List.getElem?_cons_zero, List.setIfInBounds_toArray, List.set_cons_zero] at e1
        rw [e1, HC0.out]
        show q - k < q + 1
        omega
end
end Go.Proofs.YtibeihcpehikoaaGreat
