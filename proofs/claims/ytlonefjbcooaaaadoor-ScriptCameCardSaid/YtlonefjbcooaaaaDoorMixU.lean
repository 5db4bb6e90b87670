/-
  A region that draws its order: what makes and what writes waits for one another (a sequence); behind what writes the world that it leaves is the new base, out of which what reads reads. Printed by gen_mixu.py out of XMixS.
-/
import Derived.Test.YtlonefjbcooaaaaDoorMixT
namespace Go.Proofs.YtlonefjbcooaaaaDoor
open Go.RowKit
section
variable {P : Program} {ops : Array Oper} {md : Region.Mode} {kd : Nat → Kd}
def muStep (P : Program) (ops : Array Oper) (kd : Nat → Kd) (o : Oper) (i : Nat) (K : Act → World → (World → Prop) → Prop) (a : Act) (w : World) (D : World → Prop) : Prop :=
  if Region.wanted o (yielded ops a.tmps) = true then
    match kd i with
    | .pure => ∃ v, (∀ W, RunsTo P o a W v) ∧ K (a.put o.dst v) w D
    | .held => (∀ W, D W → Grown w W) ∧ ∃ v, (∀ W, Grown w W → RunsTo P o a W v) ∧ K (a.put o.dst v) w D
    | .make => (∀ W, D W → Grown w W) ∧ ∃ (S : Value → Prop) (R : Value → World → Prop), (∀ W, D W → Oper.goes P o a W (fun u W' => (S u ∧ R u W') ∧ Grown W W')) ∧ ∀ v, S v → Ne (fun W => R v W ∧ Grown w W) → K (a.put o.dst v) w (fun W => R v W ∧ Grown w W)
    | .tail => ∃ T : Value → World → Prop, (∀ W, D W → Oper.goes P o a W T) ∧ ∀ v W', T v W' → K (a.put o.dst v) W' (Grown W')
  else K (a.put o.dst undef) w D
def muOp (P : Program) (ops : Array Oper) (kd : Nat → Kd) (i : Nat) (K : Act → World → (World → Prop) → Prop) (a : Act) (w : World) (D : World → Prop) : Prop :=
  match ops[i]? with
  | none => K a w D
  | some o => muStep P ops kd o i K a w D
theorem muStep_mono {o : Oper} {i : Nat} {a : Act} {w : World} {D : World → Prop} {K K' : Act → World → (World → Prop) → Prop} (hne : Ne D) (h : ∀ a w D, Ne D → K a w D → K' a w D) (hh : muStep P ops kd o i K a w D) : muStep P ops kd o i K' a w D := by
  unfold muStep at *
  split
  · rename_i hw
    rw [if_pos hw] at hh
    cases hk : kd i <;> rw [hk] at hh <;> simp only at hh ⊢
    · obtain ⟨v, h1, h2⟩ := hh; exact ⟨v, h1, h _ _ _ hne h2⟩
    · obtain ⟨h0, v, h1, h2⟩ := hh; exact ⟨h0, v, h1, h _ _ _ hne h2⟩
    · obtain ⟨h0, S, R, h1, h2⟩ := hh; exact ⟨h0, S, R, h1, fun v hv hn => h _ _ _ hn (h2 v hv hn)⟩
    · obtain ⟨T, h1, h2⟩ := hh; exact ⟨T, h1, fun v W' ht => h _ _ _ ⟨W', Grown.refl W'⟩ (h2 v W' ht)⟩
  · rename_i hw; rw [if_neg hw] at hh; exact h _ _ _ hne hh
theorem muOp_mono {i : Nat} {a : Act} {w : World} {D : World → Prop} {K K' : Act → World → (World → Prop) → Prop} (hne : Ne D) (h : ∀ a w D, Ne D → K a w D → K' a w D) (hh : muOp P ops kd i K a w D) : muOp P ops kd i K' a w D := by
  unfold muOp at *
  split
  · rename_i ho; simp only [ho] at hh; exact h _ _ _ hne hh
  · rename_i o ho; simp only [ho] at hh; exact muStep_mono hne h hh
theorem muStep_some {o : Oper} {i : Nat} {a : Act} {w : World} {D : World → Prop} {K : Act → World → (World → Prop) → Prop} (hne : Ne D) (hh : muStep P ops kd o i K a w D) : ∃ a' w' D', Ne D' ∧ K a' w' D' := by
  unfold muStep at hh
  split at hh
  · cases hk : kd i <;> rw [hk] at hh <;> simp only at hh
    · obtain ⟨v, -, h2⟩ := hh; exact ⟨_, _, _, hne, h2⟩
    · obtain ⟨-, v, -, h2⟩ := hh; exact ⟨_, _, _, hne, h2⟩
    · obtain ⟨h0, S, R, h1, h2⟩ := hh
      obtain ⟨W, hW⟩ := hne
      obtain ⟨v, W', ⟨hs, hr⟩, hg⟩ := goes_some (h1 W hW)
      have hn : Ne (fun W => R v W ∧ Grown w W) := ⟨W', hr, (h0 W hW).trans hg⟩
      exact ⟨_, _, _, hn, h2 v hs hn⟩
    · obtain ⟨T, h1, h2⟩ := hh
      obtain ⟨W, hW⟩ := hne
      obtain ⟨v, W', ht⟩ := goes_some (h1 W hW)
      exact ⟨_, _, _, ⟨W', Grown.refl W'⟩, h2 v W' ht⟩
  · exact ⟨_, _, _, hne, hh⟩
/-- Which kinds may come in either order. -/
def swapU (a b : Kd) : Bool := match a, b with
  | .pure, _ => true
  | _, .pure => true
  | .tail, _ => false
  | _, .tail => false
  | .make, .make => false
  | _, _ => true
theorem muStep_swap {i j : Nat} {oi oj : Oper} (hap : oi.apart ops oj = true) (hsi : ∀ cs b, oi.op ≠ .select cs b) (hsj : ∀ cs b, oj.op ≠ .select cs b) (hk : swapU (kd i) (kd j) = true) {K : Act → World → (World → Prop) → Prop} {a : Act} {w : World} {D : World → Prop} (hne : Ne D)
    (h : muStep P ops kd oi i (fun a1 w1 D1 => muStep P ops kd oj j K a1 w1 D1) a w D) : muStep P ops kd oj j (fun a2 w2 D2 => muStep P ops kd oi i K a2 w2 D2) a w D := by
  obtain ⟨h1, h2, h3⟩ := Oper.apart_spec hap
  have ei : ∀ (a : Act) u, execOp (a.put oj.dst u).eval oi = execOp a.eval oi := fun a u => execOp_put oi hsi a oj.dst u h3
  have ej : ∀ (a : Act) u, execOp (a.put oi.dst u).eval oj = execOp a.eval oj := fun a u => execOp_put oj hsj a oi.dst u h1
  have wi : ∀ (a : Act) u, Region.wanted oi (yielded ops (a.put oj.dst u).tmps) = Region.wanted oi (yielded ops a.tmps) := fun a u => wanted_put oi a oj.dst u h3
  have wj : ∀ (a : Act) u, Region.wanted oj (yielded ops (a.put oi.dst u).tmps) = Region.wanted oj (yielded ops a.tmps) := fun a u => wanted_put oj a oi.dst u h1
  have pc : ∀ (a : Act) u v, (a.put oi.dst u).put oj.dst v = (a.put oj.dst v).put oi.dst u := fun a u v => Act.put_comm a u v h2
  have ri : ∀ (a : Act) u W v, RunsTo P oi (a.put oj.dst u) W v ↔ RunsTo P oi a W v := fun a u W v => by unfold RunsTo; rw [ei]
  have rj : ∀ (a : Act) u W v, RunsTo P oj (a.put oi.dst u) W v ↔ RunsTo P oj a W v := fun a u W v => by unfold RunsTo; rw [ej]
  have gi : ∀ (a : Act) u W T, Oper.goes P oi (a.put oj.dst u) W T ↔ Oper.goes P oi a W T := fun a u W T => by unfold Oper.goes; rw [ei]
  have gj : ∀ (a : Act) u W T, Oper.goes P oj (a.put oi.dst u) W T ↔ Oper.goes P oj a W T := fun a u W T => by unfold Oper.goes; rw [ej]
  unfold muStep at h ⊢
  simp only [wi, wj, ri, rj, gi, gj] at h ⊢
  by_cases hwi : Region.wanted oi (yielded ops a.tmps) = true
  · by_cases hwj : Region.wanted oj (yielded ops a.tmps) = true
    · simp only [hwi, hwj, if_true] at h ⊢
      cases hki : kd i <;> cases hkj : kd j <;> rw [hki, hkj] at hk <;> simp only [hki, hkj] at h ⊢
      case tail.tail => simp [swapU] at hk
      case tail.held => simp [swapU] at hk
      case tail.make => simp [swapU] at hk
      case held.tail => simp [swapU] at hk
      case make.tail => simp [swapU] at hk
      case make.make => simp [swapU] at hk
      case pure.pure =>
        obtain ⟨v, hv, u, hu, hK⟩ := h
        exact ⟨u, hu, v, hv, by rw [← pc]; exact hK⟩
      case pure.held =>
        obtain ⟨v, hv, hD, u, hu, hK⟩ := h
        exact ⟨hD, u, hu, v, hv, by rw [← pc]; exact hK⟩
      case pure.make =>
        obtain ⟨v, hv, hD, S, R, hM, hK⟩ := h
        exact ⟨hD, S, R, hM, fun u hu hn => ⟨v, hv, by rw [← pc]; exact hK u hu hn⟩⟩
      case pure.tail =>
        obtain ⟨v, hv, T, hg, hK⟩ := h
        exact ⟨T, hg, fun u W' hu => ⟨v, hv, by rw [← pc]; exact hK u W' hu⟩⟩
      case held.pure =>
        obtain ⟨hD, v, hv, u, hu, hK⟩ := h
        exact ⟨u, hu, hD, v, hv, by rw [← pc]; exact hK⟩
      case held.held =>
        obtain ⟨hD, v, hv, -, u, hu, hK⟩ := h
        exact ⟨hD, u, hu, hD, v, hv, by rw [← pc]; exact hK⟩
      case held.make =>
        obtain ⟨hD, v, hv, -, S, R, hM, hK⟩ := h
        exact ⟨hD, S, R, hM, fun u hu hn => ⟨fun W hW => hW.2, v, hv, by rw [← pc]; exact hK u hu hn⟩⟩
      case make.pure =>
        obtain ⟨hD, S, R, hM, hK⟩ := h
        obtain ⟨W, hW⟩ := hne
        obtain ⟨v0, W', ⟨hs0, hr0⟩, hg0⟩ := goes_some (hM W hW)
        obtain ⟨u, hu, -⟩ := hK v0 hs0 ⟨W', hr0, (hD W hW).trans hg0⟩
        refine ⟨u, hu, hD, S, R, hM, fun v hv hn => ?_⟩
        obtain ⟨u', hu', hK'⟩ := hK v hv hn
        have : u' = u := runsTo_uniq (hu' W) (hu W)
        subst this
        rw [← pc]; exact hK'
      case make.held =>
        obtain ⟨hD, S, R, hM, hK⟩ := h
        obtain ⟨W, hW⟩ := hne
        obtain ⟨v0, W', ⟨hs0, hr0⟩, hg0⟩ := goes_some (hM W hW)
        obtain ⟨-, u, hu, -⟩ := hK v0 hs0 ⟨W', hr0, (hD W hW).trans hg0⟩
        refine ⟨hD, u, hu, hD, S, R, hM, fun v hv hn => ?_⟩
        obtain ⟨-, u', hu', hK'⟩ := hK v hv hn
        have : u' = u := runsTo_uniq (hu' w (Grown.refl w)) (hu w (Grown.refl w))
        subst this
        rw [← pc]; exact hK'
      case tail.pure =>
        obtain ⟨T, hg, hK⟩ := h
        obtain ⟨W, hW⟩ := hne
        obtain ⟨v0, W', ht0⟩ := goes_some (hg W hW)
        obtain ⟨u, hu, -⟩ := hK v0 W' ht0
        refine ⟨u, hu, T, hg, fun v W2 ht => ?_⟩
        obtain ⟨u', hu', hK'⟩ := hK v W2 ht
        have : u' = u := runsTo_uniq (hu' W) (hu W)
        subst this
        rw [← pc]; exact hK'
    · simp only [hwi, hwj, if_true, Bool.false_eq_true, if_false] at h ⊢
      cases hki : kd i <;> simp only [hki] at h ⊢
      · obtain ⟨v, hv, hK⟩ := h; exact ⟨v, hv, by rw [← pc]; exact hK⟩
      · obtain ⟨hD, v, hv, hK⟩ := h; exact ⟨hD, v, hv, by rw [← pc]; exact hK⟩
      · obtain ⟨hD, S, R, hM, hK⟩ := h; exact ⟨hD, S, R, hM, fun v hv hn => by rw [← pc]; exact hK v hv hn⟩
      · obtain ⟨T, hg, hK⟩ := h; exact ⟨T, hg, fun v W' ht => by rw [← pc]; exact hK v W' ht⟩
  · by_cases hwj : Region.wanted oj (yielded ops a.tmps) = true
    · simp only [hwi, hwj, if_true, Bool.false_eq_true, if_false] at h ⊢
      cases hkj : kd j <;> simp only [hkj] at h ⊢
      · obtain ⟨v, hv, hK⟩ := h; exact ⟨v, hv, by rw [← pc]; exact hK⟩
      · obtain ⟨hD, v, hv, hK⟩ := h; exact ⟨hD, v, hv, by rw [← pc]; exact hK⟩
      · obtain ⟨hD, S, R, hM, hK⟩ := h; exact ⟨hD, S, R, hM, fun v hv hn => by rw [← pc]; exact hK v hv hn⟩
      · obtain ⟨T, hg, hK⟩ := h; exact ⟨T, hg, fun v W' ht => by rw [← pc]; exact hK v W' ht⟩
    · simp only [hwi, hwj, Bool.false_eq_true, if_false] at h ⊢
      rw [← pc]; exact h
def wpAnyU (P : Program) (md : Region.Mode) (ops : Array Oper) (kd : Nat → Kd) (E : Act → World → (World → Prop) → Prop) : Nat → Array Bool → Act → World → (World → Prop) → Prop
  | 0, listed, a, w, D => Region.ready md ops listed = [] ∧ E a w D
  | f + 1, listed, a, w, D => (Region.ready md ops listed = [] → E a w D) ∧ ∀ i ∈ Region.ready md ops listed, muOp P ops kd i (wpAnyU P md ops kd E f (listed.setIfInBounds i true)) a w D
theorem wpOp_of_muOp {i : Nat} {a : Act} {w : World} {D : World → Prop} {K : Act → World → (World → Prop) → Prop} {K' : Act → World → Prop} {Q' : Exit → Act → World → Prop} {W : World} (hW : D W)
    (h : ∀ a w D W', D W' → K a w D → K' a W') (hh : muOp P ops kd i K a w D) : wpOp P ops Q' i K' a W := by
  unfold muOp at hh
  unfold wpOp
  split
  · rename_i ho; simp only [ho] at hh; exact h _ _ _ _ hW hh
  · rename_i o ho
    simp only [ho] at hh
    unfold muStep at hh
    split
    · rename_i hw
      rw [if_pos hw] at hh
      left
      cases hk : kd i <;> rw [hk] at hh <;> simp only at hh
      · obtain ⟨v, h1, h2⟩ := hh
        have h1 := h1 W
        unfold RunsTo at h1
        unfold Oper.wp
        rw [h1]
        exact h _ _ _ _ hW h2
      · obtain ⟨hD, v, h1, h2⟩ := hh
        have h1 := h1 W (hD W hW)
        unfold RunsTo at h1
        unfold Oper.wp
        rw [h1]
        exact h _ _ _ _ hW h2
      · obtain ⟨hD, S, R, hM, hK⟩ := hh
        exact Oper.wp_of_goes (hM W hW) fun v W' ⟨⟨hs, hr⟩, hg⟩ => h _ _ _ W' ⟨hr, (hD W hW).trans hg⟩ (hK v hs ⟨W', hr, (hD W hW).trans hg⟩)
      · obtain ⟨T, hg, hK⟩ := hh
        exact Oper.wp_of_goes (hg W hW) fun v W' ht => h _ _ _ W' (Grown.refl W') (hK v W' ht)
    · rename_i hw; rw [if_neg hw] at hh; exact h _ _ _ _ hW hh
theorem wpAny_of_U {Q : Exit → Act → World → Prop} : ∀ (f : Nat) (listed : Array Bool) (a : Act) (w : World) (D : World → Prop) (W : World), D W → wpAnyU P md ops kd (fun a _ D => ∀ W, D W → Q .normal a W) f listed a w D → wpAny P md ops Q f listed a W
  | 0, _, _, _, _, _, hW, h => ⟨h.1, h.2 _ hW⟩
  | f + 1, _, _, _, _, _, hW, h => ⟨fun h0 => h.1 h0 _ hW, fun i hi => wpOp_of_muOp hW (fun a' w' D' W' hW' h' => wpAny_of_U f _ a' w' D' W' hW' h') (h.2 i hi)⟩
/-- For whom one waits, directly or through others: as bits. -/
def edgesMask (md : Region.Mode) (ms : List Nat) : List Edge → Nat
  | [] => 0
  | e :: r => (if Region.binds md e = true then 2 ^ e.on ||| ms.getD e.on 0 else 0) ||| edgesMask md ms r
def masksOf (md : Region.Mode) : List Oper → List Nat → List Nat
  | [], ms => ms
  | o :: r, ms => masksOf md r (ms ++ [edgesMask md ms o.after.toList])
def waitsM (md : Region.Mode) (ops : Array Oper) (j i : Nat) : Bool := ((masksOf md ops.toList []).getD j 0).testBit i
/-- What waiting is. -/
def WaitsP (md : Region.Mode) (ops : Array Oper) (j i : Nat) : Prop := ∀ listed, Closed md ops listed → (∀ oj, ops[j]? = some oj → ∀ e ∈ oj.after, Region.binds md e = true → listed.getD e.on false = true) → listed.getD i false = true
theorem edgesMask_bit {ms : List Nat} (hms : ∀ j i, (ms.getD j 0).testBit i = true → WaitsP md ops j i) {i : Nat} : ∀ (l : List Edge), (edgesMask md ms l).testBit i = true → ∀ listed, Closed md ops listed → (∀ e ∈ l, Region.binds md e = true → listed.getD e.on false = true) → listed.getD i false = true
  | [], h, _, _, _ => by simp [edgesMask] at h
  | e :: r, h, listed, hcl, hd => by
    rw [edgesMask, Nat.testBit_or, Bool.or_eq_true] at h
    rcases h with h | h
    · by_cases hb : Region.binds md e = true
      · rw [if_pos hb, Nat.testBit_or, Bool.or_eq_true] at h
        have hl := hd e (by simp) hb
        rcases h with h | h
        · rw [Nat.testBit_two_pow] at h
          have : e.on = i := by simpa using h
          rw [← this]; exact hl
        · exact hms e.on i h listed hcl (fun ok hok e' he hb' => hcl e.on ok hok hl e' he hb')
      · rw [if_neg hb] at h; simp at h
    · exact edgesMask_bit hms r h listed hcl (fun e' he => hd e' (by simp [he]))
theorem masksOf_ok : ∀ (l : List Oper) (ms : List Nat), (∀ k, l[k]? = ops[ms.length + k]?) → (∀ j i, (ms.getD j 0).testBit i = true → WaitsP md ops j i) → ∀ j i, ((masksOf md l ms).getD j 0).testBit i = true → WaitsP md ops j i
  | [], _, _, hms, j, i, h => hms j i h
  | o :: r, ms, hl, hms, j, i, h => by
    refine masksOf_ok r _ (fun k => ?_) (fun j i hji => ?_) j i h
    · have := hl (k + 1)
      rw [List.length_append, List.length_singleton]
      simpa [Nat.add_assoc, Nat.add_comm 1 k] using this
    · by_cases hj : j < ms.length
      · rw [List.getD_eq_getElem?_getD, List.getElem?_append_left hj, ← List.getD_eq_getElem?_getD] at hji
        exact hms j i hji
      · by_cases hj2 : j = ms.length
        · subst hj2
          rw [List.getD_eq_getElem?_getD, List.getElem?_append_right (Nat.le_refl _)] at hji
          simp only [Nat.sub_self, List.getElem?_cons_zero, Option.getD_some] at hji
          intro listed hcl hd
          have h0 : ops[ms.length]? = some o := by simpa using (hl 0).symm
          exact edgesMask_bit hms _ hji listed hcl (fun e he hb => hd o h0 e (by simpa using he) hb)
        · rw [List.getD_eq_getElem?_getD, List.getElem?_eq_none (by simp; omega)] at hji
          simp at hji
theorem waitsM_ready {listed : Array Bool} (h : Closed md ops listed) {j i : Nat} (hj : j ∈ Region.ready md ops listed) (hw : waitsM md ops j i = true) : listed.getD i false = true :=
  masksOf_ok ops.toList [] (fun k => by simp) (fun j i h => by simp at h) j i hw listed h (fun oj hoj e he hb => by
    obtain ⟨-, o, ho, hall⟩ := mem_ready.1 hj
    obtain rfl : o = oj := Option.some.inj (ho.symm.trans hoj)
    exact hall e he hb)
theorem wpAnyU_first {E : Act → World → (World → Prop) → Prop} {i : Nat} {oi : Oper} (hi : ops[i]? = some oi) (hsel : ∀ (j : Nat) (o : Oper) cs b, ops[j]? = some o → o.op ≠ .select cs b)
    (hsw : ∀ j, j < ops.size → j ≠ i → swapU (kd i) (kd j) = false → waitsM md ops j i = true ∨ waitsM md ops i j = true) :
    ∀ (f : Nat) (listed : Array Bool) (a : Act) (w : World) (D : World → Prop), Ne D → Closed md ops listed →
      (∀ j oj, ops[j]? = some oj → j ≠ i → listed.getD j true = false → (∀ e ∈ oj.after, Region.binds md e = true → e.on ≠ i) → oi.apart ops oj = true) →
      i ∈ Region.ready md ops listed → muOp P ops kd i (wpAnyU P md ops kd E f (listed.setIfInBounds i true)) a w D → wpAnyU P md ops kd E (f + 1) listed a w D := by
  intro f
  induction f with
  | zero =>
    intro listed a w D hne _ _ hr H
    refine ⟨fun h => (by rw [h] at hr; cases hr), fun j hj => ?_⟩
    by_cases hji : j = i
    · subst hji; exact H
    · unfold muOp at H
      rw [hi] at H
      obtain ⟨a', w', D', -, h0, -⟩ := muStep_some hne H
      have := ready_mono hj hji
      rw [h0] at this; cases this
  | succ f ih =>
    intro listed a w D hne hcl hfree hr H
    refine ⟨fun h => (by rw [h] at hr; cases hr), fun j hj => ?_⟩
    by_cases hji : j = i
    · subst hji; exact H
    · obtain ⟨hjun, oj, hoj, hall⟩ := mem_ready.1 hj
      have hun := (mem_ready.1 hr).1
      have hnot : ∀ e ∈ oj.after, Region.binds md e = true → e.on ≠ i := fun e he hb heq => by
        have h1 := hall e he hb
        rw [heq, getD_both hun] at h1
        cases h1
      have hap := hfree j oj hoj hji hjun hnot
      have hswap : swapU (kd i) (kd j) = true := by
        cases hs : swapU (kd i) (kd j) with
        | true => rfl
        | false =>
          rcases hsw j (Array.getElem?_eq_some_iff.1 hoj).1 hji hs with h1 | h1
          · have h2 := waitsM_ready hcl hj h1
            rw [getD_both hun] at h2; cases h2
          · have h2 := waitsM_ready hcl hr h1
            rw [getD_both hjun] at h2; cases h2
      have hfree' : ∀ k ok, ops[k]? = some ok → k ≠ i → (listed.setIfInBounds j true).getD k true = false →
          (∀ e ∈ ok.after, Region.binds md e = true → e.on ≠ i) → oi.apart ops ok = true := fun k ok hk hki hun' hno => by
        refine hfree k ok hk hki ?_ hno
        by_cases hjk : j = k
        · subst hjk; exact hjun
        · rw [getD_set_ne true hjk] at hun'; exact hun'
      have hri := ready_mono hr (Ne.symm hji)
      unfold muOp at H
      rw [hi] at H
      have H2 : muStep P ops kd oi i (fun a1 w1 D1 => muStep P ops kd oj j (wpAnyU P md ops kd E f ((listed.setIfInBounds i true).setIfInBounds j true)) a1 w1 D1) a w D :=
        muStep_mono hne (fun a1 w1 D1 _ hK => by
          have := hK.2 j (ready_mono hj hji)
          unfold muOp at this
          rw [hoj] at this
          exact this) H
      have H3 := muStep_swap hap (fun cs b => hsel i oi cs b hi) (fun cs b => hsel j oj cs b hoj) hswap hne H2
      unfold muOp
      rw [hoj]
      refine muStep_mono hne (fun a2 w2 D2 hne2 h3 => ih (listed.setIfInBounds j true) a2 w2 D2 hne2 (hcl.set hj) hfree' hri ?_) H3
      unfold muOp
      rw [hi, Array.setIfInBounds_comm _ _ hji]
      exact h3
def wpMixU (P : Program) (ops : Array Oper) (kd : Nat → Kd) (E : Act → World → (World → Prop) → Prop) : List Oper → Nat → Act → World → (World → Prop) → Prop
  | [], _, a, w, D => E a w D
  | o :: rest, k, a, w, D => muStep P ops kd o k (wpMixU P ops kd E rest (k + 1)) a w D
def mixUB (md : Region.Mode) (ops : Array Oper) (kd : Nat → Kd) : Bool :=
  Region.lexB md ops && (List.range ops.size).all fun i => (List.range ops.size).all fun j => decide (j = i) || (swapU (kd i) (kd j) || (waitsM md ops j i || waitsM md ops i j))
theorem wpAnyU_lex {E : Act → World → (World → Prop) → Prop} (hs : Region.noSelect ops = true) (hsw : ∀ i j, i < ops.size → j < ops.size → j ≠ i → swapU (kd i) (kd j) = false → waitsM md ops j i = true ∨ waitsM md ops i j = true) :
    ∀ (l : List Oper) (k : Nat) (listed : Array Bool) (a : Act) (w : World) (D : World → Prop), Ne D → Closed md ops listed → (∀ j, l[j]? = ops[k + j]?) →
    Region.lexFrom md ops l.length k listed = true → wpMixU P ops kd E l k a w D → wpAnyU P md ops kd E l.length listed a w D
  | [], _, _, _, _, _, _, _, _, hB, h => ⟨by simpa [Region.lexFrom] using hB, h⟩
  | o :: l, k, listed, a, w, D, hne, hcl, hl, hB, h => by
    have h0 : ops[k]? = some o := by simpa using (hl 0).symm
    simp only [List.length_cons, Region.lexFrom, Bool.and_eq_true] at hB
    obtain ⟨⟨hr, hf⟩, hB'⟩ := hB
    have hk : k < ops.size := (Array.getElem?_eq_some_iff.1 h0).1
    refine wpAnyU_first h0 (Region.noSelect_spec hs) (fun j hjl hj hsw' => hsw k j hk hjl hj hsw') l.length listed a w D hne hcl (Region.free_spec h0 hf) (by simpa using hr) ?_
    unfold muOp
    rw [h0]
    exact muStep_mono hne (fun a' w' D' hne' h' => wpAnyU_lex hs hsw l (k + 1) _ a' w' D' hne' (hcl.set (by simpa using hr)) (fun j => by have := hl (j + 1); simpa [Nat.add_assoc, Nat.add_comm 1 j] using this) hB' h') h
/-- **The law**, before it is a region. -/
theorem any_mixedU {Q : Exit → Act → World → Prop} {a : Act} {w : World} {l : List Oper} (kds : List Kd) (hB : mixUB .any l.toArray (fun i => kds.getD i .pure) = true)
    (h : wpMixU P l.toArray (fun i => kds.getD i .pure) (fun a _ D => ∀ W, D W → Q .normal a W) l 0 a w (Grown w)) : wpAny P .any l.toArray Q l.toArray.size (Array.replicate l.toArray.size false) a { w with drawn := w.drawn + 1 } := by
  simp only [mixUB, Bool.and_eq_true] at hB
  obtain ⟨hlex, hall⟩ := hB
  simp only [Region.lexB, Bool.and_eq_true] at hlex
  have hg0 : Grown w { w with drawn := w.drawn + 1 } := (Below.refl _ _).drew
  refine (wpAny_of_U (kd := fun i => kds.getD i .pure) _ _ _ w (Grown w) _ hg0 ?_)
  have := wpAnyU_lex (P := P) (md := .any) (kd := fun i => kds.getD i .pure) (E := fun a _ D => ∀ W, D W → Q .normal a W) hlex.1 (fun i j hi hjl hj hs => by
    have h1 := List.all_eq_true.1 (List.all_eq_true.1 hall i (List.mem_range.2 hi)) j (List.mem_range.2 hjl)
    simp only [Bool.or_eq_true, decide_eq_true_eq] at h1
    rcases h1 with h1 | h1 | h1 | h1
    · exact absurd h1 hj
    · rw [hs] at h1; cases h1
    · exact .inl h1
    · exact .inr h1) l 0 (Array.replicate l.toArray.size false) a w (Grown w) ⟨w, Grown.refl w⟩ (Closed.none _ _ _) (by simp) (by simpa using hlex.2) h
  simpa using this
theorem wp_region_mixedU {id : Nat} {Q : Exit → Act → World → Prop} {a : Act} {w : World} {l : List Oper} (kds : List Kd) (hm : P.follows .mixedOrders = true) (hB : mixUB .any l.toArray (fun i => kds.getD i .pure) = true)
    (h : wpMixU P l.toArray (fun i => kds.getD i .pure) (fun a _ D => ∀ W, D W → Q .normal a W) l 0 a w (Grown w)) : (Code.region id l.toArray true).wp P Q a w :=
  wp_region_any hm (any_mixedU kds hB h)
/-! ### the walk's steps -/
section
variable {E : Act → World → (World → Prop) → Prop} {a : Act} {o : Oper} {rest : List Oper} {k : Nat} {w : World} {D : World → Prop}
theorem mixU_skip (hw : Region.wanted o (yielded ops a.tmps) = false) (h : wpMixU P ops kd E rest (k + 1) (a.put o.dst undef) w D) : wpMixU P ops kd E (o :: rest) k a w D := by
  unfold wpMixU muStep
  rw [if_neg (by rw [hw]; decide)]
  exact h
theorem mixU_pure (hw : Region.wanted o (yielded ops a.tmps) = true) (hk : kd k = .pure) (hp : valOp o.op = true)
    (h : ∀ K : Act → Prop, (∀ a, wpMixU P ops kd E rest (k + 1) a w D → K a) → o.quiet P a (fun _ => True) K) : wpMixU P ops kd E (o :: rest) k a w D := by
  unfold wpMixU muStep
  rw [if_pos hw, hk]
  obtain ⟨v, h1, h2⟩ := h _ fun _ h => h
  exact ⟨v, fun W => runs_of_quiet hp (h1 W trivial), h2⟩
theorem mixU_held (hw : Region.wanted o (yielded ops a.tmps) = true) (hk : kd k = .held) (hp : valOp o.op = true) (hD : ∀ W, D W → Grown w W)
    (h : ∀ K : Act → Prop, (∀ a, wpMixU P ops kd E rest (k + 1) a w D → K a) → o.quiet P a (fun w' => ∃ x : Ext w, w' = x.world) K) : wpMixU P ops kd E (o :: rest) k a w D := by
  unfold wpMixU muStep
  rw [if_pos hw, hk]
  obtain ⟨v, h1, h2⟩ := h _ fun _ h => h
  exact ⟨hD, v, fun W hW => runs_of_quiet hp (h1 W ⟨⟨W, hW⟩, rfl⟩), h2⟩
theorem mixU_load (hw : Region.wanted o (yielded ops a.tmps) = true) (hk : kd k = .held) (hD : ∀ W, D W → Grown w W) (ty : TypeId) (x : Operand) (ho : o.op = .load ty x)
    (b i : Nat) (hx : a.eval x = .pointer (some ⟨b, i, none⟩)) (cs : List Value) (d : TypeDesc) (hb : b < w.heap.size) (hc : w.rangeAt b i cs)
    (hu : P.underlying ty = some d) (hd : d.isRow = true) (hi : (P.info? ty).map (·.size) = some cs.length)
    (h : wpMixU P ops kd E rest (k + 1) (a.put o.dst (.agg cs.toArray)) w D) : wpMixU P ops kd E (o :: rest) k a w D := by
  unfold wpMixU muStep
  rw [if_pos hw, hk]
  refine ⟨hD, _, fun W hW => ?_, h⟩
  have hc' : W.rangeAt b i cs := fun j v hv => (Below.cell (p := ⟨b, i + j, none⟩) hW hb).trans (hc j v hv)
  unfold RunsTo execOp
  simp only [ho, hx, Instr.loadAt, Instr.sureAddr, Sem.run_bind, Sem.run_pure, Result.andThen_ok, run_loadVar_mid W b i ty cs d hc' hu hd hi]
theorem mixU_act (hw : Region.wanted o (yielded ops a.tmps) = true) (hk : kd k = .make) (hD : ∀ W, D W → Grown w W) (S : Value → Prop) (R : Value → World → Prop) (hM : ∀ W, D W → Oper.goes P o a W (fun u W' => (S u ∧ R u W') ∧ Grown W W'))
    (h : ∀ v, S v → wpMixU P ops kd E rest (k + 1) (a.put o.dst v) w (fun W => R v W ∧ Grown w W)) : wpMixU P ops kd E (o :: rest) k a w D := by
  unfold wpMixU muStep
  rw [if_pos hw, hk]
  exact ⟨hD, S, R, hM, fun v hv _ => h v hv⟩
/-- What writes: the world that it leaves is the new base. -/
theorem mixU_write (hw : Region.wanted o (yielded ops a.tmps) = true) (hk : kd k = .tail) (T : Value → World → Prop) (hM : ∀ W, D W → Oper.goes P o a W T)
    (h : ∀ v W', T v W' → wpMixU P ops kd E rest (k + 1) (a.put o.dst v) W' (Grown W')) : wpMixU P ops kd E (o :: rest) k a w D := by
  unfold wpMixU muStep
  rw [if_pos hw, hk]
  exact ⟨T, hM, h⟩
theorem mixU_run (v : Value) (hw : Region.wanted o (yielded ops a.tmps) = true) (hk : kd k = .pure) (hr : ∀ W, RunsTo P o a W v) (h : wpMixU P ops kd E rest (k + 1) (a.put o.dst v) w D) : wpMixU P ops kd E (o :: rest) k a w D := by
  unfold wpMixU muStep
  rw [if_pos hw, hk]
  exact ⟨v, hr, h⟩
theorem mixU_hrun (v : Value) (hw : Region.wanted o (yielded ops a.tmps) = true) (hk : kd k = .held) (hD : ∀ W, D W → Grown w W) (hr : ∀ W, Grown w W → RunsTo P o a W v) (h : wpMixU P ops kd E rest (k + 1) (a.put o.dst v) w D) : wpMixU P ops kd E (o :: rest) k a w D := by
  unfold wpMixU muStep
  rw [if_pos hw, hk]
  exact ⟨hD, v, hr, h⟩
theorem mixU_nil (h : E a w D) : wpMixU P ops kd E [] k a w D := h
end
end
end Go.Proofs.YtlonefjbcooaaaaDoor
