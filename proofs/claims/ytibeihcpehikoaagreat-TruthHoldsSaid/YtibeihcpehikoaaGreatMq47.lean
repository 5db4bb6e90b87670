/-
  The walks beneath: MixU, MildL, ROrd, SrtP, SortP, AtP, LgP.
-/
import Derived.Deep.MidRow
import Derived.Test.YtibeihcpehikoaaGreatMq37
import Derived.Test.YtibeihcpehikoaaGreatMq22
import Derived.Test.YtibeihcpehikoaaGreatMq32
import Derived.Test.YtibeihcpehikoaaGreatMq30
import Derived.Test.YtibeihcpehikoaaGreatMq45
import Derived.Test.YtibeihcpehikoaaGreatMq39
import Derived.Test.YtibeihcpehikoaaGreatMq1
import Derived.Test.YtibeihcpehikoaaGreatMq31
namespace Go.Proofs.YtibeihcpehikoaaGreat
open Go.RowKit
section
variable {P : Program} {ops : Array Oper} {md : Region.Mode} {kd : Nat → Kd}
def muStep (P : Program) (ops : Array Oper) (kd : Nat → Kd) (o : Oper) (i : Nat) (K : Act → World → (World → Prop) → Prop) (a : Act) (w : World) (D : World → Prop) : Prop :=
  if Region.wanted o (yielded ops a.tmps) = true then
    match kd i with
    | .pure => ∃ v, (∀ W, RunsTo P o a W v) ∧ K (a.put o.dst v) w D
    | .held => (∀ W, D W → Grown w W) ∧ ∃ v, (∀ W, Grown w W → RunsTo P o a W v) ∧ K (a.put o.dst v) w D
    | .make => (∀ W, D W → Grown w W) ∧ ∃ (S : Value → Prop) (R : Value → World → Prop), (∀ W, D W → Oper.goes P o a W (fun u W' => (S u ∧ R u W') ∧ Grown W W')) ∧ ∀ v, S v → Ne (fun W => R v W ∧ Grown w W) → K (a.put o.dst v) w (fun W => R v W ∧ Grown w W)
    | .tail => ∃ T : Value → World → Prop, (∀ W, D W → Oper.goes P o a W T) ∧ ∀ v W', T v W' → K (a.put o.dst v) W' (Grown W')
  else K (a.put o.dst undef) w D
def muOp (P : Program) (ops : Array Oper) (kd : Nat → Kd) (i : Nat) (K : Act → World → (World → Prop) → Prop) (a : Act) (w : World) (D : World → Prop) : Prop :=
  match ops[i]? with
  | none => K a w D
  | some o => muStep P ops kd o i K a w D
theorem muStep_mono {o : Oper} {i : Nat} {a : Act} {w : World} {D : World → Prop} {K K' : Act → World → (World → Prop) → Prop} (hne : Ne D) (h : ∀ a w D, Ne D → K a w D → K' a w D) (hh : muStep P ops kd o i K a w D) : muStep P ops kd o i K' a w D := by
  unfold muStep at *
  split
  · rename_i hw
    rw [if_pos hw] at hh
    cases hk : kd i <;> rw [hk] at hh <;> simp only at hh ⊢
    · obtain ⟨v, h1, h2⟩ := hh; exact ⟨v, h1, h _ _ _ hne h2⟩
    · obtain ⟨h0, v, h1, h2⟩ := hh; exact ⟨h0, v, h1, h _ _ _ hne h2⟩
    · obtain ⟨h0, S, R, h1, h2⟩ := hh; exact ⟨h0, S, R, h1, fun v hv hn => h _ _ _ hn (h2 v hv hn)⟩
    · obtain ⟨T, h1, h2⟩ := hh; exact ⟨T, h1, fun v W' ht => h _ _ _ ⟨W', Grown.refl W'⟩ (h2 v W' ht)⟩
  · rename_i hw; rw [if_neg hw] at hh; exact h _ _ _ hne hh
theorem muOp_mono {i : Nat} {a : Act} {w : World} {D : World → Prop} {K K' : Act → World → (World → Prop) → Prop} (hne : Ne D) (h : ∀ a w D, Ne D → K a w D → K' a w D) (hh : muOp P ops kd i K a w D) : muOp P ops kd i K' a w D := by
  unfold muOp at *
  split
  · rename_i ho; simp only [ho] at hh; exact h _ _ _ hne hh
  · rename_i o ho; simp only [ho] at hh; exact muStep_mono hne h hh
theorem muStep_some {o : Oper} {i : Nat} {a : Act} {w : World} {D : World → Prop} {K : Act → World → (World → Prop) → Prop} (hne : Ne D) (hh : muStep P ops kd o i K a w D) : ∃ a' w' D', Ne D' ∧ K a' w' D' := by
  unfold muStep at hh
  split at hh
  · cases hk : kd i <;> rw [hk] at hh <;> simp only at hh
    · obtain ⟨v, -, h2⟩ := hh; exact ⟨_, _, _, hne, h2⟩
    · obtain ⟨-, v, -, h2⟩ := hh; exact ⟨_, _, _, hne, h2⟩
    · obtain ⟨h0, S, R, h1, h2⟩ := hh
      obtain ⟨W, hW⟩ := hne
      obtain ⟨v, W', ⟨hs, hr⟩, hg⟩ := goes_some (h1 W hW)
      have hn : Ne (fun W => R v W ∧ Grown w W) := ⟨W', hr, (h0 W hW).trans hg⟩
      exact ⟨_, _, _, hn, h2 v hs hn⟩
    · obtain ⟨T, h1, h2⟩ := hh
      obtain ⟨W, hW⟩ := hne
      obtain ⟨v, W', ht⟩ := goes_some (h1 W hW)
      exact ⟨_, _, _, ⟨W', Grown.refl W'⟩, h2 v W' ht⟩
  · exact ⟨_, _, _, hne, hh⟩
/-- Which kinds may come in either order. -/
def swapU (a b : Kd) : Bool := match a, b with
  | .pure, _ => true
  | _, .pure => true
  | .tail, _ => false
  | _, .tail => false
  | .make, .make => false
  | _, _ => true
theorem muStep_swap {i j : Nat} {oi oj : Oper} (hap : oi.apart ops oj = true) (hsi : ∀ cs b, oi.op ≠ .select cs b) (hsj : ∀ cs b, oj.op ≠ .select cs b) (hk : swapU (kd i) (kd j) = true) {K : Act → World → (World → Prop) → Prop} {a : Act} {w : World} {D : World → Prop} (hne : Ne D)
    (h : muStep P ops kd oi i (fun a1 w1 D1 => muStep P ops kd oj j K a1 w1 D1) a w D) : muStep P ops kd oj j (fun a2 w2 D2 => muStep P ops kd oi i K a2 w2 D2) a w D := by
  obtain ⟨h1, h2, h3⟩ := Oper.apart_spec hap
  have ei : ∀ (a : Act) u, execOp (a.put oj.dst u).eval oi = execOp a.eval oi := fun a u => execOp_put oi hsi a oj.dst u h3
  have ej : ∀ (a : Act) u, execOp (a.put oi.dst u).eval oj = execOp a.eval oj := fun a u => execOp_put oj hsj a oi.dst u h1
  have wi : ∀ (a : Act) u, Region.wanted oi (yielded ops (a.put oj.dst u).tmps) = Region.wanted oi (yielded ops a.tmps) := fun a u => wanted_put oi a oj.dst u h3
  have wj : ∀ (a : Act) u, Region.wanted oj (yielded ops (a.put oi.dst u).tmps) = Region.wanted oj (yielded ops a.tmps) := fun a u => wanted_put oj a oi.dst u h1
  have pc : ∀ (a : Act) u v, (a.put oi.dst u).put oj.dst v = (a.put oj.dst v).put oi.dst u := fun a u v => Act.put_comm a u v h2
  have ri : ∀ (a : Act) u W v, RunsTo P oi (a.put oj.dst u) W v ↔ RunsTo P oi a W v := fun a u W v => by unfold RunsTo; rw [ei]
  have rj : ∀ (a : Act) u W v, RunsTo P oj (a.put oi.dst u) W v ↔ RunsTo P oj a W v := fun a u W v => by unfold RunsTo; rw [ej]
  have gi : ∀ (a : Act) u W T, Oper.goes P oi (a.put oj.dst u) W T ↔ Oper.goes P oi a W T := fun a u W T => by unfold Oper.goes; rw [ei]
  have gj : ∀ (a : Act) u W T, Oper.goes P oj (a.put oi.dst u) W T ↔ Oper.goes P oj a W T := fun a u W T => by unfold Oper.goes; rw [ej]
  unfold muStep at h ⊢
  simp only [wi, wj, ri, rj, gi, gj] at h ⊢
  by_cases hwi : Region.wanted oi (yielded ops a.tmps) = true
  · by_cases hwj : Region.wanted oj (yielded ops a.tmps) = true
    · simp only [hwi, hwj, if_true] at h ⊢
      cases hki : kd i <;> cases hkj : kd j <;> rw [hki, hkj] at hk <;> simp only [hki, hkj] at h ⊢
      case tail.tail => simp [swapU] at hk
      case tail.held => simp [swapU] at hk
      case tail.make => simp [swapU] at hk
      case held.tail => simp [swapU] at hk
      case make.tail => simp [swapU] at hk
      case make.make => simp [swapU] at hk
      case pure.pure =>
        obtain ⟨v, hv, u, hu, hK⟩ := h
        exact ⟨u, hu, v, hv, by rw [← pc]; exact hK⟩
      case pure.held =>
        obtain ⟨v, hv, hD, u, hu, hK⟩ := h
        exact ⟨hD, u, hu, v, hv, by rw [← pc]; exact hK⟩
      case pure.make =>
        obtain ⟨v, hv, hD, S, R, hM, hK⟩ := h
        exact ⟨hD, S, R, hM, fun u hu hn => ⟨v, hv, by rw [← pc]; exact hK u hu hn⟩⟩
      case pure.tail =>
        obtain ⟨v, hv, T, hg, hK⟩ := h
        exact ⟨T, hg, fun u W' hu => ⟨v, hv, by rw [← pc]; exact hK u W' hu⟩⟩
      case held.pure =>
        obtain ⟨hD, v, hv, u, hu, hK⟩ := h
        exact ⟨u, hu, hD, v, hv, by rw [← pc]; exact hK⟩
      case held.held =>
        obtain ⟨hD, v, hv, -, u, hu, hK⟩ := h
        exact ⟨hD, u, hu, hD, v, hv, by rw [← pc]; exact hK⟩
      case held.make =>
        obtain ⟨hD, v, hv, -, S, R, hM, hK⟩ := h
        exact ⟨hD, S, R, hM, fun u hu hn => ⟨fun W hW => hW.2, v, hv, by rw [← pc]; exact hK u hu hn⟩⟩
      case make.pure =>
        obtain ⟨hD, S, R, hM, hK⟩ := h
        obtain ⟨W, hW⟩ := hne
        obtain ⟨v0, W', ⟨hs0, hr0⟩, hg0⟩ := goes_some (hM W hW)
        obtain ⟨u, hu, -⟩ := hK v0 hs0 ⟨W', hr0, (hD W hW).trans hg0⟩
        refine ⟨u, hu, hD, S, R, hM, fun v hv hn => ?_⟩
        obtain ⟨u', hu', hK'⟩ := hK v hv hn
        have : u' = u := runsTo_uniq (hu' W) (hu W)
        subst this
        rw [← pc]; exact hK'
      case make.held =>
        obtain ⟨hD, S, R, hM, hK⟩ := h
        obtain ⟨W, hW⟩ := hne
        obtain ⟨v0, W', ⟨hs0, hr0⟩, hg0⟩ := goes_some (hM W hW)
        obtain ⟨-, u, hu, -⟩ := hK v0 hs0 ⟨W', hr0, (hD W hW).trans hg0⟩
        refine ⟨hD, u, hu, hD, S, R, hM, fun v hv hn => ?_⟩
        obtain ⟨-, u', hu', hK'⟩ := hK v hv hn
        have : u' = u := runsTo_uniq (hu' w (Grown.refl w)) (hu w (Grown.refl w))
        subst this
        rw [← pc]; exact hK'
      case tail.pure =>
        obtain ⟨T, hg, hK⟩ := h
        obtain ⟨W, hW⟩ := hne
        obtain ⟨v0, W', ht0⟩ := goes_some (hg W hW)
        obtain ⟨u, hu, -⟩ := hK v0 W' ht0
        refine ⟨u, hu, T, hg, fun v W2 ht => ?_⟩
        obtain ⟨u', hu', hK'⟩ := hK v W2 ht
        have : u' = u := runsTo_uniq (hu' W) (hu W)
        subst this
        rw [← pc]; exact hK'
    · simp only [hwi, hwj, if_true, Bool.false_eq_true, if_false] at h ⊢
      cases hki : kd i <;> simp only [hki] at h ⊢
      · obtain ⟨v, hv, hK⟩ := h; exact ⟨v, hv, by rw [← pc]; exact hK⟩
      · obtain ⟨hD, v, hv, hK⟩ := h; exact ⟨hD, v, hv, by rw [← pc]; exact hK⟩
      · obtain ⟨hD, S, R, hM, hK⟩ := h; exact ⟨hD, S, R, hM, fun v hv hn => by rw [← pc]; exact hK v hv hn⟩
      · obtain ⟨T, hg, hK⟩ := h; exact ⟨T, hg, fun v W' ht => by rw [← pc]; exact hK v W' ht⟩
  · by_cases hwj : Region.wanted oj (yielded ops a.tmps) = true
    · simp only [hwi, hwj, if_true, Bool.false_eq_true, if_false] at h ⊢
      cases hkj : kd j <;> simp only [hkj] at h ⊢
      · obtain ⟨v, hv, hK⟩ := h; exact ⟨v, hv, by rw [← pc]; exact hK⟩
      · obtain ⟨hD, v, hv, hK⟩ := h; exact ⟨hD, v, hv, by rw [← pc]; exact hK⟩
      · obtain ⟨hD, S, R, hM, hK⟩ := h; exact ⟨hD, S, R, hM, fun v hv hn => by rw [← pc]; exact hK v hv hn⟩
      · obtain ⟨T, hg, hK⟩ := h; exact ⟨T, hg, fun v W' ht => by rw [← pc]; exact hK v W' ht⟩
    · simp only [hwi, hwj, Bool.false_eq_true, if_false] at h ⊢
      rw [← pc]; exact h
def wpAnyU (P : Program) (md : Region.Mode) (ops : Array Oper) (kd : Nat → Kd) (E : Act → World → (World → Prop) → Prop) : Nat → Array Bool → Act → World → (World → Prop) → Prop
  | 0, listed, a, w, D => Region.ready md ops listed = [] ∧ E a w D
  | f + 1, listed, a, w, D => (Region.ready md ops listed = [] → E a w D) ∧ ∀ i ∈ Region.ready md ops listed, muOp P ops kd i (wpAnyU P md ops kd E f (listed.setIfInBounds i true)) a w D
theorem wpOp_of_muOp {i : Nat} {a : Act} {w : World} {D : World → Prop} {K : Act → World → (World → Prop) → Prop} {K' : Act → World → Prop} {Q' : Exit → Act → World → Prop} {W : World} (hW : D W)
    (h : ∀ a w D W', D W' → K a w D → K' a W') (hh : muOp P ops kd i K a w D) : wpOp P ops Q' i K' a W := by
  unfold muOp at hh
  unfold wpOp
  split
  · rename_i ho; simp only [ho] at hh; exact h _ _ _ _ hW hh
  · rename_i o ho
    simp only [ho] at hh
    unfold muStep at hh
    split
    · rename_i hw
      rw [if_pos hw] at hh
      left
      cases hk : kd i <;> rw [hk] at hh <;> simp only at hh
      · obtain ⟨v, h1, h2⟩ := hh
        have h1 := h1 W
        unfold RunsTo at h1
        unfold Oper.wp
        rw [h1]
        exact h _ _ _ _ hW h2
      · obtain ⟨hD, v, h1, h2⟩ := hh
        have h1 := h1 W (hD W hW)
        unfold RunsTo at h1
        unfold Oper.wp
        rw [h1]
        exact h _ _ _ _ hW h2
      · obtain ⟨hD, S, R, hM, hK⟩ := hh
        exact Oper.wp_of_goes (hM W hW) fun v W' ⟨⟨hs, hr⟩, hg⟩ => h _ _ _ W' ⟨hr, (hD W hW).trans hg⟩ (hK v hs ⟨W', hr, (hD W hW).trans hg⟩)
      · obtain ⟨T, hg, hK⟩ := hh
        exact Oper.wp_of_goes (hg W hW) fun v W' ht => h _ _ _ W' (Grown.refl W') (hK v W' ht)
    · rename_i hw; rw [if_neg hw] at hh; exact h _ _ _ _ hW hh
theorem wpAny_of_U {Q : Exit → Act → World → Prop} : ∀ (f : Nat) (listed : Array Bool) (a : Act) (w : World) (D : World → Prop) (W : World), D W → wpAnyU P md ops kd (fun a _ D => ∀ W, D W → Q .normal a W) f listed a w D → wpAny P md ops Q f listed a W
  | 0, _, _, _, _, _, hW, h => ⟨h.1, h.2 _ hW⟩
  | f + 1, _, _, _, _, _, hW, h => ⟨fun h0 => h.1 h0 _ hW, fun i hi => wpOp_of_muOp hW (fun a' w' D' W' hW' h' => wpAny_of_U f _ a' w' D' W' hW' h') (h.2 i hi)⟩
/-- For whom one waits, directly or through others: as bits. -/
def edgesMask (md : Region.Mode) (ms : List Nat) : List Edge → Nat
  | [] => 0
  | e :: r => (if Region.binds md e = true then 2 ^ e.on ||| ms.getD e.on 0 else 0) ||| edgesMask md ms r
def masksOf (md : Region.Mode) : List Oper → List Nat → List Nat
  | [], ms => ms
  | o :: r, ms => masksOf md r (ms ++ [edgesMask md ms o.after.toList])
def waitsM (md : Region.Mode) (ops : Array Oper) (j i : Nat) : Bool := ((masksOf md ops.toList []).getD j 0).testBit i
/-- What waiting is. -/
def WaitsP (md : Region.Mode) (ops : Array Oper) (j i : Nat) : Prop := ∀ listed, Closed md ops listed → (∀ oj, ops[j]? = some oj → ∀ e ∈ oj.after, Region.binds md e = true → listed.getD e.on false = true) → listed.getD i false = true
theorem edgesMask_bit {ms : List Nat} (hms : ∀ j i, (ms.getD j 0).testBit i = true → WaitsP md ops j i) {i : Nat} : ∀ (l : List Edge), (edgesMask md ms l).testBit i = true → ∀ listed, Closed md ops listed → (∀ e ∈ l, Region.binds md e = true → listed.getD e.on false = true) → listed.getD i false = true
  | [], h, _, _, _ => by simp [edgesMask] at h
  | e :: r, h, listed, hcl, hd => by
    rw [edgesMask, Nat.testBit_or, Bool.or_eq_true] at h
    rcases h with h | h
    · by_cases hb : Region.binds md e = true
      · rw [if_pos hb, Nat.testBit_or, Bool.or_eq_true] at h
        have hl := hd e (by simp) hb
        rcases h with h | h
        · rw [Nat.testBit_two_pow] at h
          have : e.on = i := by simpa using h
          rw [← this]; exact hl
        · exact hms e.on i h listed hcl (fun ok hok e' he hb' => hcl e.on ok hok hl e' he hb')
      · rw [if_neg hb] at h; simp at h
    · exact edgesMask_bit hms r h listed hcl (fun e' he => hd e' (by simp [he]))
theorem masksOf_ok : ∀ (l : List Oper) (ms : List Nat), (∀ k, l[k]? = ops[ms.length + k]?) → (∀ j i, (ms.getD j 0).testBit i = true → WaitsP md ops j i) → ∀ j i, ((masksOf md l ms).getD j 0).testBit i = true → WaitsP md ops j i
  | [], _, _, hms, j, i, h => hms j i h
  | o :: r, ms, hl, hms, j, i, h => by
    refine masksOf_ok r _ (fun k => ?_) (fun j i hji => ?_) j i h
    · have := hl (k + 1)
      rw [List.length_append, List.length_singleton]
      simpa [Nat.add_assoc, Nat.add_comm 1 k] using this
    · by_cases hj : j < ms.length
      · rw [List.getD_eq_getElem?_getD, List.getElem?_append_left hj, ← List.getD_eq_getElem?_getD] at hji
        exact hms j i hji
      · by_cases hj2 : j = ms.length
        · subst hj2
          rw [List.getD_eq_getElem?_getD, List.getElem?_append_right (Nat.le_refl _)] at hji
          simp only [Nat.sub_self, List.getElem?_cons_zero, Option.getD_some] at hji
          intro listed hcl hd
          have h0 : ops[ms.length]? = some o := by simpa using (hl 0).symm
          exact edgesMask_bit hms _ hji listed hcl (fun e he hb => hd o h0 e (by simpa using he) hb)
        · rw [List.getD_eq_getElem?_getD, List.getElem?_eq_none (by simp; omega)] at hji
          simp at hji
theorem waitsM_ready {listed : Array Bool} (h : Closed md ops listed) {j i : Nat} (hj : j ∈ Region.ready md ops listed) (hw : waitsM md ops j i = true) : listed.getD i false = true :=
  masksOf_ok ops.toList [] (fun k => by simp) (fun j i h => by simp at h) j i hw listed h (fun oj hoj e he hb => by
    obtain ⟨-, o, ho, hall⟩ := mem_ready.1 hj
    obtain rfl : o = oj := Option.some.inj (ho.symm.trans hoj)
    exact hall e he hb)
theorem wpAnyU_first {E : Act → World → (World → Prop) → Prop} {i : Nat} {oi : Oper} (hi : ops[i]? = some oi) (hsel : ∀ (j : Nat) (o : Oper) cs b, ops[j]? = some o → o.op ≠ .select cs b)
    (hsw : ∀ j, j < ops.size → j ≠ i → swapU (kd i) (kd j) = false → waitsM md ops j i = true ∨ waitsM md ops i j = true) :
    ∀ (f : Nat) (listed : Array Bool) (a : Act) (w : World) (D : World → Prop), Ne D → Closed md ops listed →
      (∀ j oj, ops[j]? = some oj → j ≠ i → listed.getD j true = false → (∀ e ∈ oj.after, Region.binds md e = true → e.on ≠ i) → oi.apart ops oj = true) →
      i ∈ Region.ready md ops listed → muOp P ops kd i (wpAnyU P md ops kd E f (listed.setIfInBounds i true)) a w D → wpAnyU P md ops kd E (f + 1) listed a w D := by
  intro f
  induction f with
  | zero =>
    intro listed a w D hne _ _ hr H
    refine ⟨fun h => (by rw [h] at hr; cases hr), fun j hj => ?_⟩
    by_cases hji : j = i
    · subst hji; exact H
    · unfold muOp at H
      rw [hi] at H
      obtain ⟨a', w', D', -, h0, -⟩ := muStep_some hne H
      have := ready_mono hj hji
      rw [h0] at this; cases this
  | succ f ih =>
    intro listed a w D hne hcl hfree hr H
    refine ⟨fun h => (by rw [h] at hr; cases hr), fun j hj => ?_⟩
    by_cases hji : j = i
    · subst hji; exact H
    · obtain ⟨hjun, oj, hoj, hall⟩ := mem_ready.1 hj
      have hun := (mem_ready.1 hr).1
      have hnot : ∀ e ∈ oj.after, Region.binds md e = true → e.on ≠ i := fun e he hb heq => by
        have h1 := hall e he hb
        rw [heq, getD_both hun] at h1
        cases h1
      have hap := hfree j oj hoj hji hjun hnot
      have hswap : swapU (kd i) (kd j) = true := by
        cases hs : swapU (kd i) (kd j) with
        | true => rfl
        | false =>
          rcases hsw j (Array.getElem?_eq_some_iff.1 hoj).1 hji hs with h1 | h1
          · have h2 := waitsM_ready hcl hj h1
            rw [getD_both hun] at h2; cases h2
          · have h2 := waitsM_ready hcl hr h1
            rw [getD_both hjun] at h2; cases h2
      have hfree' : ∀ k ok, ops[k]? = some ok → k ≠ i → (listed.setIfInBounds j true).getD k true = false →
          (∀ e ∈ ok.after, Region.binds md e = true → e.on ≠ i) → oi.apart ops ok = true := fun k ok hk hki hun' hno => by
        refine hfree k ok hk hki ?_ hno
        by_cases hjk : j = k
        · subst hjk; exact hjun
        · rw [getD_set_ne true hjk] at hun'; exact hun'
      have hri := ready_mono hr (Ne.symm hji)
      unfold muOp at H
      rw [hi] at H
      have H2 : muStep P ops kd oi i (fun a1 w1 D1 => muStep P ops kd oj j (wpAnyU P md ops kd E f ((listed.setIfInBounds i true).setIfInBounds j true)) a1 w1 D1) a w D :=
        muStep_mono hne (fun a1 w1 D1 _ hK => by
          have := hK.2 j (ready_mono hj hji)
          unfold muOp at this
          rw [hoj] at this
          exact this) H
      have H3 := muStep_swap hap (fun cs b => hsel i oi cs b hi) (fun cs b => hsel j oj cs b hoj) hswap hne H2
      unfold muOp
      rw [hoj]
      refine muStep_mono hne (fun a2 w2 D2 hne2 h3 => ih (listed.setIfInBounds j true) a2 w2 D2 hne2 (hcl.set hj) hfree' hri ?_) H3
      unfold muOp
      rw [hi, Array.setIfInBounds_comm _ _ hji]
      exact h3
def wpMixU (P : Program) (ops : Array Oper) (kd : Nat → Kd) (E : Act → World → (World → Prop) → Prop) : List Oper → Nat → Act → World → (World → Prop) → Prop
  | [], _, a, w, D => E a w D
  | o :: rest, k, a, w, D => muStep P ops kd o k (wpMixU P ops kd E rest (k + 1)) a w D
def mixUB (md : Region.Mode) (ops : Array Oper) (kd : Nat → Kd) : Bool :=
  Region.lexB md ops && (List.range ops.size).all fun i => (List.range ops.size).all fun j => decide (j = i) || (swapU (kd i) (kd j) || (waitsM md ops j i || waitsM md ops i j))
theorem wpAnyU_lex {E : Act → World → (World → Prop) → Prop} (hs : Region.noSelect ops = true) (hsw : ∀ i j, i < ops.size → j < ops.size → j ≠ i → swapU (kd i) (kd j) = false → waitsM md ops j i = true ∨ waitsM md ops i j = true) :
    ∀ (l : List Oper) (k : Nat) (listed : Array Bool) (a : Act) (w : World) (D : World → Prop), Ne D → Closed md ops listed → (∀ j, l[j]? = ops[k + j]?) →
    Region.lexFrom md ops l.length k listed = true → wpMixU P ops kd E l k a w D → wpAnyU P md ops kd E l.length listed a w D
  | [], _, _, _, _, _, _, _, _, hB, h => ⟨by simpa [Region.lexFrom] using hB, h⟩
  | o :: l, k, listed, a, w, D, hne, hcl, hl, hB, h => by
    have h0 : ops[k]? = some o := by simpa using (hl 0).symm
    simp only [List.length_cons, Region.lexFrom, Bool.and_eq_true] at hB
    obtain ⟨⟨hr, hf⟩, hB'⟩ := hB
    have hk : k < ops.size := (Array.getElem?_eq_some_iff.1 h0).1
    refine wpAnyU_first h0 (Region.noSelect_spec hs) (fun j hjl hj hsw' => hsw k j hk hjl hj hsw') l.length listed a w D hne hcl (Region.free_spec h0 hf) (by simpa using hr) ?_
    unfold muOp
    rw [h0]
    exact muStep_mono hne (fun a' w' D' hne' h' => wpAnyU_lex hs hsw l (k + 1) _ a' w' D' hne' (hcl.set (by simpa using hr)) (fun j => by have := hl (j + 1); simpa [Nat.add_assoc, Nat.add_comm 1 j] using this) hB' h') h
/-- **The law**, before it is a region. -/
theorem any_mixedU {Q : Exit → Act → World → Prop} {a : Act} {w : World} {l : List Oper} (kds : List Kd) (hB : mixUB .any l.toArray (fun i => kds.getD i .pure) = true)
    (h : wpMixU P l.toArray (fun i => kds.getD i .pure) (fun a _ D => ∀ W, D W → Q .normal a W) l 0 a w (Grown w)) : wpAny P .any l.toArray Q l.toArray.size (Array.replicate l.toArray.size false) a { w with drawn := w.drawn + 1 } := by
  simp only [mixUB, Bool.and_eq_true] at hB
  obtain ⟨hlex, hall⟩ := hB
  simp only [Region.lexB, Bool.and_eq_true] at hlex
  have hg0 : Grown w { w with drawn := w.drawn + 1 } := (Below.refl _ _).drew
  refine (wpAny_of_U (kd := fun i => kds.getD i .pure) _ _ _ w (Grown w) _ hg0 ?_)
  have := wpAnyU_lex (P := P) (md := .any) (kd := fun i => kds.getD i .pure) (E := fun a _ D => ∀ W, D W → Q .normal a W) hlex.1 (fun i j hi hjl hj hs => by
    have h1 := List.all_eq_true.1 (List.all_eq_true.1 hall i (List.mem_range.2 hi)) j (List.mem_range.2 hjl)
    simp only [Bool.or_eq_true, decide_eq_true_eq] at h1
    rcases h1 with h1 | h1 | h1 | h1
    · exact absurd h1 hj
    · rw [hs] at h1; cases h1
    · exact .inl h1
    · exact .inr h1) l 0 (Array.replicate l.toArray.size false) a w (Grown w) ⟨w, Grown.refl w⟩ (Closed.none _ _ _) (by simp) (by simpa using hlex.2) h
  simpa using this
theorem wp_region_mixedU {id : Nat} {Q : Exit → Act → World → Prop} {a : Act} {w : World} {l : List Oper} (kds : List Kd) (hm : P.follows .mixedOrders = true) (hB : mixUB .any l.toArray (fun i => kds.getD i .pure) = true)
    (h : wpMixU P l.toArray (fun i => kds.getD i .pure) (fun a _ D => ∀ W, D W → Q .normal a W) l 0 a w (Grown w)) : (Code.region id l.toArray true).wp P Q a w :=
  wp_region_any hm (any_mixedU kds hB h)
/-! ### the walk's steps -/
section
variable {E : Act → World → (World → Prop) → Prop} {a : Act} {o : Oper} {rest : List Oper} {k : Nat} {w : World} {D : World → Prop}
theorem mixU_skip (hw : Region.wanted o (yielded ops a.tmps) = false) (h : wpMixU P ops kd E rest (k + 1) (a.put o.dst undef) w D) : wpMixU P ops kd E (o :: rest) k a w D := by
  unfold wpMixU muStep
  rw [if_neg (by rw [hw]; decide)]
  exact h
theorem mixU_pure (hw : Region.wanted o (yielded ops a.tmps) = true) (hk : kd k = .pure) (hp : valOp o.op = true)
    (h : ∀ K : Act → Prop, (∀ a, wpMixU P ops kd E rest (k + 1) a w D → K a) → o.quiet P a (fun _ => True) K) : wpMixU P ops kd E (o :: rest) k a w D := by
  unfold wpMixU muStep
  rw [if_pos hw, hk]
  obtain ⟨v, h1, h2⟩ := h _ fun _ h => h
  exact ⟨v, fun W => runs_of_quiet hp (h1 W trivial), h2⟩
theorem mixU_held (hw : Region.wanted o (yielded ops a.tmps) = true) (hk : kd k = .held) (hp : valOp o.op = true) (hD : ∀ W, D W → Grown w W)
    (h : ∀ K : Act → Prop, (∀ a, wpMixU P ops kd E rest (k + 1) a w D → K a) → o.quiet P a (fun w' => ∃ x : Ext w, w' = x.world) K) : wpMixU P ops kd E (o :: rest) k a w D := by
  unfold wpMixU muStep
  rw [if_pos hw, hk]
  obtain ⟨v, h1, h2⟩ := h _ fun _ h => h
  exact ⟨hD, v, fun W hW => runs_of_quiet hp (h1 W ⟨⟨W, hW⟩, rfl⟩), h2⟩
theorem mixU_load (hw : Region.wanted o (yielded ops a.tmps) = true) (hk : kd k = .held) (hD : ∀ W, D W → Grown w W) (ty : TypeId) (x : Operand) (ho : o.op = .load ty x)
    (b i : Nat) (hx : a.eval x = .pointer (some ⟨b, i, none⟩)) (cs : List Value) (d : TypeDesc) (hb : b < w.heap.size) (hc : w.rangeAt b i cs)
    (hu : P.underlying ty = some d) (hd : d.isRow = true) (hi : (P.info? ty).map (·.size) = some cs.length)
    (h : wpMixU P ops kd E rest (k + 1) (a.put o.dst (.agg cs.toArray)) w D) : wpMixU P ops kd E (o :: rest) k a w D := by
  unfold wpMixU muStep
  rw [if_pos hw, hk]
  refine ⟨hD, _, fun W hW => ?_, h⟩
  have hc' : W.rangeAt b i cs := fun j v hv => (Below.cell (p := ⟨b, i + j, none⟩) hW hb).trans (hc j v hv)
  unfold RunsTo execOp
  simp only [ho, hx, Instr.loadAt, Instr.sureAddr, Sem.run_bind, Sem.run_pure, Result.andThen_ok, run_loadVar_mid W b i ty cs d hc' hu hd hi]
theorem mixU_act (hw : Region.wanted o (yielded ops a.tmps) = true) (hk : kd k = .make) (hD : ∀ W, D W → Grown w W) (S : Value → Prop) (R : Value → World → Prop) (hM : ∀ W, D W → Oper.goes P o a W (fun u W' => (S u ∧ R u W') ∧ Grown W W'))
    (h : ∀ v, S v → wpMixU P ops kd E rest (k + 1) (a.put o.dst v) w (fun W => R v W ∧ Grown w W)) : wpMixU P ops kd E (o :: rest) k a w D := by
  unfold wpMixU muStep
  rw [if_pos hw, hk]
  exact ⟨hD, S, R, hM, fun v hv _ => h v hv⟩
/-- What writes: the world that it leaves is the new base. -/
theorem mixU_write (hw : Region.wanted o (yielded ops a.tmps) = true) (hk : kd k = .tail) (T : Value → World → Prop) (hM : ∀ W, D W → Oper.goes P o a W T)
    (h : ∀ v W', T v W' → wpMixU P ops kd E rest (k + 1) (a.put o.dst v) W' (Grown W')) : wpMixU P ops kd E (o :: rest) k a w D := by
  unfold wpMixU muStep
  rw [if_pos hw, hk]
  exact ⟨T, hM, h⟩
theorem mixU_run (v : Value) (hw : Region.wanted o (yielded ops a.tmps) = true) (hk : kd k = .pure) (hr : ∀ W, RunsTo P o a W v) (h : wpMixU P ops kd E rest (k + 1) (a.put o.dst v) w D) : wpMixU P ops kd E (o :: rest) k a w D := by
  unfold wpMixU muStep
  rw [if_pos hw, hk]
  exact ⟨v, hr, h⟩
theorem mixU_hrun (v : Value) (hw : Region.wanted o (yielded ops a.tmps) = true) (hk : kd k = .held) (hD : ∀ W, D W → Grown w W) (hr : ∀ W, Grown w W → RunsTo P o a W v) (h : wpMixU P ops kd E rest (k + 1) (a.put o.dst v) w D) : wpMixU P ops kd E (o :: rest) k a w D := by
  unfold wpMixU muStep
  rw [if_pos hw, hk]
  exact ⟨hD, v, hr, h⟩
theorem mixU_nil (h : E a w D) : wpMixU P ops kd E [] k a w D := h
end
end
end Go.Proofs.YtibeihcpehikoaaGreat

namespace Go.Proofs.YtibeihcpehikoaaGreat
open Go.RowKit
set_option maxRecDepth 100000
section
variable {P : Program} {ops : Array Oper} {w : World} {Q : Act → Prop} {a : Act} {o : Oper} {rest : List Oper}
theorem wpQuiet_load_mild (hw : Region.wanted o (yielded ops a.tmps) = true) (ty : TypeId) (x : Operand) (ho : o.op = .load ty x)
    (b i : Nat) (hx : a.eval x = .pointer (some ⟨b, i, none⟩)) (cs : List Value) (d : TypeDesc) (hb : b < w.heap.size) (hc : w.rangeAt b i cs)
    (hu : P.underlying ty = some d) (hd : d.isRow = true) (hi : (P.info? ty).map (·.size) = some cs.length)
    (h : wpQuiet P ops (fun w' => ∃ x : Ext w, w' = x.world) Q rest (a.put o.dst (.agg cs.toArray))) : wpQuiet P ops (fun w' => ∃ x : Ext w, w' = x.world) Q (o :: rest) a := by
  refine wpQuiet_step fun K hK => ?_
  rw [if_pos hw]
  refine ⟨.agg cs.toArray, ?_, hK _ h⟩
  rintro W ⟨X, rfl⟩
  have hc' : X.world.rangeAt b i cs := fun j v hv => (Below.cell (p := ⟨b, i + j, none⟩) X.below hb).trans (hc j v hv)
  unfold Oper.quietAt execOp
  simp only [ho, hx, Instr.loadAt, Instr.sureAddr, Sem.run_bind, Sem.run_pure, Result.andThen_ok, run_loadVar_mid X.world b i ty cs d hc' hu hd hi]
  exact ⟨rfl, rfl⟩
/-- A value known in whatever world. -/
theorem wpQuiet_runs_mild (v : Value) (hw : Region.wanted o (yielded ops a.tmps) = true) (hr : ∀ W, RunsTo P o a W v)
    (h : wpQuiet P ops (fun w' => ∃ x : Ext w, w' = x.world) Q rest (a.put o.dst v)) : wpQuiet P ops (fun w' => ∃ x : Ext w, w' = x.world) Q (o :: rest) a := by
  refine wpQuiet_step fun K hK => ?_
  rw [if_pos hw]
  refine ⟨v, ?_, hK _ h⟩
  rintro W -
  unfold Oper.quietAt
  have := hr W
  unfold RunsTo at this
  rw [this]
  exact ⟨rfl, rfl⟩
end
end Go.Proofs.YtibeihcpehikoaaGreat

namespace Go.Proofs.YtibeihcpehikoaaGreat
open Go.RowKit
set_option maxRecDepth 100000
set_option linter.unusedSimpArgs false
def bodyB (L : List Ev) : Bool := L.all evOk && risingF key0 (L.map Ev.key)
theorem lastF_take (L : List Ev) (k : Nat) (hk : k < L.length) : lastF key0 ((L.take (k + 1)).map Ev.key) = L[k].key := by
  rw [List.take_succ_eq_append_getElem hk, List.map_append]
  exact lastF_snoc _ _ _
theorem key0_lt {x : Key4} (h : keyOk x = true) : cmpK key0 x < 0 := by
  rw [cmpK_neg]
  left
  unfold keyOk at h
  simp only [Bool.and_eq_true, inB, decide_eq_true_eq] at h
  show (-1 : Int) < x.frame
  omega
theorem evOk_key {x : Ev} (h : evOk x = true) : keyOk x.key = true := by
  unfold evOk at h
  simp only [Bool.and_eq_true] at h
  exact h.1.1.1.1.1
theorem bodyB_bad (L : List Ev) (k : Nat) (hk : k < L.length) (h : evOk L[k] = false) : bodyB L = false := by
  unfold bodyB
  have : L.all evOk = false := by
    rw [← Bool.not_eq_true, List.all_eq_true]
    intro h'
    have := h' L[k] (List.getElem_mem hk)
    rw [h] at this
    cases this
  rw [this]; rfl
theorem bodyB_first (L : List Ev) (hk : 0 < L.length) (h : evOk L[0] = true) : bodyB (L.take 1) = true := by
  unfold bodyB
  rw [List.take_succ_eq_append_getElem hk]
  simp only [List.take_zero, List.nil_append, List.all_cons, List.all_nil, h, Bool.and_true, List.map_cons, List.map_nil, Bool.true_and]
  unfold risingF
  rw [evOk_key h, decide_eq_true (key0_lt (evOk_key h))]
  rfl
theorem bodyB_next (L : List Ev) (k : Nat) (hk : k + 1 < L.length) (hp : bodyB (L.take (k + 1)) = true) (h : evOk L[k + 1] = true) : bodyB (L.take (k + 2)) = decide (cmpK L[k].key L[k + 1].key < 0) := by
  unfold bodyB at hp ⊢
  rw [Bool.and_eq_true] at hp
  rw [List.take_succ_eq_append_getElem hk, List.all_append, List.map_append, hp.1]
  show (true && (evOk L[k + 1] && true) && risingF key0 ((L.take (k + 1)).map Ev.key ++ [L[k + 1].key])) = _
  rw [risingF_snoc, hp.2, lastF_take L k (by omega), h, evOk_key h]
  simp
theorem bodyB_take (L : List Ev) (k : Nat) (h : bodyB (L.take k) = false) : bodyB L = false := by
  unfold bodyB at h ⊢
  rw [Bool.and_eq_false_iff] at h ⊢
  rcases h with h | h
  · left
    rw [← Bool.not_eq_true, List.all_eq_true] at h ⊢
    exact fun h' => h fun x hx => h' x (List.mem_of_mem_take hx)
  · right
    rw [List.map_take] at h
    exact risingF_take _ _ _ h
end Go.Proofs.YtibeihcpehikoaaGreat

namespace Go.Proofs.YtibeihcpehikoaaGreat
theorem cmpK_swap (a b : Key4) : cmpK b a = -cmpK a b := by
  have h1 := cmpK_bd a b
  have h2 := cmpK_bd b a
  have n1 := cmpK_neg a b
  have n2 := cmpK_neg b a
  have p1 := cmpK_pos a b
  have p2 := cmpK_pos b a
  have q1 : cmpK a b < 0 ↔ 0 < cmpK b a := n1.trans p2.symm
  have q2 : 0 < cmpK a b ↔ cmpK b a < 0 := p1.trans n2.symm
  omega
theorem cmpK_le (a b : Key4) : cmpK a b ≤ 0 ↔ ¬ b.Lt a := by rw [← cmpK_pos]; omega
theorem cmpK_tr {a b c : Key4} (h : cmpK a b ≤ 0) (k : cmpK b c ≤ 0) : cmpK a c ≤ 0 := by
  rw [cmpK_le] at *
  unfold Key4.Lt at *
  omega
def SortedW (L : List Ev) : Prop := L.Pairwise fun a b => cmpK a.key b.key ≤ 0
end Go.Proofs.YtibeihcpehikoaaGreat

namespace Go.Proofs.YtibeihcpehikoaaGreat
def putsE (L : List Ev) : List Ev := L.foldl putE []
theorem putE_perm (L : List Ev) (e : Ev) : (putE L e).Perm (e :: L) := by
  unfold putE insL
  refine List.perm_middle.trans ?_
  rw [List.take_append_drop]
theorem putE_sortedW {L : List Ev} (h : SortedW L) (e : Ev) : SortedW (putE L e) := by
  have hle := putK_le L e
  have h1 : ∀ j (hj : j < L.length), j < putK L e → cmpK L[j].key e.key ≤ 0 := fun j hj hp => by
    have := putK_lt L e j hj hp
    rw [decide_eq_false_iff_not] at this
    have := cmpK_swap e.key L[j].key
    omega
  have h2 : ∀ j (hj : j < L.length), putK L e ≤ j → cmpK e.key L[j].key ≤ 0 := fun j hj hp => by
    have h0 := putK_at L e (by omega)
    rw [decide_eq_true_eq] at h0
    rcases Nat.lt_or_ge (putK L e) j with hlt | hge
    · exact cmpK_tr h0 (List.pairwise_iff_getElem.1 h _ _ (by omega) hj hlt)
    · have : putK L e = j := by omega
      simpa only [this] using h0
  unfold SortedW putE insL
  obtain ⟨p, hp⟩ : ∃ p, putK L e = p := ⟨_, rfl⟩
  rw [hp] at h1 h2 hle ⊢
  rw [List.pairwise_append, List.pairwise_cons]
  refine ⟨h.sublist (List.take_sublist _ _), ⟨fun b hb => ?_, h.sublist (List.drop_sublist _ _)⟩, fun a ha b hb => ?_⟩
  · obtain ⟨j, hj, rfl⟩ := List.mem_iff_getElem.1 hb
    rw [List.getElem_drop]
    exact h2 _ _ (by omega)
  · obtain ⟨j, hj, rfl⟩ := List.mem_iff_getElem.1 ha
    rw [List.length_take] at hj
    rw [List.getElem_take]
    have hj1 := h1 j (by omega) (by omega)
    rcases List.mem_cons.1 hb with rfl | hb
    · exact hj1
    · obtain ⟨i, hi, rfl⟩ := List.mem_iff_getElem.1 hb
      rw [List.getElem_drop]
      exact cmpK_tr hj1 (h2 _ _ (by omega))
theorem putsE_from : ∀ (L M : List Ev), SortedW M → SortedW (L.foldl putE M) ∧ (L.foldl putE M).Perm (M ++ L)
  | [], M, h => ⟨h, by simp⟩
  | e :: L, M, h => by
    obtain ⟨h1, h2⟩ := putsE_from L (putE M e) (putE_sortedW h e)
    refine ⟨h1, h2.trans ?_⟩
    refine ((putE_perm M e).append_right L).trans ?_
    show (e :: (M ++ L)).Perm _
    exact List.perm_middle.symm
theorem putsE_sorted (L : List Ev) : SortedW (putsE L) := (putsE_from L [] List.Pairwise.nil).1
theorem putsE_perm (L : List Ev) : (putsE L).Perm L := by unfold putsE; simpa using (putsE_from L [] List.Pairwise.nil).2
theorem putsE_snoc (L : List Ev) (k : Nat) (hk : k < L.length) : putsE (L.take (k + 1)) = putE (putsE (L.take k)) L[k] := by
  unfold putsE
  rw [List.take_succ_eq_append_getElem hk, List.foldl_append]
  rfl
theorem risingF_pair : ∀ (l : List Key4) (a : Key4), risingF a l = true → (∀ k ∈ l, a.Lt k) ∧ l.Pairwise Key4.Lt
  | [], _, _ => ⟨by simp, List.Pairwise.nil⟩
  | x :: r, a, h => by
    unfold risingF at h
    simp only [Bool.and_eq_true, decide_eq_true_eq] at h
    obtain ⟨h1, h2⟩ := risingF_pair r x h.2.2
    have hx := (cmpK_neg a x).1 h.2.1
    refine ⟨fun k hk => ?_, List.pairwise_cons.2 ⟨h1, h2⟩⟩
    rcases List.mem_cons.1 hk with rfl | hk
    · exact hx
    · exact hx.trans (h1 k hk)
theorem rising_iff {L : List Ev} (hok : ∀ e ∈ L, evOk e = true) : risingF key0 (L.map Ev.key) = true ↔ SortedE L := by
  refine ⟨fun h => ?_, fun h => risingF_sorted L key0 h hok (fun e he => (cmpK_neg _ _).1 (key0_lt (evOk_key (hok e he))))⟩
  exact List.pairwise_map.1 (risingF_pair _ _ h).2
theorem sortedE_iff {L : List Ev} (h : SortedW L) : SortedE L ↔ (L.map Ev.key).Nodup := by
  unfold List.Nodup
  rw [List.pairwise_map]
  refine ⟨fun hs => hs.imp fun hab e => ?_, fun hn => ?_⟩
  · rw [e] at hab
    exact hab.irrefl
  · refine (h.and hn).imp fun {a b} ⟨hle, hne⟩ => ?_
    rw [← cmpK_neg]
    have : cmpK a.key b.key ≠ 0 := fun e => hne ((cmpK_zero _ _).1 e)
    omega
theorem sorts_one {L M : List Ev} (hp : L.Perm M) (hL : SortedW L) (hM : SortedW M) (hs : SortedE L) : L = M := by
  have hm : SortedE M := (sortedE_iff hM).2 (((hp.map Ev.key).nodup_iff).1 ((sortedE_iff hL).1 hs))
  exact List.Perm.eq_of_pairwise (fun a b _ _ h1 h2 => ((h1.trans h2).irrefl).elim) hs hm hp
theorem rising_perm {L M : List Ev} (hok : ∀ e ∈ M, evOk e = true) (hp : L.Perm M) (hL : SortedW L) (hM : SortedW M) : risingF key0 (L.map Ev.key) = risingF key0 (M.map Ev.key) := by
  have hok' : ∀ e ∈ L, evOk e = true := fun e he => hok e (hp.mem_iff.1 he)
  rw [Bool.eq_iff_iff, rising_iff hok, rising_iff hok', sortedE_iff hL, sortedE_iff hM, (hp.map Ev.key).nodup_iff]
theorem all_perm {L M : List Ev} (hp : L.Perm M) : L.all evOk = M.all evOk := by
  rw [Bool.eq_iff_iff, List.all_eq_true, List.all_eq_true]
  exact ⟨fun h e he => h e (hp.mem_iff.2 he), fun h e he => h e (hp.mem_iff.1 he)⟩
/-- What Sort answers: the events, the error. -/
def sortL (L : List Ev) : List Ev := if L.all evOk = true then (if L.length ≤ 64 then (if risingF key0 ((putsE L).map Ev.key) = true then putsE L else []) else []) else []
def sortZ (L : List Ev) : Int := if L.all evOk = true then (if L.length ≤ 64 then (if risingF key0 ((putsE L).map Ev.key) = true then 0 else 7) else 5) else 1
end Go.Proofs.YtibeihcpehikoaaGreat

namespace Go.Proofs.YtibeihcpehikoaaGreat
def keyI (k : Key4) : List Int := [k.frame, k.emitter, k.kind, k.ord]
theorem keyI_inj {a b : Key4} (h : keyI a = keyI b) : a = b := by
  cases a; cases b
  simp only [keyI, List.cons.injEq, and_true] at h
  simp [h]
instance keyDec : DecidableEq Key4 := fun a b => if h : keyI a = keyI b then isTrue (keyI_inj h) else isFalse (fun e => h (by rw [e]))
theorem keyI_dec (a b : Key4) : decide (keyI a = keyI b) = decide (a = b) := by
  by_cases h : a = b
  · subst h; simp
  · rw [decide_eq_false h, decide_eq_false (fun e => h (keyI_inj e))]
theorem sorted_uniq {L : List Ev} (hs : SortedE L) {i j : Nat} (hi : i < L.length) (hj : j < L.length) (h : L[i].key = L[j].key) : i = j := by
  rcases Nat.lt_trichotomy i j with hlt | heq | hgt
  · have := List.pairwise_iff_getElem.1 hs i j hi hj hlt
    rw [h] at this
    exact this.irrefl.elim
  · exact heq
  · have := List.pairwise_iff_getElem.1 hs j i hj hi hgt
    rw [h] at this
    exact this.irrefl.elim
/-- Where a key's event stands, the first. -/
def atN (L : List Ev) (k : Key4) : Nat := L.findIdx fun e => decide (e.key = k)
def atI (L : List Ev) (k : Key4) : Int := if atN L k < L.length then (atN L k : Int) else -1
theorem atN_le (L : List Ev) (k : Key4) : atN L k ≤ L.length := List.findIdx_le_length
theorem atN_key {L : List Ev} {k : Key4} (h : atN L k < L.length) : (L[atN L k]'h).key = k := by
  unfold atN at h ⊢
  have := List.findIdx_getElem (p := fun e : Ev => decide (e.key = k)) (w := h)
  simpa using this
theorem atN_lt {L : List Ev} {k : Key4} {j : Nat} (hj : j < L.length) (h : j < atN L k) : L[j].key ≠ k := by
  have := List.not_of_lt_findIdx (p := fun e : Ev => decide (e.key = k)) (xs := L) h
  simpa using this
theorem atI_bd (L : List Ev) (k : Key4) : -1 ≤ atI L k ∧ atI L k < L.length := by
  unfold atI
  split <;> omega
theorem sortedE_keys {L : List Ev} : SortedE L ↔ (L.map Ev.key).Pairwise Key4.Lt := by rw [List.pairwise_map]; rfl
theorem sortedW_of {L : List Ev} (h : SortedE L) : SortedW L := h.imp fun {a b} hab => by
  have := (cmpK_neg a.key b.key).2 hab
  omega
theorem ordered_sorted {L : List Ev} (h : orderedB L = true) : SortedE L := by
  unfold orderedB at h
  simp only [Bool.and_eq_true, decide_eq_true_eq, List.all_eq_true] at h
  exact (rising_iff h.2.1).1 h.2.2
theorem ordered_len {L : List Ev} (h : orderedB L = true) : L.length ≤ 64 := by
  unfold orderedB at h
  simp only [Bool.and_eq_true, decide_eq_true_eq] at h
  exact h.1
end Go.Proofs.YtibeihcpehikoaaGreat

namespace Go.Proofs.YtibeihcpehikoaaGreat
open Go.RowKit
def zeroE : Ev := ⟨0, 0, 0, 0, 0, 0, 0, 0, 0⟩
def cmdC (kind : Int) (e : Ev) (late : Int) (played : Bool) : List Value := [.int .i64 kind] ++ e.cells ++ [.int .i64 late, .bool played]
/-- A command. -/
structure Cm where
  kind : Int
  e : Ev
  late : Int
  played : Bool
  deriving DecidableEq
def Cm.cells (c : Cm) : List Value := cmdC c.kind c.e c.late c.played
theorem Cm.cells_length (c : Cm) : c.cells.length = 12 := rfl
/-- The entries behind a store of an event. -/
def StoreL (L L' : List (Key4 × Ev)) (e : Ev) : Prop := (∀ p ∈ L', p = (e.key, e) ∨ (p ∈ L ∧ p.1.val ≠ e.key.val)) ∧ (∀ p ∈ L, p.1.val ≠ e.key.val → p ∈ L') ∧ (e.key, e) ∈ L' ∧ (L'.map fun p => p.1.val).Nodup
def prs (S : List Ev) : List (Key4 × Ev) := S.map fun e => (e.key, e)
theorem prs_snd (S : List Ev) : (prs S).map (·.2) = S := by
  unfold prs
  rw [List.map_map]
  exact List.map_id'' (fun _ => rfl) S
theorem prs_len (S : List Ev) : (prs S).length = S.length := by unfold prs; simp
theorem mem_prs {S : List Ev} {p : Key4 × Ev} : p ∈ prs S ↔ p.2 ∈ S ∧ p.1 = p.2.key := by
  unfold prs
  rw [List.mem_map]
  constructor
  · rintro ⟨e, he, rfl⟩; exact ⟨he, rfl⟩
  · rintro ⟨h1, h2⟩; exact ⟨p.2, h1, by rw [← h2]⟩
theorem keyV_inj {a b : Key4} (h : a.val = b.val) : a = b := by
  cases a; cases b
  simpa [Key4.val] using h
/-- What the entries always are. -/
structure LvOk (S : List Ev) : Prop where
  sorted : SortedE S
  ok : ∀ e ∈ S, evOk e = true
theorem LvOk.nil : LvOk [] := ⟨List.Pairwise.nil, by simp⟩
theorem LvOk.filter {S : List Ev} (h : LvOk S) (p : Ev → Bool) : LvOk (S.filter p) := ⟨h.sorted.sublist List.filter_sublist, fun e he => h.ok e (List.mem_filter.1 he).1⟩
theorem LvOk.keys {S : List Ev} (h : LvOk S) : ((prs S).map fun p => p.1.val).Nodup := by
  have h1 := (sortedE_iff (sortedW_of h.sorted)).1 h.sorted
  unfold prs
  rw [List.map_map]
  unfold List.Nodup at h1 ⊢
  rw [List.pairwise_map] at h1 ⊢
  exact h1.imp fun hab e => hab (keyV_inj e)
/-- But that of a key. -/
def dropK (S : List Ev) (k : Key4) : List Ev := S.filter fun x => !decide (x.key = k)
theorem mem_dropK {S : List Ev} {k : Key4} {x : Ev} : x ∈ dropK S k ↔ x ∈ S ∧ x.key ≠ k := by
  unfold dropK
  rw [List.mem_filter]
  simp
theorem LvOk.drop {S : List Ev} (h : LvOk S) (k : Key4) : LvOk (dropK S k) := h.filter _
theorem dropK_none {S : List Ev} {k : Key4} (h : ∀ x ∈ S, x.key ≠ k) : dropK S k = S := by
  unfold dropK
  rw [List.filter_eq_self]
  intro x hx
  simp [h x hx]
theorem dropK_le (S : List Ev) (k : Key4) : (dropK S k).length ≤ S.length := List.length_filter_le _ _
theorem dropK_lt {S : List Ev} {k : Key4} {x : Ev} (hx : x ∈ S) (hk : x.key = k) : (dropK S k).length < S.length := by
  unfold dropK
  have := List.length_filter_lt_length_iff_exists (p := fun x : Ev => !decide (x.key = k)) (l := S)
  exact this.2 ⟨x, hx, by simp [hk]⟩
theorem prs_drop {S : List Ev} {k : Key4} : ∀ p, p ∈ prs (dropK S k) ↔ (p ∈ prs S ∧ p.1.val ≠ k.val) := fun p => by
  rw [mem_prs, mem_prs, mem_dropK]
  constructor
  · rintro ⟨⟨h1, h2⟩, h3⟩
    exact ⟨⟨h1, h3⟩, fun e => h2 (by rw [← h3]; exact keyV_inj e)⟩
  · rintro ⟨⟨h1, h3⟩, h2⟩
    exact ⟨⟨h1, fun e => h2 (by rw [h3, e])⟩, h3⟩
theorem LvOk.put {S : List Ev} (h : LvOk S) {e : Ev} (he : evOk e = true) (hk : ∀ x ∈ S, x.key ≠ e.key) : LvOk (putE S e) := by
  have hp := putE_perm S e
  refine ⟨?_, fun x hx => ?_⟩
  · rw [sortedE_iff (putE_sortedW (sortedW_of h.sorted) e), (hp.map Ev.key).nodup_iff, List.map_cons, List.nodup_cons]
    refine ⟨fun hm => ?_, (sortedE_iff (sortedW_of h.sorted)).1 h.sorted⟩
    obtain ⟨x, hx, hxe⟩ := List.mem_map.1 hm
    exact hk x hx hxe
  · rcases List.mem_cons.1 (hp.mem_iff.1 hx) with rfl | hx
    · exact he
    · exact h.ok x hx
theorem storeL_put {S : List Ev} (h : LvOk S) {e : Ev} (he : evOk e = true) : StoreL (prs S) (prs (putE (dropK S e.key) e)) e := by
  have hp := putE_perm (dropK S e.key) e
  have hok := (h.drop e.key).put he (fun x hx => (mem_dropK.1 hx).2)
  refine ⟨fun p hp' => ?_, fun p hp' hne => ?_, ?_, hok.keys⟩
  · rw [mem_prs] at hp'
    rcases List.mem_cons.1 (hp.mem_iff.1 hp'.1) with h1 | h1
    · left
      rw [← h1, ← hp'.2]
    · right
      rw [mem_dropK] at h1
      exact ⟨mem_prs.2 ⟨h1.1, hp'.2⟩, fun e => h1.2 (by rw [← hp'.2]; exact keyV_inj e)⟩
  · rw [mem_prs] at hp' ⊢
    exact ⟨hp.mem_iff.2 (List.mem_cons_of_mem _ (mem_dropK.2 ⟨hp'.1, fun e => hne (by rw [hp'.2, e])⟩)), hp'.2⟩
  · exact mem_prs.2 ⟨hp.mem_iff.2 (by simp), rfl⟩
/-- The entry of a key. -/
def findS (S : List Ev) (k : Key4) : Option Ev := S.find? fun x => decide (x.key = k)
theorem findS_none {S : List Ev} {k : Key4} : findS S k = none ↔ ∀ x ∈ S, x.key ≠ k := by
  unfold findS
  rw [List.find?_eq_none]
  simp
theorem findS_some {S : List Ev} {k : Key4} {z : Ev} (h : findS S k = some z) : z ∈ S ∧ z.key = k := by
  unfold findS at h
  exact ⟨List.mem_of_find?_eq_some h, by simpa using List.find?_some h⟩
theorem findS_mem {S : List Ev} (h : SortedE S) {z : Ev} (hz : z ∈ S) : findS S z.key = some z := by
  cases hf : findS S z.key with
  | none => exact absurd rfl (findS_none.1 hf z hz)
  | some y =>
    obtain ⟨h1, h2⟩ := findS_some hf
    obtain ⟨i, hi, rfl⟩ := List.mem_iff_getElem.1 h1
    obtain ⟨j, hj, rfl⟩ := List.mem_iff_getElem.1 hz
    have := sorted_uniq h hi hj h2
    subst this
    rfl
/-- Can what is heard be turned into what is told? -/
def likeE (a b : Ev) : Bool := decide (a.asset = b.asset) && decide (a.len = b.len)
def staysE (evs : List Ev) (o : Ev) : Bool := evs.any fun x => decide (x.key = o.key) && likeE x o
abbrev Sc := List Ev × List Cm
def cancelS (evs : List Ev) (s : Sc) (o : Ev) : Sc := if staysE evs o = true then s else (dropK s.1 o.key, s.2 ++ [⟨3, o, 0, false⟩])
def ofF (f : Int) (S : List Ev) : List Ev := S.filter fun o => decide (o.frame = f)
def cancelF (evs : List Ev) (f : Int) (S : List Ev) : Sc := (ofF f S).foldl (cancelS evs) (S, [])
def startS (most now : Int) (s : Sc) (e : Ev) : Sc :=
  match findS s.1 e.key with
  | some z => if z = e then s else (putE (dropK s.1 e.key) e, s.2 ++ [⟨2, e, 0, false⟩])
  | none => if (s.1.length : Int) < most then (putE s.1 e, s.2 ++ [⟨1, e, now - e.frame, false⟩]) else s
def tellF (most now : Int) (evs : List Ev) (f : Int) (S : List Ev) : Sc := evs.foldl (startS most now) (cancelF evs f S)
theorem foldl_snoc {α β : Type} (F : β → α → β) (b : β) (L : List α) (k : Nat) (hk : k < L.length) : (L.take (k + 1)).foldl F b = F ((L.take k).foldl F b) L[k] := by
  rw [List.take_succ_eq_append_getElem hk, List.foldl_append]
  rfl
theorem cancelS_ok {evs : List Ev} {s : Sc} (h : LvOk s.1) (o : Ev) : LvOk (cancelS evs s o).1 := by
  unfold cancelS
  split
  · exact h
  · exact h.drop _
theorem cancelS_le (evs : List Ev) (s : Sc) (o : Ev) : (cancelS evs s o).1.length ≤ s.1.length ∧ (cancelS evs s o).2.length ≤ s.2.length + 1 := by
  unfold cancelS
  split
  · omega
  · refine ⟨dropK_le _ _, ?_⟩
    simp
theorem cancel_fold (evs : List Ev) : ∀ (L : List Ev) (s : Sc), LvOk s.1 → LvOk (L.foldl (cancelS evs) s).1 ∧ (L.foldl (cancelS evs) s).1.length ≤ s.1.length ∧ (L.foldl (cancelS evs) s).2.length ≤ s.2.length + L.length
  | [], s, h => ⟨h, Nat.le_refl _, Nat.le_refl _⟩
  | o :: L, s, h => by
    obtain ⟨h1, h2, h3⟩ := cancel_fold evs L (cancelS evs s o) (cancelS_ok h o)
    have := cancelS_le evs s o
    rw [List.foldl_cons, List.length_cons]
    exact ⟨h1, by omega, by omega⟩
theorem startS_ok {most now : Int} {s : Sc} (h : LvOk s.1) {e : Ev} (he : evOk e = true) : LvOk (startS most now s e).1 := by
  unfold startS
  cases hf : findS s.1 e.key with
  | some z =>
    dsimp only
    split
    · exact h
    · exact (h.drop _).put he (fun x hx => (mem_dropK.1 hx).2)
  | none =>
    dsimp only
    split
    · exact h.put he (findS_none.1 hf)
    · exact h
theorem startS_le {most now : Int} {s : Sc} (e : Ev) : ((startS most now s e).1.length : Int) ≤ max (s.1.length : Int) most ∧ (startS most now s e).2.length ≤ s.2.length + 1 := by
  unfold startS
  cases hf : findS s.1 e.key with
  | some z =>
    obtain ⟨h1, h2⟩ := findS_some hf
    have := dropK_lt h1 h2
    dsimp only
    split
    · omega
    · dsimp only
      rw [putE_length, List.length_append, List.length_cons, List.length_nil]
      omega
  | none =>
    dsimp only
    split
    · dsimp only
      rw [putE_length, List.length_append, List.length_cons, List.length_nil]
      omega
    · omega
theorem start_fold (most now : Int) : ∀ (L : List Ev) (s : Sc), LvOk s.1 → (∀ e ∈ L, evOk e = true) → LvOk (L.foldl (startS most now) s).1 ∧ ((L.foldl (startS most now) s).1.length : Int) ≤ max (s.1.length : Int) most ∧ (L.foldl (startS most now) s).2.length ≤ s.2.length + L.length
  | [], s, h, _ => ⟨h, Int.le_max_left _ _, Nat.le_refl _⟩
  | o :: L, s, h, ho => by
    obtain ⟨h1, h2, h3⟩ := start_fold most now L (startS most now s o) (startS_ok h (ho o (by simp))) (fun e he => ho e (by simp [he]))
    have := startS_le (most := most) (now := now) (s := s) o
    rw [List.foldl_cons, List.length_cons]
    exact ⟨h1, by omega, by omega⟩
theorem cancelF_ok {evs : List Ev} {f : Int} {S : List Ev} (h : LvOk S) : LvOk (cancelF evs f S).1 ∧ (cancelF evs f S).1.length ≤ S.length ∧ (cancelF evs f S).2.length ≤ S.length := by
  obtain ⟨h1, h2, h3⟩ := cancel_fold evs (ofF f S) (S, []) h
  have h4 : (ofF f S).length ≤ S.length := List.length_filter_le _ _
  refine ⟨h1, h2, ?_⟩
  have h5 : ((S, ([] : List Cm)) : Sc).2.length = 0 := rfl
  unfold cancelF
  omega
theorem tellF_ok {most now : Int} {evs : List Ev} {f : Int} {S : List Ev} (h : LvOk S) (ho : ∀ e ∈ evs, evOk e = true) (hS : (S.length : Int) ≤ most) : LvOk (tellF most now evs f S).1 ∧ ((tellF most now evs f S).1.length : Int) ≤ most ∧ (tellF most now evs f S).2.length ≤ S.length + evs.length := by
  obtain ⟨h1, h2, h3⟩ := cancelF_ok (evs := evs) (f := f) h
  obtain ⟨h4, h5, h6⟩ := start_fold most now evs (cancelF evs f S) h1 ho
  unfold tellF
  exact ⟨h4, by omega, by omega⟩
/-- A frame that is committed. -/
def commitS (s : Sc) (e : Ev) : Sc := (dropK s.1 e.key, s.2 ++ [⟨4, e, 0, (findS s.1 e.key).isSome⟩])
def commitF (evs : List Ev) (S : List Ev) : Sc := evs.foldl commitS (S, [])
theorem commit_fold : ∀ (L : List Ev) (s : Sc), LvOk s.1 → LvOk (L.foldl commitS s).1 ∧ (L.foldl commitS s).1.length ≤ s.1.length ∧ (L.foldl commitS s).2.length = s.2.length + L.length
  | [], s, h => ⟨h, Nat.le_refl _, rfl⟩
  | o :: L, s, h => by
    obtain ⟨h1, h2, h3⟩ := commit_fold L (commitS s o) (h.drop _)
    have hd := dropK_le s.1 o.key
    have e1 : (commitS s o).1 = dropK s.1 o.key := rfl
    have e2 : (commitS s o).2.length = s.2.length + 1 := by unfold commitS; simp
    rw [e1] at h2
    rw [e2] at h3
    rw [List.foldl_cons, List.length_cons]
    exact ⟨h1, by omega, by omega⟩
def haltF (S : List Ev) : List Cm := S.map fun e => ⟨3, e, 0, false⟩
/-- Why a page can't be told; 0: it can. 3 halted, 1 no page, 4 old. -/
def otherB (f : Int) (evs : List Ev) : Bool := evs.any fun e => !decide (e.frame = f)
def argB (evs : List Ev) (f now : Int) : Bool := orderedB evs && (!otherB f evs && (decide (f ≤ now) && decide (now ≤ 1073741824)))
end Go.Proofs.YtibeihcpehikoaaGreat
