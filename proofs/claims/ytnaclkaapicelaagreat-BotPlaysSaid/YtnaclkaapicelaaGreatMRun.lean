/-
  The mixed regions' law with one row that may be written; events held against each other; the walk of game.Run.
-/
import Derived.Maps.RangeWalk
import Derived.Maps.AppendAt
import Derived.Deep.DeepCutAuto
import Derived.Test.YtnaclkaapicelaaGreatMa3
import Derived.Test.YtnaclkaapicelaaGreatMa5
import Derived.Test.YtnaclkaapicelaaGreatEventIns
namespace Go.Proofs.YtnaclkaapicelaaGreat
open Go.RowKit
/-- What is told ahead of one that makes; does it write the row that may be written? -/
structure ToldR where
  S : Value → Prop
  R : Value → World → Prop
  rw_ : Bool
/-- A world that has come of w: of what was there one row alone may have turned. -/
def Come (row : Option Nat) (w W : World) : Prop := w.grownBy W row
def ToldR.eff (t : ToldR) (row : Option Nat) (W U : World) : Prop := W.grownBy U (if t.rw_ then row else none)
theorem ToldR.eff_row {t : ToldR} {row : Option Nat} {W U : World} (h : t.eff row W U) : W.grownBy U row := by
  unfold ToldR.eff at h
  cases ht : t.rw_
  · rw [ht] at h; exact h.but row
  · rw [ht] at h; exact h
theorem Come.eff {t : ToldR} {row : Option Nat} {w W U : World} (h : Come row w W) (k : t.eff row W U) : Come row w U := World.grownBy.trans h (ToldR.eff_row k)
section
variable {P : Program} {ops : Array Oper} {md : Region.Mode} {w : World} {row : Option Nat} {kd : Nat → Kd} {sp : Nat → ToldR}
/-- The classes of worlds: ahead of the one that writes the row; behind it; behind the first of the last ones. -/
def baseR (row : Option Nat) (w : World) : Nat → World → Prop
  | 0, W => Come none w W
  | 1, W => Come row w W
  | _, _ => True
def Cls (row : Option Nat) (w : World) (m : Nat) (C : World → Prop) (W : World) : Prop := baseR row w m W ∧ C W
theorem base_row {row : Option Nat} {w : World} {m : Nat} (hm : m < 2) {W : World} (h : baseR row w m W) : Come row w W := by
  match m, hm with
  | 0, _ => exact World.grownBy.but h row
  | 1, _ => exact h
theorem base_eff {row : Option Nat} {w : World} {m : Nat} {t : ToldR} (hr : t.rw_ = false) {W U : World} (h : baseR row w m W) (k : t.eff row W U) : baseR row w m U := by
  unfold ToldR.eff at k
  rw [hr] at k
  match m with
  | 0 => exact World.grownBy.trans (row := none) h k
  | 1 => exact World.grownBy.trans (row := row) h (World.grownBy.but k row)
  | _ + 2 => trivial
/-- The class behind one that makes. -/
def nextM (t : ToldR) (m : Nat) : Nat := if t.rw_ then 1 else m
structure Inv (sp : Nat → ToldR) (row : Option Nat) (m : Nat) (C : World → Prop) (F : Nat → Prop) : Prop where
  low : m < 2
  grow : ∀ k, F k → ∀ W U, C W → (sp k).eff row W U → C U
theorem cls_next {sp : Nat → ToldR} {row : Option Nat} {w : World} {m i : Nat} {C : World → Prop} {F : Nat → Prop} (h : Inv sp row m C F) (hf : F i) {W U : World} (hW : Cls row w m C W) (k : (sp i).eff row W U) : Cls row w (nextM (sp i) m) C U := by
  refine ⟨?_, h.grow i hf W U hW.2 k⟩
  unfold nextM
  cases hr : (sp i).rw_
  · exact base_eff hr hW.1 k
  · exact Come.eff (base_row h.low hW.1) k
theorem next_low {t : ToldR} {m : Nat} (h : m < 2) : nextM t m < 2 := by unfold nextM; split <;> omega
def MakesR (P : Program) (w : World) (row : Option Nat) (o : Oper) (t : ToldR) (a : Act) : Prop := ∀ W, Come (if t.rw_ then none else row) w W → Oper.goes P o a W (fun u W' => (t.S u ∧ t.R u W') ∧ t.eff row W W')
theorem makes_at {P : Program} {w : World} {row : Option Nat} {o : Oper} {t : ToldR} {a : Act} (h : MakesR P w row o t a) {m : Nat} (hm : m < 2) (h0 : t.rw_ = true → m = 0) {W : World} (hW : baseR row w m W) : Oper.goes P o a W (fun u W' => (t.S u ∧ t.R u W') ∧ t.eff row W W') := by
  refine h W ?_
  cases hr : t.rw_
  · exact base_row hm hW
  · have := h0 hr
    subst this
    exact hW
def mStepR (P : Program) (ops : Array Oper) (w : World) (row : Option Nat) (kd : Nat → Kd) (sp : Nat → ToldR) (o : Oper) (i : Nat) (K : Act → Nat → (World → Prop) → (Nat → Prop) → Prop) (a : Act) (m : Nat) (C : World → Prop) (F : Nat → Prop) : Prop :=
  if Region.wanted o (yielded ops a.tmps) = true then
    match kd i with
    | .pure => ∃ v, (∀ W, RunsTo P o a W v) ∧ K (a.put o.dst v) m C F
    | .held => m < 2 ∧ ∃ v, (∀ W, Come row w W → RunsTo P o a W v) ∧ K (a.put o.dst v) m C F
    | .make => Inv sp row m C F ∧ F i ∧ ((sp i).rw_ = true → m = 0) ∧ (∀ k, k ≠ i → ∀ v W U, (sp i).R v W → (sp k).eff row W U → (sp i).R v U) ∧ MakesR P w row o (sp i) a ∧ ∀ v, (sp i).S v → K (a.put o.dst v) (nextM (sp i) m) (fun W => C W ∧ (sp i).R v W) (fun k => F k ∧ k ≠ i)
    | .tail => ∃ (S : Value → Prop) (R : Value → World → Prop), (∃ v, S v) ∧ (∀ W, Cls row w m C W → Oper.goes P o a W (fun u W' => S u ∧ R u W')) ∧ ∀ v, S v → K (a.put o.dst v) 2 (R v) (fun _ => False)
  else K (a.put o.dst undef) m C F
def mOpR (P : Program) (ops : Array Oper) (w : World) (row : Option Nat) (kd : Nat → Kd) (sp : Nat → ToldR) (i : Nat) (K : Act → Nat → (World → Prop) → (Nat → Prop) → Prop) (a : Act) (m : Nat) (C : World → Prop) (F : Nat → Prop) : Prop :=
  match ops[i]? with
  | none => K a m C F
  | some o => mStepR P ops w row kd sp o i K a m C F
theorem mStepR_mono {o : Oper} {i : Nat} {a : Act} {m : Nat} {C : World → Prop} {F : Nat → Prop} {K K' : Act → Nat → (World → Prop) → (Nat → Prop) → Prop} (h : ∀ a m C F, K a m C F → K' a m C F) (hh : mStepR P ops w row kd sp o i K a m C F) : mStepR P ops w row kd sp o i K' a m C F := by
  unfold mStepR at *
  split
  · rename_i hw
    rw [if_pos hw] at hh
    cases hk : kd i <;> rw [hk] at hh <;> simp only at hh ⊢
    · obtain ⟨v, h1, h2⟩ := hh; exact ⟨v, h1, h _ _ _ _ h2⟩
    · obtain ⟨h0, v, h1, h2⟩ := hh; exact ⟨h0, v, h1, h _ _ _ _ h2⟩
    · obtain ⟨h0, hf, hz, h1, h2, h3⟩ := hh; exact ⟨h0, hf, hz, h1, h2, fun v hv => h _ _ _ _ (h3 v hv)⟩
    · obtain ⟨S, R, h0, h1, h2⟩ := hh; exact ⟨S, R, h0, h1, fun v hv => h _ _ _ _ (h2 v hv)⟩
  · rename_i hw; rw [if_neg hw] at hh; exact h _ _ _ _ hh
theorem make_ne {o : Oper} {i : Nat} {a : Act} (hM : MakesR P w row o (sp i) a) : ∃ v, (sp i).S v := by
  obtain ⟨v, W', ⟨hs, -⟩, -⟩ := goes_some (hM w (World.grownBy.refl w _))
  exact ⟨v, hs⟩
theorem mStepR_some {o : Oper} {i : Nat} {a : Act} {m : Nat} {C : World → Prop} {F : Nat → Prop} {K : Act → Nat → (World → Prop) → (Nat → Prop) → Prop} (hh : mStepR P ops w row kd sp o i K a m C F) : ∃ a' m' C' F', K a' m' C' F' := by
  unfold mStepR at hh
  split at hh
  · cases hk : kd i <;> rw [hk] at hh <;> simp only at hh
    · obtain ⟨v, -, h2⟩ := hh; exact ⟨_, _, _, _, h2⟩
    · obtain ⟨-, v, -, h2⟩ := hh; exact ⟨_, _, _, _, h2⟩
    · obtain ⟨h0, hf, hz, h1, h2, h3⟩ := hh
      obtain ⟨v, hs⟩ := make_ne h2
      exact ⟨_, _, _, _, h3 v hs⟩
    · obtain ⟨S, R, ⟨v, hs⟩, h1, h2⟩ := hh
      exact ⟨_, _, _, _, h2 v hs⟩
  · exact ⟨_, _, _, _, hh⟩
theorem mStepR_swap {i j : Nat} {oi oj : Oper} (hap : oi.apart ops oj = true) (hsi : ∀ cs b, oi.op ≠ .select cs b) (hsj : ∀ cs b, oj.op ≠ .select cs b) (hk : swapOk (kd i) (kd j) = true) {K : Act → Nat → (World → Prop) → (Nat → Prop) → Prop} {a : Act} {m : Nat} {C : World → Prop} {F : Nat → Prop} (hij : j ≠ i)
    (h : mStepR P ops w row kd sp oi i (fun a1 m1 D1 F1 => mStepR P ops w row kd sp oj j K a1 m1 D1 F1) a m C F) : mStepR P ops w row kd sp oj j (fun a2 m2 D2 F2 => mStepR P ops w row kd sp oi i K a2 m2 D2 F2) a m C F := by
  obtain ⟨h1, h2, h3⟩ := Oper.apart_spec hap
  have ei : ∀ (a : Act) u, execOp (a.put oj.dst u).eval oi = execOp a.eval oi := fun a u => execOp_put oi hsi a oj.dst u h3
  have ej : ∀ (a : Act) u, execOp (a.put oi.dst u).eval oj = execOp a.eval oj := fun a u => execOp_put oj hsj a oi.dst u h1
  have wi : ∀ (a : Act) u, Region.wanted oi (yielded ops (a.put oj.dst u).tmps) = Region.wanted oi (yielded ops a.tmps) := fun a u => wanted_put oi a oj.dst u h3
  have wj : ∀ (a : Act) u, Region.wanted oj (yielded ops (a.put oi.dst u).tmps) = Region.wanted oj (yielded ops a.tmps) := fun a u => wanted_put oj a oi.dst u h1
  have pc : ∀ (a : Act) u v, (a.put oi.dst u).put oj.dst v = (a.put oj.dst v).put oi.dst u := fun a u v => Act.put_comm a u v h2
  have ri : ∀ (a : Act) u W v, RunsTo P oi (a.put oj.dst u) W v ↔ RunsTo P oi a W v := fun a u W v => by unfold RunsTo; rw [ei]
  have rj : ∀ (a : Act) u W v, RunsTo P oj (a.put oi.dst u) W v ↔ RunsTo P oj a W v := fun a u W v => by unfold RunsTo; rw [ej]
  have gi : ∀ (a : Act) u W T, Oper.goes P oi (a.put oj.dst u) W T ↔ Oper.goes P oi a W T := fun a u W T => by unfold Oper.goes; rw [ei]
  have gj : ∀ (a : Act) u W T, Oper.goes P oj (a.put oi.dst u) W T ↔ Oper.goes P oj a W T := fun a u W T => by unfold Oper.goes; rw [ej]
  have mi : ∀ (a : Act) u t, MakesR P w row oi t (a.put oj.dst u) ↔ MakesR P w row oi t a := fun a u t => by unfold MakesR; simp only [gi]
  have mj : ∀ (a : Act) u t, MakesR P w row oj t (a.put oi.dst u) ↔ MakesR P w row oj t a := fun a u t => by unfold MakesR; simp only [gj]
  have dc : ∀ (A B : World → Prop), (fun W => (C W ∧ A W) ∧ B W) = (fun W => (C W ∧ B W) ∧ A W) := fun A B => by funext W; exact propext ⟨fun ⟨⟨a, b⟩, c⟩ => ⟨⟨a, c⟩, b⟩, fun ⟨⟨a, b⟩, c⟩ => ⟨⟨a, c⟩, b⟩⟩
  have fc : ∀ x y : Nat, (fun k => (F k ∧ k ≠ x) ∧ k ≠ y) = (fun k => (F k ∧ k ≠ y) ∧ k ≠ x) := fun x y => by funext k; exact propext ⟨fun ⟨⟨a, b⟩, c⟩ => ⟨⟨a, c⟩, b⟩, fun ⟨⟨a, b⟩, c⟩ => ⟨⟨a, c⟩, b⟩⟩
  unfold mStepR at h ⊢
  simp only [wi, wj, ri, rj, gi, gj, mi, mj] at h ⊢
  by_cases hwi : Region.wanted oi (yielded ops a.tmps) = true
  · by_cases hwj : Region.wanted oj (yielded ops a.tmps) = true
    · simp only [hwi, hwj, if_true] at h ⊢
      cases hki : kd i <;> cases hkj : kd j <;> rw [hki, hkj] at hk <;> simp only [hki, hkj] at h ⊢
      case tail.tail => simp [swapOk] at hk
      case tail.held => simp [swapOk] at hk
      case tail.make => simp [swapOk] at hk
      case held.tail => simp [swapOk] at hk
      case make.tail => simp [swapOk] at hk
      case pure.pure =>
        obtain ⟨v, hv, u, hu, hK⟩ := h
        exact ⟨u, hu, v, hv, by rw [← pc]; exact hK⟩
      case pure.held =>
        obtain ⟨v, hv, hD, u, hu, hK⟩ := h
        exact ⟨hD, u, hu, v, hv, by rw [← pc]; exact hK⟩
      case pure.make =>
        obtain ⟨v, hv, hD, hf, hz, hst, hM, hK⟩ := h
        exact ⟨hD, hf, hz, hst, hM, fun u hu => ⟨v, hv, by rw [← pc]; exact hK u hu⟩⟩
      case pure.tail =>
        obtain ⟨v, hv, S, R, hs, hg, hK⟩ := h
        exact ⟨S, R, hs, hg, fun u hu => ⟨v, hv, by rw [← pc]; exact hK u hu⟩⟩
      case held.pure =>
        obtain ⟨hD, v, hv, u, hu, hK⟩ := h
        exact ⟨u, hu, hD, v, hv, by rw [← pc]; exact hK⟩
      case held.held =>
        obtain ⟨hD, v, hv, -, u, hu, hK⟩ := h
        exact ⟨hD, u, hu, hD, v, hv, by rw [← pc]; exact hK⟩
      case held.make =>
        obtain ⟨hD, v, hv, hI, hf, hz, hst, hM, hK⟩ := h
        exact ⟨hI, hf, hz, hst, hM, fun u hu => ⟨next_low hD, v, hv, by rw [← pc]; exact hK u hu⟩⟩
      case make.pure =>
        obtain ⟨hD, hf, hz, hst, hM, hK⟩ := h
        obtain ⟨v0, hs0⟩ := make_ne hM
        obtain ⟨u, hu, -⟩ := hK v0 hs0
        refine ⟨u, hu, hD, hf, hz, hst, hM, fun v hv => ?_⟩
        obtain ⟨u', hu', hK'⟩ := hK v hv
        have : u' = u := runsTo_uniq (hu' w) (hu w)
        subst this
        rw [← pc]; exact hK'
      case make.held =>
        obtain ⟨hD, hf, hz, hst, hM, hK⟩ := h
        obtain ⟨v0, hs0⟩ := make_ne hM
        obtain ⟨-, u, hu, -⟩ := hK v0 hs0
        refine ⟨hD.low, u, hu, hD, hf, hz, hst, hM, fun v hv => ?_⟩
        obtain ⟨-, u', hu', hK'⟩ := hK v hv
        have : u' = u := runsTo_uniq (hu' w (World.grownBy.refl w row)) (hu w (World.grownBy.refl w row))
        subst this
        rw [← pc]; exact hK'
      case make.make =>
        obtain ⟨hD, hf, hz, hst, hM, hK⟩ := h
        obtain ⟨v0, hs0⟩ := make_ne hM
        obtain ⟨-, ⟨hfj, -⟩, hz2, hst2, hM2, -⟩ := hK v0 hs0
        -- not both write the row
        have hone : (sp j).rw_ = true → (sp i).rw_ = true → False := fun hj hi => by
          have := hz2 hj
          unfold nextM at this
          rw [hi] at this
          cases this
        have hnm : nextM (sp j) (nextM (sp i) m) = nextM (sp i) (nextM (sp j) m) := by
          unfold nextM
          cases (sp i).rw_ <;> cases (sp j).rw_ <;> rfl
        refine ⟨hD, hfj, fun hj => ?_, hst2, hM2, fun u hu => ⟨⟨next_low hD.low, fun k hk W U hW hg => ⟨hD.grow k hk.1 W U hW.1 hg, hst2 k hk.2 u W U hW.2 hg⟩⟩, ⟨hf, fun e => hij e.symm⟩, fun hi => ?_, hst, hM, fun v hv => ?_⟩⟩
        · have := hz2 hj
          unfold nextM at this
          cases hi : (sp i).rw_
          · rw [hi] at this; exact this
          · exact (hone hj hi).elim
        · have h0 := hz hi
          unfold nextM
          cases hj : (sp j).rw_
          · exact h0
          · exact (hone hj hi).elim
        · rw [← hnm, ← pc, ← dc, ← fc]
          exact (hK v hv).2.2.2.2.2 u hu
      case tail.pure =>
        obtain ⟨S, R, ⟨v0, hs0⟩, hg, hK⟩ := h
        obtain ⟨u, hu, -⟩ := hK v0 hs0
        refine ⟨u, hu, S, R, ⟨v0, hs0⟩, hg, fun v hv => ?_⟩
        obtain ⟨u', hu', hK'⟩ := hK v hv
        have : u' = u := runsTo_uniq (hu' w) (hu w)
        subst this
        rw [← pc]; exact hK'
    · simp only [hwi, hwj, if_true, Bool.false_eq_true, if_false] at h ⊢
      cases hki : kd i <;> simp only [hki] at h ⊢
      · obtain ⟨v, hv, hK⟩ := h; exact ⟨v, hv, by rw [← pc]; exact hK⟩
      · obtain ⟨hD, v, hv, hK⟩ := h; exact ⟨hD, v, hv, by rw [← pc]; exact hK⟩
      · obtain ⟨hD, hf, hz, hst, hM, hK⟩ := h; exact ⟨hD, hf, hz, hst, hM, fun v hv => by rw [← pc]; exact hK v hv⟩
      · obtain ⟨S, R, hs, hg, hK⟩ := h; exact ⟨S, R, hs, hg, fun v hv => by rw [← pc]; exact hK v hv⟩
  · by_cases hwj : Region.wanted oj (yielded ops a.tmps) = true
    · simp only [hwi, hwj, if_true, Bool.false_eq_true, if_false] at h ⊢
      cases hkj : kd j <;> simp only [hkj] at h ⊢
      · obtain ⟨v, hv, hK⟩ := h; exact ⟨v, hv, by rw [← pc]; exact hK⟩
      · obtain ⟨hD, v, hv, hK⟩ := h; exact ⟨hD, v, hv, by rw [← pc]; exact hK⟩
      · obtain ⟨hD, hf, hz, hst, hM, hK⟩ := h; exact ⟨hD, hf, hz, hst, hM, fun v hv => by rw [← pc]; exact hK v hv⟩
      · obtain ⟨S, R, hs, hg, hK⟩ := h; exact ⟨S, R, hs, hg, fun v hv => by rw [← pc]; exact hK v hv⟩
    · simp only [hwi, hwj, Bool.false_eq_true, if_false] at h ⊢
      rw [← pc]; exact h
def wpAnyR (P : Program) (md : Region.Mode) (ops : Array Oper) (w : World) (row : Option Nat) (kd : Nat → Kd) (sp : Nat → ToldR) (E : Act → Nat → (World → Prop) → (Nat → Prop) → Prop) : Nat → Array Bool → Act → Nat → (World → Prop) → (Nat → Prop) → Prop
  | 0, listed, a, m, C, F => Region.ready md ops listed = [] ∧ E a m C F
  | f + 1, listed, a, m, C, F => (Region.ready md ops listed = [] → E a m C F) ∧ ∀ i ∈ Region.ready md ops listed, mOpR P ops w row kd sp i (wpAnyR P md ops w row kd sp E f (listed.setIfInBounds i true)) a m C F
theorem wpOp_of_mOpR {i : Nat} {a : Act} {m : Nat} {C : World → Prop} {F : Nat → Prop} {K : Act → Nat → (World → Prop) → (Nat → Prop) → Prop} {K' : Act → World → Prop} {Q' : Exit → Act → World → Prop} {W : World} (hW : Cls row w m C W)
    (h : ∀ a m C F W', Cls row w m C W' → K a m C F → K' a W') (hh : mOpR P ops w row kd sp i K a m C F) : wpOp P ops Q' i K' a W := by
  unfold mOpR at hh
  unfold wpOp
  split
  · rename_i ho; simp only [ho] at hh; exact h _ _ _ _ _ hW hh
  · rename_i o ho
    simp only [ho] at hh
    unfold mStepR at hh
    split
    · rename_i hw
      rw [if_pos hw] at hh
      left
      cases hk : kd i <;> rw [hk] at hh <;> simp only at hh
      · obtain ⟨v, h1, h2⟩ := hh
        have h1 := h1 W
        unfold RunsTo at h1
        unfold Oper.wp
        rw [h1]
        exact h _ _ _ _ _ hW h2
      · obtain ⟨hD, v, h1, h2⟩ := hh
        have h1 := h1 W (base_row hD hW.1)
        unfold RunsTo at h1
        unfold Oper.wp
        rw [h1]
        exact h _ _ _ _ _ hW h2
      · obtain ⟨hD, hf, hz, hst, hM, hK⟩ := hh
        refine Oper.wp_of_goes (makes_at hM hD.low hz hW.1) fun v W' ⟨⟨hs, hr⟩, hg⟩ => ?_
        have := cls_next hD hf hW hg
        exact h _ _ _ _ W' ⟨this.1, this.2, hr⟩ (hK v hs)
      · obtain ⟨S, R, -, hg, hK⟩ := hh
        exact Oper.wp_of_goes (hg W hW) fun v W' ⟨hs, hr⟩ => h _ 2 _ _ W' ⟨trivial, hr⟩ (hK v hs)
    · rename_i hw; rw [if_neg hw] at hh; exact h _ _ _ _ _ hW hh
theorem wpAny_of_R {Q : Exit → Act → World → Prop} : ∀ (f : Nat) (listed : Array Bool) (a : Act) (m : Nat) (C : World → Prop) (F : Nat → Prop) (W : World), Cls row w m C W → wpAnyR P md ops w row kd sp (fun a m C _ => ∀ W, Cls row w m C W → Q .normal a W) f listed a m C F → wpAny P md ops Q f listed a W
  | 0, _, _, _, _, _, _, hW, h => ⟨h.1, h.2 _ hW⟩
  | f + 1, _, _, _, _, _, _, hW, h => ⟨fun h0 => h.1 h0 _ hW, fun i hi => wpOp_of_mOpR hW (fun a' m' D' F' W' hW' h' => wpAny_of_R f _ a' m' D' F' W' hW' h') (h.2 i hi)⟩
theorem wpAnyR_first {E : Act → Nat → (World → Prop) → (Nat → Prop) → Prop} {i : Nat} {oi : Oper} (hi : ops[i]? = some oi) (hsel : ∀ (j : Nat) (o : Oper) cs b, ops[j]? = some o → o.op ≠ .select cs b)
    (hsw : ∀ j, j < ops.size → j ≠ i → swapOk (kd i) (kd j) = false → Region.waitsFor md ops j i = true ∨ Region.waitsFor md ops i j = true) :
    ∀ (f : Nat) (listed : Array Bool) (a : Act) (m : Nat) (C : World → Prop) (F : Nat → Prop),
      (∀ j oj, ops[j]? = some oj → j ≠ i → listed.getD j true = false → (∀ e ∈ oj.after, Region.binds md e = true → e.on ≠ i) → oi.apart ops oj = true) →
      i ∈ Region.ready md ops listed → mOpR P ops w row kd sp i (wpAnyR P md ops w row kd sp E f (listed.setIfInBounds i true)) a m C F → wpAnyR P md ops w row kd sp E (f + 1) listed a m C F := by
  intro f
  induction f with
  | zero =>
    intro listed a m C F _ hr H
    refine ⟨fun h => (by rw [h] at hr; cases hr), fun j hj => ?_⟩
    by_cases hji : j = i
    · subst hji; exact H
    · unfold mOpR at H
      rw [hi] at H
      obtain ⟨a', m', D', F', h0, -⟩ := mStepR_some H
      have := ready_mono hj hji
      rw [h0] at this; cases this
  | succ f ih =>
    intro listed a m C F hfree hr H
    refine ⟨fun h => (by rw [h] at hr; cases hr), fun j hj => ?_⟩
    by_cases hji : j = i
    · subst hji; exact H
    · obtain ⟨hjun, oj, hoj, hall⟩ := mem_ready.1 hj
      have hun := (mem_ready.1 hr).1
      have hnot : ∀ e ∈ oj.after, Region.binds md e = true → e.on ≠ i := fun e he hb heq => by
        have h1 := hall e he hb
        rw [heq, getD_both hun] at h1
        cases h1
      have hap := hfree j oj hoj hji hjun hnot
      have hswap : swapOk (kd i) (kd j) = true := by
        cases hs : swapOk (kd i) (kd j) with
        | true => rfl
        | false =>
          rcases hsw j (Array.getElem?_eq_some_iff.1 hoj).1 hji hs with h1 | h1
          · obtain ⟨o', ho', e, he, hb, hon⟩ := Region.waitsFor_spec h1
            have : o' = oj := Option.some.inj (ho'.symm.trans hoj)
            subst this
            exact absurd hon (hnot e he hb)
          · obtain ⟨o', ho', e, he, hb, hon⟩ := Region.waitsFor_spec h1
            obtain ⟨-, oi', hoi', halli⟩ := mem_ready.1 hr
            have : o' = oi' := Option.some.inj (ho'.symm.trans hoi')
            subst this
            have h2 := halli e he hb
            rw [hon, getD_both hjun] at h2
            cases h2
      have hfree' : ∀ k ok, ops[k]? = some ok → k ≠ i → (listed.setIfInBounds j true).getD k true = false →
          (∀ e ∈ ok.after, Region.binds md e = true → e.on ≠ i) → oi.apart ops ok = true := fun k ok hk hki hun' hno => by
        refine hfree k ok hk hki ?_ hno
        by_cases hjk : j = k
        · subst hjk; exact hjun
        · rw [getD_set_ne true hjk] at hun'; exact hun'
      have hri := ready_mono hr (Ne.symm hji)
      unfold mOpR at H
      rw [hi] at H
      have H2 : mStepR P ops w row kd sp oi i (fun a1 m1 D1 F1 => mStepR P ops w row kd sp oj j (wpAnyR P md ops w row kd sp E f ((listed.setIfInBounds i true).setIfInBounds j true)) a1 m1 D1 F1) a m C F :=
        mStepR_mono (fun a1 m1 D1 F1 hK => by
          have := hK.2 j (ready_mono hj hji)
          unfold mOpR at this
          rw [hoj] at this
          exact this) H
      have H3 := mStepR_swap hap (fun cs b => hsel i oi cs b hi) (fun cs b => hsel j oj cs b hoj) hswap hji H2
      unfold mOpR
      rw [hoj]
      refine mStepR_mono (fun a2 m2 D2 F2 h3 => ih (listed.setIfInBounds j true) a2 m2 D2 F2 hfree' hri ?_) H3
      unfold mOpR
      rw [hi, Array.setIfInBounds_comm _ _ hji]
      exact h3
def wpMixR (P : Program) (ops : Array Oper) (w : World) (row : Option Nat) (kd : Nat → Kd) (sp : Nat → ToldR) (E : Act → Nat → (World → Prop) → (Nat → Prop) → Prop) : List Oper → Nat → Act → Nat → (World → Prop) → (Nat → Prop) → Prop
  | [], _, a, m, C, F => E a m C F
  | o :: rest, k, a, m, C, F => mStepR P ops w row kd sp o k (wpMixR P ops w row kd sp E rest (k + 1)) a m C F
theorem wpAnyR_lex {E : Act → Nat → (World → Prop) → (Nat → Prop) → Prop} (hs : Region.noSelect ops = true) (hsw : ∀ i j, i < ops.size → j < ops.size → j ≠ i → swapOk (kd i) (kd j) = false → Region.waitsFor md ops j i = true ∨ Region.waitsFor md ops i j = true) :
    ∀ (l : List Oper) (k : Nat) (listed : Array Bool) (a : Act) (m : Nat) (C : World → Prop) (F : Nat → Prop), (∀ j, l[j]? = ops[k + j]?) →
    Region.lexFrom md ops l.length k listed = true → wpMixR P ops w row kd sp E l k a m C F → wpAnyR P md ops w row kd sp E l.length listed a m C F
  | [], _, _, _, _, _, _, _, hB, h => ⟨by simpa [Region.lexFrom] using hB, h⟩
  | o :: l, k, listed, a, m, C, F, hl, hB, h => by
    have h0 : ops[k]? = some o := by simpa using (hl 0).symm
    simp only [List.length_cons, Region.lexFrom, Bool.and_eq_true] at hB
    obtain ⟨⟨hr, hf⟩, hB'⟩ := hB
    have hk : k < ops.size := (Array.getElem?_eq_some_iff.1 h0).1
    refine wpAnyR_first h0 (Region.noSelect_spec hs) (fun j hjl hj hsw' => hsw k j hk hjl hj hsw') l.length listed a m C F (Region.free_spec h0 hf) (by simpa using hr) ?_
    unfold mOpR
    rw [h0]
    exact mStepR_mono (fun a' m' D' F' h' => wpAnyR_lex hs hsw l (k + 1) _ a' m' D' F' (fun j => by have := hl (j + 1); simpa [Nat.add_assoc, Nat.add_comm 1 j] using this) hB' h') h
/-- **The law.** -/
theorem wp_region_mixedR {id : Nat} {Q : Exit → Act → World → Prop} {a : Act} {w : World} {l : List Oper} (row : Option Nat) (kds : List Kd) (sp : Nat → ToldR) (hm : P.follows .mixedOrders = true) (hB : mixB .any l.toArray (fun i => kds.getD i .pure) = true)
    (h : Inv sp row 0 (fun _ => True) (fun _ => True) → wpMixR P l.toArray w row (fun i => kds.getD i .pure) sp (fun a m C _ => ∀ W, baseR row w m W → C W → Q .normal a W) l 0 a 0 (fun _ => True) (fun _ => True)) : (Code.region id l.toArray true).wp P Q a w := by
  have h := h ⟨by decide, fun _ _ _ _ _ _ => trivial⟩
  simp only [mixB, Bool.and_eq_true] at hB
  obtain ⟨hlex, hall⟩ := hB
  simp only [Region.lexB, Bool.and_eq_true] at hlex
  have hg0 : Cls row w 0 (fun _ => True) { w with drawn := w.drawn + 1 } := ⟨⟨rfl, rfl, rfl, Nat.le_refl _, fun _ _ _ => rfl⟩, trivial⟩
  refine wp_region_any hm (wpAny_of_R (w := w) (row := row) (kd := fun i => kds.getD i .pure) (sp := sp) _ _ _ 0 (fun _ => True) (fun _ => True) _ hg0 ?_)
  have := wpAnyR_lex (P := P) (md := .any) (w := w) (row := row) (kd := fun i => kds.getD i .pure) (sp := sp) (E := fun a m C _ => ∀ W, Cls row w m C W → Q .normal a W) hlex.1 (fun i j hi hjl hj hs => by
    have h1 := List.all_eq_true.1 (List.all_eq_true.1 hall i (List.mem_range.2 hi)) j (List.mem_range.2 hjl)
    simp only [Bool.or_eq_true, decide_eq_true_eq] at h1
    rcases h1 with h1 | h1 | h1 | h1
    · exact absurd h1 hj
    · rw [hs] at h1; cases h1
    · exact .inl h1
    · exact .inr h1) l 0 (Array.replicate l.toArray.size false) a 0 (fun _ => True) (fun _ => True) (by simp) (by simpa using hlex.2) ?_
  · simpa using this
  · have e : (fun (a : Act) (m : Nat) (C : World → Prop) (_ : Nat → Prop) => ∀ W, Cls row w m C W → Q .normal a W) = (fun a m C _ => ∀ W, baseR row w m W → C W → Q .normal a W) := by
      funext a m C F
      exact propext ⟨fun h W h1 h2 => h W ⟨h1, h2⟩, fun h W h1 => h W h1.1 h1.2⟩
    rw [e]; exact h
/-! ### the walk's steps -/
theorem Come.cell {W : World} (h : Come row w W) {b o : Nat} (hb : b < w.heap.size) (hr : row ≠ some b) : W.cell? ⟨b, o, none⟩ = w.cell? ⟨b, o, none⟩ :=
  World.grownBy.cell_far h ⟨b, o, none⟩ hb (fun e => hr e.symm)
structure ExtR (w : World) (row : Option Nat) where
  world : World
  come : Come row w world
instance ExtR.some (w : World) (row : Option Nat) : Nonempty (ExtR w row) := ⟨⟨w, World.grownBy.refl w row⟩⟩
theorem ExtR.cell (x : ExtR w row) (b o : Nat) (hb : b < w.heap.size) (hr : row ≠ Option.some b) : x.world.cell? ⟨b, o, none⟩ = w.cell? ⟨b, o, none⟩ := x.come.cell hb hr
attribute [go_sem] ExtR.cell
section
variable {E : Act → Nat → (World → Prop) → (Nat → Prop) → Prop} {a : Act} {o : Oper} {rest : List Oper} {k m : Nat} {C : World → Prop} {F : Nat → Prop}
theorem mixR_skip (hw : Region.wanted o (yielded ops a.tmps) = false) (h : wpMixR P ops w row kd sp E rest (k + 1) (a.put o.dst undef) m C F) : wpMixR P ops w row kd sp E (o :: rest) k a m C F := by
  unfold wpMixR mStepR
  rw [if_neg (by rw [hw]; decide)]
  exact h
theorem mixR_pure (hw : Region.wanted o (yielded ops a.tmps) = true) (hk : kd k = .pure) (hp : valOp o.op = true)
    (h : ∀ K : Act → Prop, (∀ a, wpMixR P ops w row kd sp E rest (k + 1) a m C F → K a) → o.quiet P a (fun _ => True) K) : wpMixR P ops w row kd sp E (o :: rest) k a m C F := by
  unfold wpMixR mStepR
  rw [if_pos hw, hk]
  obtain ⟨v, h1, h2⟩ := h _ fun _ h => h
  exact ⟨v, fun W => runs_of_quiet hp (h1 W trivial), h2⟩
theorem mixR_held (hw : Region.wanted o (yielded ops a.tmps) = true) (hk : kd k = .held) (hp : valOp o.op = true) (hI : Inv sp row m C F)
    (h : ∀ K : Act → Prop, (∀ a, wpMixR P ops w row kd sp E rest (k + 1) a m C F → K a) → o.quiet P a (fun w' => ∃ x : ExtR w row, w' = x.world) K) : wpMixR P ops w row kd sp E (o :: rest) k a m C F := by
  unfold wpMixR mStepR
  rw [if_pos hw, hk]
  obtain ⟨v, h1, h2⟩ := h _ fun _ h => h
  exact ⟨hI.low, v, fun W hW => runs_of_quiet hp (h1 W ⟨⟨W, hW⟩, rfl⟩), h2⟩
theorem mixR_load (hw : Region.wanted o (yielded ops a.tmps) = true) (hk : kd k = .held) (hI : Inv sp row m C F) (ty : TypeId) (x : Operand) (ho : o.op = .load ty x)
    (b i : Nat) (hx : a.eval x = .pointer (some ⟨b, i, none⟩)) (cs : List Value) (d : TypeDesc) (hb : b < w.heap.size) (hr : row ≠ some b) (hc : w.rangeAt b i cs)
    (hu : P.underlying ty = some d) (hd : d.isRow = true) (hi : (P.info? ty).map (·.size) = some cs.length)
    (h : wpMixR P ops w row kd sp E rest (k + 1) (a.put o.dst (.agg cs.toArray)) m C F) : wpMixR P ops w row kd sp E (o :: rest) k a m C F := by
  unfold wpMixR mStepR
  rw [if_pos hw, hk]
  refine ⟨hI.low, _, fun W hW => ?_, h⟩
  have hc' : W.rangeAt b i cs := fun j v hv => (hW.cell hb hr).trans (hc j v hv)
  unfold RunsTo execOp
  simp only [ho, hx, Instr.loadAt, Instr.sureAddr, Sem.run_bind, Sem.run_pure, Result.andThen_ok, run_loadVar_mid W b i ty cs d hc' hu hd hi]
theorem mixR_make (hw : Region.wanted o (yielded ops a.tmps) = true) (hk : kd k = .make) (hI : Inv sp row m C F) (hF : F k) (hz : (sp k).rw_ = true → m = 0) (hst : ∀ j, j ≠ k → ∀ v W U, (sp k).R v W → (sp j).eff row W U → (sp k).R v U) (hM : MakesR P w row o (sp k) a)
    (h : ∀ v, (sp k).S v → Inv sp row (nextM (sp k) m) (fun W => C W ∧ (sp k).R v W) (fun j => F j ∧ j ≠ k) → wpMixR P ops w row kd sp E rest (k + 1) (a.put o.dst v) (nextM (sp k) m) (fun W => C W ∧ (sp k).R v W) (fun j => F j ∧ j ≠ k)) : wpMixR P ops w row kd sp E (o :: rest) k a m C F := by
  unfold wpMixR mStepR
  rw [if_pos hw, hk]
  exact ⟨hI, hF, hz, hst, hM, fun v hv => h v hv ⟨next_low hI.low, fun j hj W U hW hg => ⟨hI.grow j hj.1 W U hW.1 hg, hst j hj.2 v W U hW.2 hg⟩⟩⟩
theorem mixR_tail (hw : Region.wanted o (yielded ops a.tmps) = true) (hk : kd k = .tail) (T : World → World) (hT : ∀ W, baseR row w m W → C W → (execOp a.eval o).run P W = .ok .skip (T W))
    (h : wpMixR P ops w row kd sp E rest (k + 1) (a.put o.dst undef) 2 (fun W' => ∃ W, baseR row w m W ∧ C W ∧ W' = T W) (fun _ => False)) : wpMixR P ops w row kd sp E (o :: rest) k a m C F := by
  unfold wpMixR mStepR
  rw [if_pos hw, hk]
  refine ⟨fun v => v = undef, fun _ W' => ∃ W, baseR row w m W ∧ C W ∧ W' = T W, ⟨_, rfl⟩, fun W hW => ?_, fun v hv => by subst hv; exact h⟩
  unfold Oper.goes
  rw [hT W hW.1 hW.2]
  exact ⟨rfl, W, hW.1, hW.2, rfl⟩
theorem mixR_store (hw : Region.wanted o (yielded ops a.tmps) = true) (hk : kd k = .tail) (ty : TypeId) (x y : Operand) (ho : o.op = .store ty x y)
    (b i : Nat) (cs : Array Value) (hx : a.eval x = .pointer (some ⟨b, i, none⟩)) (hy : a.eval y = .agg cs) (ht : ∀ W, baseR row w m W → C W → W.there b i cs.size) (hi : (P.info? ty).map (·.size) = some cs.size) (h1 : cs.all (·.oneCell') = true)
    (h : wpMixR P ops w row kd sp E rest (k + 1) (a.put o.dst undef) 2 (fun W' => ∃ W, baseR row w m W ∧ C W ∧ W' = W.setCells b i cs.toList) (fun _ => False)) : wpMixR P ops w row kd sp E (o :: rest) k a m C F :=
  mixR_tail hw hk (fun W => W.setCells b i cs.toList) (fun W hB hC => by
    unfold execOp
    simp only [ho, hx, hy, Instr.storeAt, Instr.sureAddr, Sem.run_bind, Sem.run_pure, Result.andThen_ok, run_storeVar_mid W b i ty cs (ht W hB hC) hi h1]) h
theorem mixR_nil (h : E a m C F) : wpMixR P ops w row kd sp E [] k a m C F := h
end
end
end Go.Proofs.YtnaclkaapicelaaGreat
namespace Go.Proofs.YtnaclkaapicelaaGreat
open Go.RowKit
set_option maxRecDepth 100000
set_option linter.unusedSimpArgs false
def evI (e : Ev) : List Int := [e.frame, e.emitter, e.kind, e.ord, e.asset, e.gain, e.pan, e.prio, e.len]
def k9 : List IntKind := [.i64, .i64, .i64, .i64, .i64, .i64, .i64, .i64, .i64]
theorem ev_ivals (e : Ev) : e.cells = ivals k9 (evI e) := rfl
theorem evI_inj {a b : Ev} (h : evI a = evI b) : a = b := by
  cases a; cases b
  simp only [evI, List.cons.injEq, and_true] at h
  simp [h]
instance : DecidableEq Ev := fun a b => if h : evI a = evI b then isTrue (evI_inj h) else isFalse (fun e => h (by rw [e]))
theorem ev_kinds : kindsOf Tryz.prog 100 65 = some k9 := by kernel_rfl
theorem evI_dec (a b : Ev) : decide (evI a = evI b) = decide (a = b) := by
  by_cases h : a = b
  · subst h; simp
  · rw [decide_eq_false h, decide_eq_false (fun e => h (evI_inj e))]
theorem ev_valOf (cs : List Value) : valOf Tryz.prog 65 cs = .agg cs.toArray := by unfold valOf; rw [Tryz.underlying65]
theorem ev_neq (a b : Ev) (w : World) : (binOp .neq 65 (.agg a.cells.toArray) (.agg b.cells.toArray)).run Tryz.prog w = .ok (.bool (!decide (a = b))) w := by
  have := neq_ints ev_kinds ev_valOf (evI a) (evI b) rfl rfl (ev_ivals a) (ev_ivals b) w
  rwa [evI_dec] at this
section
variable {P : Program} {a : Act} {o : Oper}
theorem runs_neq {T T' : TypeId} {x y : Operand} {xs ys : Array Value} {v : Value} (ho : o.op = .binOp .neq T x y T') (hx : a.eval x = .agg xs) (hy : a.eval y = .agg ys) (hg : P.eqGuardType P.depth T = false) (hr : ∀ W, (binOp .neq T (.agg xs) (.agg ys)).run P W = .ok v W) (W : World) : RunsTo P o a W v := by
  unfold RunsTo execOp
  simp only [ho, hx, hy, Sem.run_bind, run_eqGuard_agg W .neq T x y xs ys hg, Result.andThen_ok, hr, Sem.run_pure]
theorem runs_eql {T T' : TypeId} {x y : Operand} {xs ys : Array Value} {v : Value} (ho : o.op = .binOp .eql T x y T') (hx : a.eval x = .agg xs) (hy : a.eval y = .agg ys) (hg : P.eqGuardType P.depth T = false) (hr : ∀ W, (binOp .eql T (.agg xs) (.agg ys)).run P W = .ok v W) (W : World) : RunsTo P o a W v := by
  unfold RunsTo execOp
  simp only [ho, hx, hy, Sem.run_bind, run_eqGuard_agg W .eql T x y xs ys hg, Result.andThen_ok, hr, Sem.run_pure]
theorem mix_run {ops : Array Oper} {w : World} {kd : Nat → Kd} {sp : Nat → Told} {E : Act → (World → Prop) → Prop} {rest : List Oper} {k : Nat} {D : World → Prop} (v : Value) (hw : Region.wanted o (yielded ops a.tmps) = true) (hk : kd k = .pure) (hr : ∀ W, RunsTo P o a W v)
    (h : wpMix P ops w kd sp E rest (k + 1) (a.put o.dst v) D) : wpMix P ops w kd sp E (o :: rest) k a D := by
  unfold wpMix mStep
  rw [if_pos hw, hk]
  exact ⟨v, hr, h⟩
/-- A value known, at the list of a plain region's operations; guarded or not. -/
theorem wpList_runs {ops : Array Oper} {rest : List Oper} {w : World} {Q : Exit → Act → World → Prop} (v : Value) (hw : Region.wanted o (yielded ops a.tmps) = true) (hr : RunsTo P o a w v) (h : wpList P ops Q rest (a.put o.dst v) w) : wpList P ops Q (o :: rest) a w :=
  wpList_step fun K hK => by
    simp only [hw, if_true]
    unfold Oper.wp
    unfold RunsTo at hr
    rw [hr]
    exact hK _ _ h
end
theorem Rd.evr {w : World} {B : Nat} {A : Option Addr} {l : List Ev} (h : Rd w B A (l.flatMap Ev.cells)) {k : Nat} (hk : k < l.length) :
    ∃ b off, A = some ⟨b, off, none⟩ ∧ b < B ∧ w.rangeAt b (off + k * 9) l[k].cells := by
  obtain ⟨b, off, hA, hb, hat⟩ := h.at_ Ev.cells_length (by omega) hk
  exact ⟨b, off, hA, hb, hat⟩
set_option maxHeartbeats 4000000 in
theorem same_any (A B : Option Addr) (c d : Nat) (L M : List Ev) (w : World) (hL : L.length ≤ 1000000000) (hl : Rd w w.heap.size A (L.flatMap Ev.cells)) (hm : Rd w w.heap.size B (M.flatMap Ev.cells)) :
    Calls Tryz.prog 14 #[.slice A L.length c, .slice B M.length d] w fun e w' => e = .returned (.bool (decide (L = M))) ∧ Below w.heap.size w w' := by
  obtain ⟨n, hn⟩ : ∃ n, L.length = n := ⟨_, rfl⟩
  obtain ⟨m, hm'⟩ : ∃ m, M.length = m := ⟨_, rfl⟩
  by_cases hne : n = m
  · subst hne
    rw [hn] at hL ⊢
    rw [hm']
    have HL := Lib.hid hl
    have HM := Lib.hid hm
    have HN := Lib.hid hn
    have HN' := Lib.hid hm'
    clear hl hm hn hm'
    have hnn : (n != n) = false := by simp
    go_enter Tryz.func14, Tryz.ntmps14
    go_wp2_with fail
    go_loopw [5] (fun v wr => ∃ k : Nat, k ≤ n ∧ v = .int .i64 k ∧ Hid (L.take k = M.take k) ∧ Hid (Grown w wr)) (fun v _ => n - (intOf v).toNat)
    case atStart => exact ⟨0, Nat.zero_le _, rfl, Lib.hid (by simp), Lib.hid (Grown.refl _)⟩
    case round =>
      obtain ⟨k, hk, rfl, HT, HG⟩ := hrel
      by_cases hlt : k < n
      · have hkL : k < L.length := by rw [HN.out]; exact hlt
        have hkM : k < M.length := by rw [HN'.out]; exact hlt
        obtain ⟨b, off, rfl, hb, r1⟩ := (HL.out.below HG.out (Nat.le_refl _)).evr hkL
        obtain ⟨b2, off2, rfl, hb2, r2⟩ := (HM.out.below HG.out (Nat.le_refl _)).evr hkM
        have hb := Nat.lt_of_lt_of_le hb (Below.size HG.out)
        have hb2 := Nat.lt_of_lt_of_le hb2 (Below.size HG.out)
        obtain ⟨x, hx⟩ : ∃ x, L[k] = x := ⟨_, rfl⟩
        obtain ⟨y, hy⟩ : ∃ y, M[k] = y := ⟨_, rfl⟩
        rw [hx] at r1
        rw [hy] at r2
        have HX := Lib.hid hx
        have HY := Lib.hid hy
        have HR1 := Lib.hid r1
        have HR2 := Lib.hid r2
        have hKp := Keeps.base wr
        clear hx hy r1 r2
        go_upto_region 6 with fail
        refine wp_region_mixed [.pure, .pure, .pure, .held, .pure, .pure, .pure, .held, .pure] (fun _ => ⟨fun _ => True, fun _ _ => True⟩) (by kernel_rfl) (by kernel_rfl) ?_
        repeat (refine mix_pure rfl rfl rfl (fun K hK => ?_); go_big_quiet_op; refine hK _ ?_; clear hK K)
        refine mix_load rfl rfl (by assumption) 65 (.tmp 19) rfl b (off + k * 9) rfl x.cells _ hb HR1.out Tryz.underlying65 rfl (by kernel_rfl) ?_
        simp only [Act.put, List.setIfInBounds_toArray, List.set_cons_zero, List.set_cons_succ]
        repeat (refine mix_pure rfl rfl rfl (fun K hK => ?_); go_big_quiet_op; refine hK _ ?_; clear hK K)
        refine mix_load rfl rfl (by assumption) 65 (.tmp 23) rfl b2 (off2 + k * 9) rfl y.cells _ hb2 HR2.out Tryz.underlying65 rfl (by kernel_rfl) ?_
        simp only [Act.put, List.setIfInBounds_toArray, List.set_cons_zero, List.set_cons_succ]
        refine mix_run (.bool (!decide (x = y))) rfl rfl (runs_neq rfl rfl rfl (by kernel_rfl) (ev_neq x y)) ?_
        simp only [Act.put, List.setIfInBounds_toArray, List.set_cons_zero, List.set_cons_succ]
        refine mix_nil ?_
        intro W hW
        have HGW := Lib.hid (HG.out.trans hW)
        by_cases hxy : x = y
        · have hdec : (decide (x = y)) = true := decide_eq_true hxy
          rw [hdec]
          have HNX : Hid (L.take (k + 1) = M.take (k + 1)) := Lib.hid (by rw [List.take_succ_eq_append_getElem hkL, List.take_succ_eq_append_getElem hkM, HT.out, HX.out, HY.out, hxy])
          clear hxy hdec hKp hW
          go_wp2
          go_roundw
          case rel => exact ⟨k + 1, by omega, by go_num, HNX, HGW⟩
          case measure => simp [intOf]; omega
        · have hdec : (decide (x = y)) = false := decide_eq_false hxy
          rw [hdec]
          have HE : Hid (decide (L = M) = false) := Lib.hid (decide_eq_false fun e => hxy (by rw [← HX.out, ← HY.out]; simp only [e]))
          clear hxy hdec hKp hW
          go_wp2
          go_ret
          exact ⟨ret_bool HE.out.symm, HGW.out⟩
      · obtain rfl : k = n := by omega
        have HE : Hid (decide (L = M) = true) := Lib.hid (decide_eq_true (by have := HT.out; rwa [List.take_of_length_le (by rw [HN.out]; exact Nat.le_refl _), List.take_of_length_le (by rw [HN'.out]; exact Nat.le_refl _)] at this))
        go_wp2
        go_ret
        exact ⟨ret_bool HE.out.symm, HG.out⟩
  · have HE : Hid (decide (L = M) = false) := Lib.hid (decide_eq_false fun e => hne (by rw [← hn, ← hm', e]))
    rw [hn] at hL ⊢
    rw [hm']
    have hnn : (n != m) = true := by simpa using hne
    have hni : ((n : Int) != (m : Int)) = true := by simp; omega
    clear hl hm hn hm'
    go_enter Tryz.func14, Tryz.ntmps14
    go_wp2
    go_ret
    exact ⟨ret_bool HE.out.symm, Below.refl _ _⟩
end Go.Proofs.YtnaclkaapicelaaGreat
namespace Go.Proofs.YtnaclkaapicelaaGreat
open Go.RowKit
set_option maxRecDepth 100000
set_option linter.unusedSimpArgs false
def runR (T : Nat → Int) (L : List Ev) : List (Nat × Nat) → (Nat → Int) × List Ev × Int
  | [] => (T, L, 0)
  | q :: r => if stepE T q.1 q.2 = 0 then runR (stepS q.1 q.2 T).1 (L ++ (stepS q.1 q.2 T).2) r else (zeroT, [], stepE T q.1 q.2)
theorem Rd.pbs {w : World} {B : Nat} {A : Option Addr} {l : List (Nat × Nat)} (h : Rd w B A (l.flatMap pbCells)) {k : Nat} (hk : k < l.length) :
    ∃ b off, A = some ⟨b, off, none⟩ ∧ b < B ∧ w.cell? ⟨b, off + k * 2, none⟩ = some (.int .u8 l[k].1) ∧ w.cell? ⟨b, off + k * 2 + 1, none⟩ = some (.int .u8 l[k].2) := by
  obtain ⟨b, off, hA, hb, hat⟩ := h.at_ pbCells_length (by omega) hk
  exact ⟨b, off, hA, hb, hat 0 _ rfl, hat 1 _ rfl⟩
/-- An append of events to a row of the call's own, told ahead. -/
def appTold (base n : Nat) (L : List Ev) : ToldR := ⟨fun v => ∃ A c, v = .slice A n c, fun v W => OwnL W base 65 9 v Ev.cells L, true⟩
def noTold : ToldR := ⟨fun _ => True, fun _ _ => True, false⟩
theorem own_plain {W U : World} {base : Nat} {v : Value} {L : List Ev} (h : OwnL W base 65 9 v Ev.cells L) (k : W.grownBy U none) : OwnL U base 65 9 v Ev.cells L :=
  h.kept k (by cases v.ownBlock <;> simp)
theorem app_makes {w : World} {a : Act} {o : Oper} {row : Option Nat} {s x : Operand} (ho : o.op = .call { callee := .builtin .append, args := #[s, x], argTypes := #[36, 36] }) {u : Value} (hrow : row = u.ownBlock) {base : Nat} {L M : List Ev} (hu : OwnL w base 65 9 u Ev.cells L)
    {A : Option Addr} {c : Nat} (hM : Rd w w.heap.size A (M.flatMap Ev.cells)) (hs : a.eval s = u) (hx : a.eval x = .slice A M.length c) (hb : base ≤ w.heap.size) (hn : L.length + M.length ≤ 1000000000) : MakesR Tryz.prog w row o (appTold base (L ++ M).length (L ++ M)) a := fun W hW => by
  have hW : Come none w W := hW
  have hbw : Below w.heap.size w W := ⟨hW.os, hW.tape, hW.output, hW.size, fun k hk => hW.block k hk (by simp)⟩
  obtain ⟨i0, hi0, hz0, hz1, hz2⟩ := info_parts Tryz.infoEv
  have hl := hu.below hbw
  obtain ⟨v', w', hrun, h2, h3, -⟩ := append_rd_run (P := Tryz.prog) W base 36 o.type 65 i0 _ 9 72 Tryz.underlying36 hi0 hz0 hz1 hz2 rfl (by decide) u L.length (L.flatMap Ev.cells) hl W.heap.size A M.length c (M.flatMap Ev.cells) (length_flatMap_const _ 9 Ev.cells_length M) (hM.below hbw (Nat.le_refl _) |>.more hW.size) (fun e => by subst e; exact rd_none Ev.cells_length (by decide) hM rfl) (ev_oneCells M) (by simp [maxLen]; omega) (by omega) (Nat.le_trans hb hW.size)
  have hr : (execOp a.eval o).run Tryz.prog W = .ok (.value v') w' := by
    unfold execOp
    simp only [ho, resolve, invoke, builtin, Sem.run_bind, Sem.run_pure, Result.andThen_ok, List.map_toArray, List.map_cons, List.map_nil, hs, hx, hrun]
  have hO : OwnL w' base 65 9 v' Ev.cells (L ++ M) := OwnL.app rfl h2
  unfold Oper.goes
  rw [hr]
  refine ⟨⟨?_, hO⟩, ?_⟩
  · obtain ⟨A', c', e⟩ := hO.shape
    exact ⟨A', c', e⟩
  · show W.grownBy w' row
    rw [hrow]; exact h3
/-- A state from which so many steps may be taken; or none. -/
def Goes (S : Nat → Int) (n : Nat) : Prop := (StOk S ∧ S 0 + n < 1073741824 ∧ S 2 + n < 1073741824) ∨ rightS S = false
theorem stepE_not {S : Nat → Int} {n0 n1 : Nat} (h : rightS S = false) : stepE S n0 n1 = 1 := by
  unfold stepE
  rw [if_pos (.inl h)]
theorem stepE_lt {S : Nat → Int} {n0 n1 : Nat} (h : stepE S n0 n1 = 0) : n0 < 64 ∧ n1 < 64 := by
  by_cases hn : n0 < 64 ∧ n1 < 64
  · exact hn
  · unfold stepE at h
    rw [if_pos (by right; omega)] at h
    cases h
theorem stepE_zero {S : Nat → Int} {n0 n1 : Nat} (h : StOk S) (hF : S 0 < 1073741824) (h0 : n0 < 64) (h1 : n1 < 64) : stepE S n0 n1 = 0 := by
  unfold stepE
  rw [if_neg, if_neg (by omega)]
  rw [h.right]
  simp; omega
theorem stepE_bad {S : Nat → Int} {n0 n1 : Nat} (hn : ¬ (n0 < 64 ∧ n1 < 64)) : stepE S n0 n1 = 1 := by
  unfold stepE
  rw [if_pos]
  right; omega
set_option maxHeartbeats 8000000 in
theorem run_any (S : Nat → Int) (A : Option Addr) (c : Nat) (l : List (Nat × Nat)) (w : World) (hok : Goes S l.length) (hl : l.length ≤ 100000) (hr : Rd w w.heap.size A (l.flatMap pbCells)) (hb : ∀ q ∈ l, q.1 < 256 ∧ q.2 < 256) :
    Calls Tryz.prog 16 #[.agg (stCells S).toArray, .slice A l.length c] w fun e w' => ∃ A' c', e = .returned (.tuple #[.agg (stCells (runR S [] l).1).toArray, .slice A' (runR S [] l).2.1.length c', .int .i64 (runR S [] l).2.2]) ∧ OwnL w' w.heap.size 65 9 (.slice A' (runR S [] l).2.1.length c') Ev.cells (runR S [] l).2.1 ∧ Below w.heap.size w w' := by
  obtain ⟨n, hn⟩ : ∃ n, l.length = n := ⟨_, rfl⟩
  obtain ⟨TE, LE, eE, hE⟩ : ∃ T L e, runR S [] l = (T, L, e) := ⟨_, _, _, rfl⟩
  rw [hn] at hl hok ⊢
  rw [hE]
  have HE := Lib.hid hE
  have HN := Lib.hid hn
  have HOK := Lib.hid hok
  have HRD := Lib.hid hr
  have HB := Lib.hid hb
  clear hE hn hok hr hb
  go_enter Tryz.func16, Tryz.ntmps16
  go_upto_region 1 with fail
  refine named2 (F := fun W => Code.wp _ _ _ _ W) ?_
  intro w1 k0 k1 hb1 hz1
  have HK0 := Lib.hid k0
  have HK1 := Lib.hid k1
  have HB1 := Lib.hid hb1
  clear k0 k1 hb1 hz1
  go_wp2_with fail
  go_loopw [7, 15] (fun u v wr => ∃ (k : Nat) (T : Nat → Int) (L : List Ev), k ≤ n ∧ v = .int .i64 k ∧ Hid (runR T L (l.drop k) = (TE, LE, eE)) ∧ Hid (Goes T (n - k)) ∧ Hid (L.length ≤ 22 * k) ∧ Hid (OwnL wr (w.heap.size + 1 + 1) 65 9 u Ev.cells L) ∧ Hid (Blk wr w.heap.size 33 (stCells T).toArray) ∧ Hid (∃ Z : Array Value, Z.size = 60 ∧ Blk wr (w.heap.size + 1) 33 Z) ∧ Hid (Below w.heap.size w wr)) (fun _ v _ => n - (intOf v).toNat)
  case atStart => exact ⟨0, S, [], Nat.zero_le _, rfl, by rw [List.drop_zero]; exact HE, HOK, Lib.hid (by simp), Lib.hid OwnL.nil, HK0, Lib.hid ⟨_, rfl, HK1.out⟩, HB1⟩
  case round =>
    obtain ⟨k, T, L, hk, rfl, HRU, HGO, HLL, HOW, HB0, HB2, HBW⟩ := hrel
    clear HK0 HK1 HB1
    have hs0 := HB0.out.lt
    by_cases hlt : k < n
    · have hil : k < l.length := by rw [HN.out]; exact hlt
      obtain ⟨b, off, hA, hbl, p0, p1⟩ := (HRD.out.below HBW.out (Nat.le_refl _)).pbs hil
      obtain ⟨hx1, hy1⟩ := HB.out l[k] (List.getElem_mem hil)
      have hru := HRU.out
      rw [List.drop_eq_getElem_cons hil] at hru
      obtain ⟨x, hx⟩ : ∃ x, l[k].1 = x := ⟨_, rfl⟩
      obtain ⟨y, hy⟩ : ∃ y, l[k].2 = y := ⟨_, rfl⟩
      unfold runR at hru
      rw [hx, hy] at hru
      rw [hx] at p0 hx1
      rw [hy] at p1 hy1
      subst hA
      have HRX := Lib.hid hru
      have hlb := Nat.lt_trans hbl hs0
      clear hru hx hy hil HRU
      go_upto_region 5 with fail
      refine named1 (F := fun W => Code.wp _ _ _ _ W) ?_
      intro w2 hk2 hb2 hz2
      have q0 := hk2.cell 0
      have q1 := hk2.cell 1
      simp only [List.getElem?_toArray, List.getElem?_cons_zero, List.getElem?_cons_succ] at q0 q1
      have hql := hk2.lt
      have HB02 := Lib.hid (HB0.out.on hb2)
      obtain ⟨Z, hZ, hBZ⟩ := HB2.out
      have HZ2 := Lib.hid (hBZ.on hb2)
      have HZS := Lib.hid hZ
      have HOW2 := Lib.hid (HOW.out.below hb2)
      have HBW2 := Lib.hid (HBW.out.trans (hb2.mono (Nat.le_of_lt hs0)))
      have hle : w.heap.size + 1 + 1 ≤ w2.heap.size := HZ2.out.lt
      clear hk2 hb2 hz2 hBZ hZ p0 p1 hlb HB0 HB2 HOW HBW hbl
      by_cases hq : stepE T x y = 0
      · obtain ⟨hx64, hy64⟩ := stepE_lt hq
        obtain ⟨hT, hT0, hT2⟩ : StOk T ∧ T 0 + (n - k : Nat) < 1073741824 ∧ T 2 + (n - k : Nat) < 1073741824 := by
          rcases HGO.out with h | h
          · exact h
          · rw [stepE_not h] at hq; cases hq
        have HT := Lib.hid hT
        have HF' := Lib.hid hT0
        have HR' := Lib.hid hT2
        obtain ⟨T', L', hTL⟩ : ∃ T' L', stepS x y T = (T', L') := ⟨_, _, rfl⟩
        have hlk : (1 : Int) ≤ ((n - k : Nat) : Int) := by omega
        have hF : T 0 < 1073741824 := by have := HF'.out; omega
        have hR : T 2 < 1073741824 := by have := HR'.out; omega
        obtain ⟨k1, k2, k3, k4, k5⟩ := stepS_ok x y HT.out hF hR
        have hst := fun W => gStep_yes (w := W) HT.out hF hx64 hy64
        simp only [hTL] at hst
        rw [hTL] at k1 k2 k3 k5
        have HST := Lib.hid hst
        have hrn := HRX.out
        rw [if_pos hq, hTL] at hrn
        have HRN : Hid (runR T' (L ++ L') (l.drop (k + 1)) = (TE, LE, eE)) := Lib.hid hrn
        have HT' := Lib.hid k1
        have hl22 : L'.length ≤ 22 := k2
        have HL22 := Lib.hid hl22
        have HF0' := Lib.hid (show T' 0 = T 0 + 1 from k3)
        have HR0' := Lib.hid (show T' 2 ≤ T 2 + 1 from k5)
        obtain ⟨CT, hct⟩ : ∃ CT : Array Value, (stCells T').toArray = CT := ⟨_, rfl⟩
        rw [hct] at HST
        have hsz : CT.size = 60 := by rw [← hct, List.size_toArray, stCells_length]
        have H1C : Hid (CT.all (·.oneCell') = true) := Lib.hid (by rw [← hct]; exact all_oneCell_toArray (int_one _))
        have HSZ : Hid ((Tryz.prog.info? 33).map (·.size) = some CT.size) := Lib.hid (by rw [hsz]; kernel_rfl)
        have HSI := Lib.hid hsz
        have HCT := Lib.hid hct
        clear k1 k2 k3 k4 k5 hst hrn hTL hF hR hl22 hct hsz HRX hlk hx64 hy64 hq hT hT0 hT2 HGO
        go_upto_region 6 with (first
          | (refine wpList_load_mid rfl 33 (.tmp 2) rfl w.heap.size 0 rfl (stCells T) _ (Blk.range HB02.out) Tryz.underlying33 rfl (by kernel_rfl) ?_)
          | (go_at_call 8; refine (HST.out _).mono ?_; rintro e w3 ⟨A', c', rfl, ho, hb3⟩; have HO3 := Lib.hid ho; have HB3 := Lib.hid hb3; clear ho hb3)
          | (refine wpList_store_mid rfl 33 (.tmp 10) (.tmp 23) rfl w3.heap.size 0 CT rfl rfl (there_new _ _ _ (by rw [HSI.out]; rfl)) HSZ.out H1C.out ?_))
        refine named_put (F := fun W => Code.wp _ _ _ _ W) (by rw [Array.length_toList, HSI.out]; rfl) ?_
        intro w4 hk4 hb4 hz4
        rw [Array.toArray_toList, ← HCT.out] at hk4
        have hb24 := bTrans HB3.out hb4
        have HK4 := Lib.hid hk4
        have HB04 := Lib.hid (HB02.out.on hb24)
        have HZ4 := Lib.hid (HZ2.out.on hb24)
        have HOW4 := Lib.hid (HOW2.out.below hb24)
        have HO4 := Lib.hid (HO3.out.below hb4)
        have HBW4 := Lib.hid (HBW2.out.trans (hb24.mono (by omega)))
        have hl4 := hk4.lt
        have hs4 := HB04.out.lt
        clear hk4 hb4 hz4 hb24 HB02 HZ2 HOW2 HO3 HB3 HBW2 q0 q1
        go_upto_region 8 with fail
        obtain ⟨row, hrow⟩ : ∃ row, u7.ownBlock = row := ⟨_, rfl⟩
        have hne : row ≠ some w3.heap.size := by rw [← hrow]; exact Blk.apart HK4.out HOW4.out (by decide)
        have hne0 : row ≠ some w.heap.size := by rw [← hrow]; exact Blk.apart HB04.out HOW4.out (by decide)
        have hne1 : row ≠ some (w.heap.size + 1) := by rw [← hrow]; exact Blk.apart HZ4.out HOW4.out (by decide)
        have hrb : ∀ g, row = some g → w.heap.size + 1 + 1 ≤ g := by rw [← hrow]; exact HOW4.out.base_le
        have hle4 : w.heap.size + 1 + 1 ≤ w4.heap.size := HZ4.out.lt
        refine wp_region_mixedR row [.held, .pure, .pure, .make, .tail, .pure] (fun | 3 => appTold (w.heap.size + 1 + 1) (L ++ L').length (L ++ L') | _ => noTold) (by kernel_rfl) (by kernel_rfl) (fun hI => ?_)
        refine mixR_load rfl rfl (by assumption) 33 (.tmp 10) rfl w3.heap.size 0 rfl (stCells T') _ hl4 hne (Blk.range HK4.out) Tryz.underlying33 rfl (by kernel_rfl) ?_
        simp only [Act.put, List.setIfInBounds_toArray, List.set_cons_zero, List.set_cons_succ]
        repeat (first | (refine mixR_pure rfl rfl rfl (fun K hK => ?_); go_big_quiet_op; refine hK _ ?_; clear hK K) | (refine mixR_held rfl rfl rfl (by assumption) (fun K hK => ?_); go_big_quiet_op; refine hK _ ?_; clear hK K))
        refine mixR_make rfl rfl (by assumption) trivial (fun _ => rfl) ?_ (app_makes rfl hrow.symm HOW4.out HO4.out.rd rfl rfl hle4 (by have h1 := HLL.out; have h2 := HL22.out; omega)) ?_
        · intro j hj v W U hR hE
          have hf : ((fun | 3 => appTold (w.heap.size + 1 + 1) (L ++ L').length (L ++ L') | _ => noTold : Nat → ToldR) j).rw_ = false := by
            match j with
            | 0 => rfl
            | 1 => rfl
            | 2 => rfl
            | 3 => exact absurd rfl hj
            | _ + 4 => rfl
          unfold ToldR.eff at hE
          rw [hf] at hE
          exact own_plain hR hE
        rintro v ⟨A8, c8, rfl⟩ hI2
        simp only [Act.put, List.setIfInBounds_toArray, List.set_cons_zero, List.set_cons_succ]
        refine mixR_store rfl rfl 33 (.tmp 2) (.tmp 30) rfl w.heap.size 0 (stCells T').toArray rfl rfl (fun W hB hC => ?_) (by kernel_rfl) (all_oneCell_toArray (int_one T')) ?_
        · have hW : Come row w4 W := hB
          have hk : Blk W w.heap.size 33 (stCells T).toArray := HB04.out.grown hW hne0
          exact Blk.there hk (by rw [List.size_toArray, List.size_toArray, stCells_length, stCells_length]; decide)
        simp only [Act.put, List.setIfInBounds_toArray, List.set_cons_zero, List.set_cons_succ]
        repeat (first | (refine mixR_pure rfl rfl rfl (fun K hK => ?_); go_big_quiet_op; refine hK _ ?_; clear hK K) | (refine mixR_held rfl rfl rfl (by assumption) (fun K hK => ?_); go_big_quiet_op; refine hK _ ?_; clear hK K))
        refine mixR_nil ?_
        rintro W8 - ⟨W, hB, ⟨-, hO⟩, rfl⟩
        have hW : Come row w4 W := hB
        have hO : OwnL W (w.heap.size + 1 + 1) 65 9 (.slice A8 (L ++ L').length c8) Ev.cells (L ++ L') := hO
        have hk0 : Blk W w.heap.size 33 (stCells T).toArray := HB04.out.grown hW hne0
        have hk1 := HZ4.out.grown hW hne1
        have hs0' := hk0.whole (stCells T').toArray.toList (by rw [List.size_toArray, stCells_length]; exact stCells_length T')
        have hz' := hk1.farC (show w.heap.size + 1 ≠ w.heap.size by omega) 0 (stCells T').toArray.toList
        have hO' := OwnL.kept (row := some w.heap.size) hO (oSetCells (World.grownBy.refl W _) 0 (stCells T').toArray.toList) (.inr (Blk.apart hk0 hO (by decide)))
        have hb' := bSetCells (HBW4.out.grown hW (by omega) (fun g hg => by have := hrb g hg; omega)) (Nat.le_refl w.heap.size) 0 (stCells T').toArray.toList
        obtain ⟨w8, hw8⟩ : ∃ w8, W.setCells w.heap.size 0 (stCells T').toArray.toList = w8 := ⟨_, rfl⟩
        rw [hw8] at hs0' hz' hO' hb' ⊢
        rw [Array.toArray_toList] at hs0'
        have HS8 := Lib.hid hs0'
        have HZ8 := Lib.hid hz'
        have HO8 := Lib.hid hO'
        have HB8 := Lib.hid hb'
        clear hs0' hz' hO' hb' hk0 hk1 hO hW hB hw8 hI hI2
        go_wp2
        go_roundw
        case rel => exact ⟨k + 1, T', L ++ L', by omega, by go_num, HRN, Lib.hid (.inl ⟨HT'.out, by have h1 := HF0'.out; have h2 := HF'.out; omega, by have h1 := HR0'.out; have h2 := HR'.out; omega⟩), Lib.hid (by have h1 := HLL.out; have h2 := HL22.out; rw [List.length_append]; omega), HO8, HS8, Lib.hid ⟨Z, HZS.out, HZ8.out⟩, HB8⟩
        case measure => simp [intOf]; omega
      · obtain ⟨eV, heV⟩ : ∃ eV, stepE T x y = eV := ⟨_, rfl⟩
        have hst := fun W => gStep_no (w := W) (S := T) (n0 := x) (n1 := y) hq
        rw [heV] at hst
        have hrn := HRX.out
        rw [if_neg hq, heV] at hrn
        have hbn : (eV != 0) = true := by rw [← heV]; simpa using hq
        clear HGO
        simp only [Prod.mk.injEq] at hrn
        obtain ⟨hr1, hr2, hr3⟩ := hrn
        obtain ⟨CZ, hcz⟩ : ∃ CZ : Array Value, (stCells zeroT).toArray = CZ := ⟨_, rfl⟩
        rw [hcz] at hst
        have HST := Lib.hid hst
        have hbz := built_zero
        rw [hcz] at hbz
        have HBT := Lib.hid hbz
        have hsz : CZ.size = 60 := by rw [← hcz, List.size_toArray, stCells_length]
        have H1C : Hid (CZ.all (·.oneCell') = true) := Lib.hid (by rw [← hcz]; exact all_oneCell_toArray (int_one _))
        have HSZ : Hid ((Tryz.prog.info? 33).map (·.size) = some CZ.size) := Lib.hid (by rw [hsz]; kernel_rfl)
        have HSI := Lib.hid hsz
        have HCZ := Lib.hid hcz
        have HR1 := Lib.hid hr1
        have HR2 := Lib.hid hr2
        have HR3 := Lib.hid hr3
        clear hst hbz hsz hcz hr1 hr2 hr3 heV hq HRX
        go_upto_region 6 with (first
          | (refine wpList_load_mid rfl 33 (.tmp 2) rfl w.heap.size 0 rfl (stCells T) _ (Blk.range HB02.out) Tryz.underlying33 rfl (by kernel_rfl) ?_)
          | (go_at_call 8; refine (HST.out _).mono ?_; rintro e w3 ⟨rfl, hb3⟩; have HB3 := Lib.hid hb3; clear hb3)
          | (refine wpList_store_mid rfl 33 (.tmp 10) (.tmp 23) rfl w3.heap.size 0 CZ rfl rfl (there_new _ _ _ (by rw [HSI.out]; rfl)) HSZ.out H1C.out ?_))
        refine named_put (F := fun W => Code.wp _ _ _ _ W) (by rw [Array.length_toList, HSI.out]; rfl) ?_
        intro w4 hk4 hb4 hz4
        have hb24 := bTrans HB3.out hb4
        have HZ4 := Lib.hid (HZ2.out.on hb24)
        have HBW4 := Lib.hid (HBW2.out.trans (hb24.mono (by omega)))
        have HTH : Hid (w4.there (w.heap.size + 1) 0 CZ.size) := Lib.hid (by rw [HSI.out]; exact Blk.there HZ4.out (by rw [HZS.out]; decide))
        have hcl : CZ.toList.length = CZ.size := by simp
        have hrg := World.rangeAt_setCells_same w4 (w.heap.size + 1) 0 CZ.toList (by rw [hcl]; exact HTH.out)
        have HRES := Lib.hid (run_loadVar_mid (P := Tryz.prog) _ _ _ 33 CZ.toList _ hrg Tryz.underlying33 rfl (by rw [hcl]; exact HSZ.out))
        have HBX := Lib.hid (bSetCells HBW4.out (show w.heap.size ≤ w.heap.size + 1 by omega) 0 CZ.toList)
        obtain ⟨wx, hwx⟩ : ∃ wx, w4.setCells (w.heap.size + 1) 0 CZ.toList = wx := ⟨_, rfl⟩
        rw [hwx] at HRES HBX
        have HWX := Lib.hid hwx
        clear hk4 hb4 hz4 hb24 HB02 HZ2 HOW2 HB3 HBW2 q0 q1 hrg hwx hcl
        go_wp2_with (first
          | (refine wpList_built rfl 33 [] rfl CZ [] rfl HBT.out ?_)
          | (refine wpList_store_mid rfl 33 (.tmp 4) (.tmp 28) rfl (w.heap.size + 1) 0 CZ rfl rfl HTH.out HSZ.out H1C.out ?_; rw [HWX.out]))
        have hres := HRES.out
        refine bodyPost_ret (results_c2 (a := 4) (t := 33) (x := 5) (y := 6) rfl rfl hres) rfl ⟨none, 0, ?_, ?_, HBX.out⟩
        · rw [← HR1.out, ← HR2.out, ← HR3.out, HCZ.out]; rfl
        · rw [← HR2.out]; exact OwnL.nil
    · obtain rfl : k = n := by omega
      have hru := HRU.out
      rw [List.drop_of_length_le (by rw [HN.out]; exact Nat.le_refl _)] at hru
      simp only [runR, Prod.mk.injEq] at hru
      obtain ⟨h1, h2, h3⟩ := hru
      obtain ⟨A7, c7, rfl⟩ := HOW.out.shape
      have H1 := Lib.hid h1
      have H2 := Lib.hid h2
      have H3 := Lib.hid h3
      obtain ⟨Z, hZ, hBZ⟩ := HB2.out
      have HTH : Hid (wr.there (w.heap.size + 1) 0 (stCells T).toArray.size) := Lib.hid (by rw [show (stCells T).toArray.size = 60 from by rw [List.size_toArray, stCells_length]]; exact Blk.there hBZ (by rw [hZ]; decide))
      have hrg := World.rangeAt_setCells_same wr (w.heap.size + 1) 0 (stCells T) (by rw [stCells_length]; have := HTH.out; rwa [show (stCells T).toArray.size = 60 from by rw [List.size_toArray, stCells_length]] at this)
      have HRES := Lib.hid (run_loadVar_mid (P := Tryz.prog) _ _ _ 33 (stCells T) _ hrg Tryz.underlying33 rfl (by kernel_rfl))
      have HBX := Lib.hid (bSetCells HBW.out (show w.heap.size ≤ w.heap.size + 1 by omega) 0 (stCells T))
      have HOX := Lib.hid (OwnL.kept (row := some (w.heap.size + 1)) HOW.out (oSetCells (World.grownBy.refl wr _) 0 (stCells T)) (.inr (Blk.apart hBZ HOW.out (by decide))))
      obtain ⟨wx, hwx⟩ : ∃ wx, wr.setCells (w.heap.size + 1) 0 (stCells T) = wx := ⟨_, rfl⟩
      rw [hwx] at HRES HBX HOX
      have HWX : Hid (wr.setCells (w.heap.size + 1) 0 (stCells T).toArray.toList = wx) := Lib.hid hwx
      have hz1 := hBZ.lt
      clear h1 h2 h3 hZ hBZ hrg hwx HRU HB2 HOW
      go_wp2_with (first
        | (refine wpList_load_mid rfl 33 (.tmp 2) rfl w.heap.size 0 rfl (stCells T) _ (Blk.range HB0.out) Tryz.underlying33 rfl (by kernel_rfl) ?_)
        | (refine wpList_store_mid rfl 33 (.tmp 4) (.tmp 35) rfl (w.heap.size + 1) 0 (stCells T).toArray rfl rfl HTH.out (by kernel_rfl) (all_oneCell_toArray (int_one T)) ?_; rw [HWX.out]))
      have hres := HRES.out
      refine bodyPost_ret (results_c2 (a := 4) (t := 33) (x := 5) (y := 6) rfl rfl hres) rfl ⟨A7, c7, ?_, ?_, HBX.out⟩
      · rw [← H1.out, ← H2.out, ← H3.out]; rfl
      · rw [← H2.out]; exact HOX.out.more (by omega)
end Go.Proofs.YtnaclkaapicelaaGreat
