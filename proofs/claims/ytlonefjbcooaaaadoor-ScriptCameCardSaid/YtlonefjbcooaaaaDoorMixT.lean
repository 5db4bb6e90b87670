/-
  Regions that draw their order, of four kinds of operations: what waits for another may do so through others between.
-/
import Derived.Test.YtlonefjbcooaaaaDoorMix
namespace Go.Proofs.YtlonefjbcooaaaaDoor
open Go.RowKit
section
variable {P : Program} {ops : Array Oper} {md : Region.Mode} {w : World} {kd : Nat → Kd} {sp : Nat → Told}
/-- One operation waits for another, directly or through others. -/
def waitsT (md : Region.Mode) (ops : Array Oper) : Nat → Nat → Nat → Bool
  | 0, j, i => Region.waitsFor md ops j i
  | n + 1, j, i => Region.waitsFor md ops j i || (List.range ops.size).any fun k => Region.waitsFor md ops j k && waitsT md ops n k i
/-- What is listed has all listed for which it waits. -/
def Closed (md : Region.Mode) (ops : Array Oper) (listed : Array Bool) : Prop := ∀ j oj, ops[j]? = some oj → listed.getD j false = true → ∀ e ∈ oj.after, Region.binds md e = true → listed.getD e.on false = true
theorem Closed.none (md : Region.Mode) (ops : Array Oper) (n : Nat) : Closed md ops (Array.replicate n false) := fun j _ _ h => by
  rw [Array.getD_eq_getD_getElem?, Array.getElem?_replicate] at h
  split at h <;> simp at h
theorem Closed.set {listed : Array Bool} (h : Closed md ops listed) {i : Nat} (hi : i ∈ Region.ready md ops listed) : Closed md ops (listed.setIfInBounds i true) := fun j oj hj hl e he hb => by
  by_cases hij : i = j
  · subst hij
    obtain ⟨-, o, ho, hall⟩ := mem_ready.1 hi
    obtain rfl : o = oj := Option.some.inj (ho.symm.trans hj)
    exact getD_set_true (hall e he hb)
  · rw [getD_set_ne false hij] at hl
    exact getD_set_true (h j oj hj hl e he hb)
theorem waitsT_done {listed : Array Bool} (h : Closed md ops listed) : ∀ (n j i : Nat), (∀ oj, ops[j]? = some oj → ∀ e ∈ oj.after, Region.binds md e = true → listed.getD e.on false = true) → waitsT md ops n j i = true → listed.getD i false = true
  | 0, j, i, hd, hw => by
    obtain ⟨oj, hoj, e, he, hb, hon⟩ := Region.waitsFor_spec hw
    rw [← hon]; exact hd oj hoj e he hb
  | n + 1, j, i, hd, hw => by
    simp only [waitsT, Bool.or_eq_true, List.any_eq_true, Bool.and_eq_true] at hw
    rcases hw with hw | ⟨k, -, hk, hw⟩
    · obtain ⟨oj, hoj, e, he, hb, hon⟩ := Region.waitsFor_spec hw
      rw [← hon]; exact hd oj hoj e he hb
    · obtain ⟨oj, hoj, e, he, hb, hon⟩ := Region.waitsFor_spec hk
      have hkl : listed.getD k false = true := by rw [← hon]; exact hd oj hoj e he hb
      exact waitsT_done h n k i (fun ok hok e he hb => h k ok hok hkl e he hb) hw
theorem waitsT_ready {listed : Array Bool} (h : Closed md ops listed) (n j i : Nat) (hj : j ∈ Region.ready md ops listed) (hw : waitsT md ops n j i = true) : listed.getD i false = true :=
  waitsT_done h n j i (fun oj hoj e he hb => by
    obtain ⟨-, o, ho, hall⟩ := mem_ready.1 hj
    obtain rfl : o = oj := Option.some.inj (ho.symm.trans hoj)
    exact hall e he hb) hw
theorem wpAnyKT_first {E : Act → (World → Prop) → Prop} {i : Nat} {oi : Oper} (hi : ops[i]? = some oi) (hsel : ∀ (j : Nat) (o : Oper) cs b, ops[j]? = some o → o.op ≠ .select cs b)
    (hsw : ∀ j, j < ops.size → j ≠ i → swapOk (kd i) (kd j) = false → waitsT md ops 2 j i = true ∨ waitsT md ops 2 i j = true) :
    ∀ (f : Nat) (listed : Array Bool) (a : Act) (D : World → Prop), Ne D → Closed md ops listed →
      (∀ j oj, ops[j]? = some oj → j ≠ i → listed.getD j true = false → (∀ e ∈ oj.after, Region.binds md e = true → e.on ≠ i) → oi.apart ops oj = true) →
      i ∈ Region.ready md ops listed → mOp P ops w kd sp i (wpAnyK P md ops w kd sp E f (listed.setIfInBounds i true)) a D → wpAnyK P md ops w kd sp E (f + 1) listed a D := by
  intro f
  induction f with
  | zero =>
    intro listed a D hne _ _ hr H
    refine ⟨fun h => (by rw [h] at hr; cases hr), fun j hj => ?_⟩
    by_cases hji : j = i
    · subst hji; exact H
    · unfold mOp at H
      rw [hi] at H
      obtain ⟨a', D', -, h0, -⟩ := mStep_some hne H
      have := ready_mono hj hji
      rw [h0] at this; cases this
  | succ f ih =>
    intro listed a D hne hcl hfree hr H
    refine ⟨fun h => (by rw [h] at hr; cases hr), fun j hj => ?_⟩
    by_cases hji : j = i
    · subst hji; exact H
    · obtain ⟨hjun, oj, hoj, hall⟩ := mem_ready.1 hj
      have hun := (mem_ready.1 hr).1
      have hnot : ∀ e ∈ oj.after, Region.binds md e = true → e.on ≠ i := fun e he hb heq => by
        have h1 := hall e he hb
        rw [heq, getD_both hun] at h1
        cases h1
      have hap := hfree j oj hoj hji hjun hnot
      have hswap : swapOk (kd i) (kd j) = true := by
        cases hs : swapOk (kd i) (kd j) with
        | true => rfl
        | false =>
          rcases hsw j (Array.getElem?_eq_some_iff.1 hoj).1 hji hs with h1 | h1
          · have h2 := waitsT_ready hcl 2 j i hj h1
            rw [getD_both hun] at h2; cases h2
          · have h2 := waitsT_ready hcl 2 i j hr h1
            rw [getD_both hjun] at h2; cases h2
      have hfree' : ∀ k ok, ops[k]? = some ok → k ≠ i → (listed.setIfInBounds j true).getD k true = false →
          (∀ e ∈ ok.after, Region.binds md e = true → e.on ≠ i) → oi.apart ops ok = true := fun k ok hk hki hun' hno => by
        refine hfree k ok hk hki ?_ hno
        by_cases hjk : j = k
        · subst hjk; exact hjun
        · rw [getD_set_ne true hjk] at hun'; exact hun'
      have hri := ready_mono hr (Ne.symm hji)
      unfold mOp at H
      rw [hi] at H
      have H2 : mStep P ops w kd sp oi i (fun a1 D1 => mStep P ops w kd sp oj j (wpAnyK P md ops w kd sp E f ((listed.setIfInBounds i true).setIfInBounds j true)) a1 D1) a D :=
        mStep_mono hne (fun a1 D1 _ hK => by
          have := hK.2 j (ready_mono hj hji)
          unfold mOp at this
          rw [hoj] at this
          exact this) H
      have H3 := mStep_swap hap (fun cs b => hsel i oi cs b hi) (fun cs b => hsel j oj cs b hoj) hswap hne H2
      unfold mOp
      rw [hoj]
      refine mStep_mono hne (fun a2 D2 hne2 h3 => ih (listed.setIfInBounds j true) a2 D2 hne2 (hcl.set hj) hfree' hri ?_) H3
      unfold mOp
      rw [hi, Array.setIfInBounds_comm _ _ hji]
      exact h3
def mixTB (md : Region.Mode) (ops : Array Oper) (kd : Nat → Kd) : Bool :=
  Region.lexB md ops && (List.range ops.size).all fun i => (List.range ops.size).all fun j => decide (j = i) || (swapOk (kd i) (kd j) || (waitsT md ops 2 j i || waitsT md ops 2 i j))
theorem wpAnyKT_lex {E : Act → (World → Prop) → Prop} (hs : Region.noSelect ops = true) (hsw : ∀ i j, i < ops.size → j < ops.size → j ≠ i → swapOk (kd i) (kd j) = false → waitsT md ops 2 j i = true ∨ waitsT md ops 2 i j = true) :
    ∀ (l : List Oper) (k : Nat) (listed : Array Bool) (a : Act) (D : World → Prop), Ne D → Closed md ops listed → (∀ j, l[j]? = ops[k + j]?) →
    Region.lexFrom md ops l.length k listed = true → wpMix P ops w kd sp E l k a D → wpAnyK P md ops w kd sp E l.length listed a D
  | [], _, _, _, _, _, _, _, hB, h => ⟨by simpa [Region.lexFrom] using hB, h⟩
  | o :: l, k, listed, a, D, hne, hcl, hl, hB, h => by
    have h0 : ops[k]? = some o := by simpa using (hl 0).symm
    simp only [List.length_cons, Region.lexFrom, Bool.and_eq_true] at hB
    obtain ⟨⟨hr, hf⟩, hB'⟩ := hB
    have hk : k < ops.size := (Array.getElem?_eq_some_iff.1 h0).1
    refine wpAnyKT_first h0 (Region.noSelect_spec hs) (fun j hjl hj hsw' => hsw k j hk hjl hj hsw') l.length listed a D hne hcl (Region.free_spec h0 hf) (by simpa using hr) ?_
    unfold mOp
    rw [h0]
    exact mStep_mono hne (fun a' D' hne' h' => wpAnyKT_lex hs hsw l (k + 1) _ a' D' hne' (hcl.set (by simpa using hr)) (fun j => by have := hl (j + 1); simpa [Nat.add_assoc, Nat.add_comm 1 j] using this) hB' h') h
/-- **The law.** -/
theorem wp_region_mixedT {id : Nat} {Q : Exit → Act → World → Prop} {a : Act} {w : World} {l : List Oper} (kds : List Kd) (sp : Nat → Told) (hm : P.follows .mixedOrders = true) (hB : mixTB .any l.toArray (fun i => kds.getD i .pure) = true)
    (h : wpMix P l.toArray w (fun i => kds.getD i .pure) sp (fun a D => ∀ W, D W → Q .normal a W) l 0 a (Grown w)) : (Code.region id l.toArray true).wp P Q a w := by
  simp only [mixTB, Bool.and_eq_true] at hB
  obtain ⟨hlex, hall⟩ := hB
  simp only [Region.lexB, Bool.and_eq_true] at hlex
  have hg0 : Grown w { w with drawn := w.drawn + 1 } := (Below.refl _ _).drew
  refine wp_region_any hm (wpAny_of_K (w := w) (kd := fun i => kds.getD i .pure) (sp := sp) _ _ _ (Grown w) _ hg0 ?_)
  have := wpAnyKT_lex (P := P) (md := .any) (w := w) (kd := fun i => kds.getD i .pure) (sp := sp) (E := fun a D => ∀ W, D W → Q .normal a W) hlex.1 (fun i j hi hjl hj hs => by
    have h1 := List.all_eq_true.1 (List.all_eq_true.1 hall i (List.mem_range.2 hi)) j (List.mem_range.2 hjl)
    simp only [Bool.or_eq_true, decide_eq_true_eq] at h1
    rcases h1 with h1 | h1 | h1 | h1
    · exact absurd h1 hj
    · rw [hs] at h1; cases h1
    · exact .inl h1
    · exact .inr h1) l 0 (Array.replicate l.toArray.size false) a (Grown w) ⟨w, Grown.refl w⟩ (Closed.none _ _ _) (by simp) (by simpa using hlex.2) h
  simpa using this
end
end Go.Proofs.YtlonefjbcooaaaaDoor
