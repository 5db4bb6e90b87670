/-
  THE PLAIN LAW: joining the events' stretches gives the runs of marked frames, with their weights.
-/
import Derived.Test.YtillajaghkefbaaDoorReelRefPlain
namespace Go.Proofs.YtillajaghkefbaaDoor

theorem runs_zero (m : Nat → Bool) (a : Nat) : ∀ n, (∀ k, a ≤ k → k < a + n → m k = false) → runsTo m (a + n) = runsTo m a
  | 0, _ => rfl
  | n + 1, h => by
    rw [← Nat.add_assoc, runsTo, if_neg (by rw [h (a + n) (by omega) (by omega)]; simp)]
    exact runs_zero m a n fun k h1 h2 => h k h1 (by omega)
theorem runs_ones (m : Nat → Bool) (a : Nat) (ha : a = 0 ∨ m (a - 1) = false) : ∀ n, (∀ k, a ≤ k → k < a + (n + 1) → m k = true) → runsTo m (a + (n + 1)) = runsTo m a ++ [⟨a, ((a + (n + 1) : Nat) : Int), 0⟩]
  | 0, h => by
    rw [Nat.zero_add, runsTo, if_pos (h a (Nat.le_refl _) (by omega)), if_pos ha]
    rfl
  | n + 1, h => by
    have ih := runs_ones m a ha n fun k h1 h2 => h k h1 (by omega)
    have hm : m (a + (n + 1)) = true := h _ (by omega) (by omega)
    have hp : m (a + (n + 1) - 1) = true := h _ (by omega) (by omega)
    have e : a + (n + 1 + 1) = a + (n + 1) + 1 := by omega
    rw [e, runsTo, if_pos hm, if_neg (by rw [hp]; simp), ih, setTo_snoc]
    rfl
def zeroed (c : Cut) : Cut := ⟨c.frm, c.to_, 0⟩
theorem runs_nil (m : Nat → Bool) (K : Nat) (h : ∀ k, k < K → m k = false) : runsTo m K = [] := by
  have := runs_zero m 0 K fun k _ hk => h k (by omega)
  simpa [runsTo] using this
def Covers (L : List Cut) (k : Nat) : Prop := ∃ c ∈ L, c.frm ≤ (k : Int) ∧ (k : Int) < c.to_
theorem runs_of_cuts (m : Nat → Bool) : ∀ (R : List Cut) (L : List Cut), L = R.reverse → L.Pairwise (fun c d => c.to_ < d.frm) → (∀ c ∈ L, 0 ≤ c.frm ∧ c.frm < c.to_) → ∀ K : Nat, (∀ c ∈ L, c.to_ ≤ (K : Int)) → (∀ k, k < K → (m k = true ↔ Covers L k)) → runsTo m K = L.map zeroed
  | [], L, e, _, _, K, _, hm => by
    subst e
    refine runs_nil m K fun k hk => ?_
    have h := hm k hk
    cases hk' : m k with
    | false => rfl
    | true => obtain ⟨c, hc, _⟩ := h.1 hk'; simp at hc
  | c :: R, L, e, hp, hb, K, hK, hm => by
    rw [List.reverse_cons] at e
    subst e
    rw [List.pairwise_append] at hp
    obtain ⟨hp1, -, hp2⟩ := hp
    obtain ⟨c0, c1⟩ := hb c (by simp)
    have cK := hK c (by simp)
    obtain ⟨a, ha⟩ := Int.eq_ofNat_of_zero_le c0
    obtain ⟨n, hn⟩ : ∃ n : Nat, c.to_ = ((a + (n + 1) : Nat) : Int) := ⟨(c.to_ - a - 1).toNat, by omega⟩
    obtain ⟨s, hs⟩ : ∃ s : Nat, K = a + (n + 1) + s := ⟨K - (a + (n + 1)), by omega⟩
    have hlt : ∀ d ∈ R.reverse, d.to_ < (a : Int) := fun d hd => by have := hp2 d hd c (by simp); omega
    have ih := runs_of_cuts m R R.reverse rfl hp1 (fun d hd => hb d (by simp at hd ⊢; exact .inl hd)) a (fun d hd => by have := hlt d hd; omega) (fun k hk => by
      rw [hm k (by omega)]
      constructor
      · rintro ⟨d, hd, h1, h2⟩
        rcases List.mem_append.1 hd with hd | hd
        · exact ⟨d, hd, h1, h2⟩
        · simp only [List.mem_singleton] at hd
          subst hd
          omega
      · rintro ⟨d, hd, h1, h2⟩
        exact ⟨d, by simp at hd ⊢; exact .inl hd, h1, h2⟩)
    have hbeg : a = 0 ∨ m (a - 1) = false := by
      rcases Nat.eq_zero_or_pos a with h0 | h0
      · exact .inl h0
      · right
        cases hk' : m (a - 1) with
        | false => rfl
        | true =>
          obtain ⟨d, hd, h1, h2⟩ := (hm (a - 1) (by omega)).1 hk'
          rcases List.mem_append.1 hd with hd | hd
          · have := hlt d hd; omega
          · simp only [List.mem_singleton] at hd; subst hd; omega
    have hones := runs_ones m a hbeg n fun k h1 h2 => (hm k (by omega)).2 ⟨c, by simp, by omega, by omega⟩
    have hzero := runs_zero m (a + (n + 1)) s fun k h1 h2 => by
      cases hk' : m k with
      | false => rfl
      | true =>
        obtain ⟨d, hd, h3, h4⟩ := (hm k (by omega)).1 hk'
        rcases List.mem_append.1 hd with hd | hd
        · have := hlt d hd; omega
        · simp only [List.mem_singleton] at hd; subst hd; omega
    rw [hs, hzero, hones, ih]
    simp [zeroed, ha, hn]

/-- What holds of the cuts of a part of the events. -/
structure CutsInv (N ld tr : Int) (l : List Ev) (F : Int) (L : List Cut) : Prop where
  gaps : L.Pairwise (fun c d => c.to_ < d.frm)
  ends : ∀ c ∈ L, 0 ≤ c.frm ∧ c.frm < c.to_ ∧ c.to_ ≤ N
  marked : ∀ k : Int, 0 ≤ k → k < N → ((∃ e ∈ l, weightOf e.kind ≠ 0 ∧ e.frame - ld ≤ k ∧ k ≤ e.frame + tr) ↔ ∃ c ∈ L, c.frm ≤ k ∧ k < c.to_)
  weights : ∀ c ∈ L, c.weight = wsum c l
  last : ∀ c ∈ L, c.frm ≤ max (F - ld) 0 ∧ c.to_ ≤ min (F + tr + 1) N
theorem wsum_snoc (c : Cut) (l : List Ev) (e : Ev) : wsum c (l ++ [e]) = wsum c l + if c.frm ≤ e.frame ∧ e.frame < c.to_ then weightOf e.kind else 0 := by
  simp [wsum, List.map_append, List.sum_append]
theorem wsum_congr (c d : Cut) (l : List Ev) (h : ∀ e ∈ l, weightOf e.kind ≠ 0 → (c.frm ≤ e.frame ∧ e.frame < c.to_ ↔ d.frm ≤ e.frame ∧ e.frame < d.to_)) : wsum c l = wsum d l := by
  unfold wsum
  congr 1
  refine List.map_congr_left fun e he => ?_
  by_cases hw : weightOf e.kind = 0
  · rw [hw]; simp
  · have := h e he hw
    by_cases h1 : c.frm ≤ e.frame ∧ e.frame < c.to_
    · rw [if_pos h1, if_pos (this.1 h1)]
    · rw [if_neg h1, if_neg (fun h2 => h1 (this.2 h2))]
theorem wsum_none (c : Cut) (l : List Ev) (h : ∀ e ∈ l, weightOf e.kind ≠ 0 → ¬ (c.frm ≤ e.frame ∧ e.frame < c.to_)) : wsum c l = 0 := by
  induction l with
  | nil => rfl
  | cons e l ih =>
    have h2 : wsum c (e :: l) = (if c.frm ≤ e.frame ∧ e.frame < c.to_ then weightOf e.kind else 0) + wsum c l := by simp [wsum]
    rw [h2, ih fun x hx => h x (by simp [hx])]
    by_cases hw : weightOf e.kind = 0
    · rw [hw]; simp
    · rw [if_neg (h e (by simp) hw)]; rfl
theorem inv_step {N ld tr : Int} {l : List Ev} {F : Int} {L : List Cut} (h : CutsInv N ld tr l F L) (hl : 0 ≤ ld) (ht : 0 ≤ tr) (e : Ev) (he : F ≤ e.frame) (h0 : 0 ≤ e.frame) (hN : e.frame < N) (hfr : ∀ x ∈ l, 0 ≤ x.frame ∧ x.frame < N) :
    CutsInv N ld tr (l ++ [e]) e.frame (stepC N ld tr L e) := by
  have hw := weightOf_bd e.kind
  have own : ∀ x ∈ l, weightOf x.kind ≠ 0 → ∃ c ∈ L, c.frm ≤ x.frame ∧ x.frame < c.to_ := fun x hx hxw =>
    (h.marked x.frame (hfr x hx).1 (hfr x hx).2).1 ⟨x, hx, hxw, by omega, by omega⟩
  unfold stepC
  by_cases hz : 0 < weightOf e.kind
  · rw [if_pos hz]
    have a1 : (aboutC e N ld tr).frm = max (e.frame - ld) 0 := rfl
    have a2 : (aboutC e N ld tr).to_ = min (e.frame + tr + 1) N := rfl
    have a3 : (aboutC e N ld tr).weight = weightOf e.kind := rfl
    generalize aboutC e N ld tr = c at *
    have hmk : ∀ k : Int, 0 ≤ k → k < N → ((∃ x ∈ l ++ [e], weightOf x.kind ≠ 0 ∧ x.frame - ld ≤ k ∧ k ≤ x.frame + tr) ↔ (∃ d ∈ L, d.frm ≤ k ∧ k < d.to_) ∨ (c.frm ≤ k ∧ k < c.to_)) := fun k k0 k1 => by
      rw [← h.marked k k0 k1]
      constructor
      · rintro ⟨x, hx, h1, h2, h3⟩
        rcases List.mem_append.1 hx with hx | hx
        · exact .inl ⟨x, hx, h1, h2, h3⟩
        · simp only [List.mem_singleton] at hx; subst hx; right; omega
      · rintro (⟨x, hx, h1⟩ | h1)
        · exact ⟨x, by simp [hx], h1⟩
        · exact ⟨e, by simp, by omega, by omega, by omega⟩
    rcases List.eq_nil_or_concat L with rfl | ⟨L', d, rfl⟩
    · have hwz : wsum c l = 0 := wsum_none c l fun x hx hxw => by obtain ⟨d, hd, _⟩ := own x hx hxw; simp at hd
      refine ⟨by simp [joinC], ?_, ?_, ?_, ?_⟩
      · intro x hx; simp only [joinC, List.getLast?_nil, List.mem_singleton] at hx; subst hx; omega
      · intro k k0 k1; rw [hmk k k0 k1]; simp [joinC]
      · intro x hx
        simp only [joinC, List.getLast?_nil, List.mem_singleton] at hx
        subst hx
        rw [wsum_snoc, hwz, if_pos (by omega)]; omega
      · intro x hx; simp only [joinC, List.getLast?_nil, List.mem_singleton] at hx; subst hx; omega
    · rw [List.concat_eq_append] at h own hmk ⊢
      obtain ⟨d0, d1, d2⟩ := h.ends d (by simp)
      obtain ⟨d3, d4⟩ := h.last d (by simp)
      have hdw := h.weights d (by simp)
      have hg := h.gaps
      rw [List.pairwise_append] at hg
      obtain ⟨hg1, -, hg2⟩ := hg
      have hlt : ∀ x ∈ L', x.to_ < d.frm := fun x hx => hg2 x hx d (by simp)
      rw [joinC_snoc]
      by_cases hc : c.frm ≤ d.to_
      · rw [if_pos hc]
        have hmax : max d.to_ c.to_ = c.to_ := by omega
        rw [hmax]
        refine ⟨?_, ?_, ?_, ?_, ?_⟩
        · rw [List.pairwise_append]
          refine ⟨hg1, by simp, fun x hx y hy => ?_⟩
          simp only [List.mem_singleton] at hy; subst hy
          exact hlt x hx
        · intro x hx
          rcases List.mem_append.1 hx with hx | hx
          · exact h.ends x (by simp [hx])
          · simp only [List.mem_singleton] at hx; subst hx; simp only; omega
        · intro k k0 k1
          rw [hmk k k0 k1]
          constructor
          · rintro (⟨x, hx, h1, h2⟩ | ⟨h1, h2⟩)
            · rcases List.mem_append.1 hx with hx | hx
              · exact ⟨x, by simp [hx], h1, h2⟩
              · simp only [List.mem_singleton] at hx; subst hx
                exact ⟨_, List.mem_append.2 (.inr (List.mem_singleton.2 rfl)), h1, by simp only; omega⟩
            · exact ⟨_, List.mem_append.2 (.inr (List.mem_singleton.2 rfl)), by simp only; omega, h2⟩
          · rintro ⟨x, hx, h1, h2⟩
            rcases List.mem_append.1 hx with hx | hx
            · exact .inl ⟨x, by simp [hx], h1, h2⟩
            · simp only [List.mem_singleton] at hx; subst hx
              simp only at h1 h2
              by_cases hk : k < d.to_
              · exact .inl ⟨d, by simp, h1, hk⟩
              · right; omega
        · intro x hx
          rcases List.mem_append.1 hx with hx | hx
          · have := hlt x hx
            rw [wsum_snoc, if_neg (by omega), Int.add_zero]
            exact h.weights x (by simp [hx])
          · simp only [List.mem_singleton] at hx; subst hx
            rw [wsum_snoc, if_pos (by simp only; omega)]
            have : wsum ⟨d.frm, c.to_, d.weight + c.weight⟩ l = wsum d l := by
              refine wsum_congr _ _ _ fun y hy hyw => ?_
              obtain ⟨z, hz, z1, z2⟩ := own y hy hyw
              rcases List.mem_append.1 hz with hz | hz
              · have := hlt z hz; simp only; omega
              · simp only [List.mem_singleton] at hz; subst hz; simp only; omega
            rw [this, ← hdw, a3]
        · intro x hx
          rcases List.mem_append.1 hx with hx | hx
          · have := h.last x (by simp [hx]); omega
          · simp only [List.mem_singleton] at hx; subst hx; simp only; omega
      · rw [if_neg hc]
        have hall : ∀ x ∈ L' ++ [d], x.to_ ≤ d.to_ := fun x hx => by
          rcases List.mem_append.1 hx with hx | hx
          · have := hlt x hx; omega
          · simp only [List.mem_singleton] at hx; subst hx; omega
        refine ⟨?_, ?_, ?_, ?_, ?_⟩
        · rw [List.pairwise_append]
          refine ⟨h.gaps, by simp, fun x hx y hy => ?_⟩
          simp only [List.mem_singleton] at hy; subst hy
          have := hall x hx; omega
        · intro x hx
          rcases List.mem_append.1 hx with hx | hx
          · exact h.ends x hx
          · simp only [List.mem_singleton] at hx; subst hx; omega
        · intro k k0 k1
          rw [hmk k k0 k1]
          constructor
          · rintro (⟨x, hx, h1, h2⟩ | ⟨h1, h2⟩)
            · exact ⟨x, List.mem_append.2 (.inl hx), h1, h2⟩
            · exact ⟨c, by simp, h1, h2⟩
          · rintro ⟨x, hx, h1, h2⟩
            rcases List.mem_append.1 hx with hx | hx
            · exact .inl ⟨x, hx, h1, h2⟩
            · simp only [List.mem_singleton] at hx; subst hx; exact .inr ⟨h1, h2⟩
        · intro x hx
          rcases List.mem_append.1 hx with hx | hx
          · have := hall x hx
            rw [wsum_snoc, if_neg (by omega), Int.add_zero]
            exact h.weights x hx
          · simp only [List.mem_singleton] at hx; subst hx
            rw [wsum_snoc, if_pos (by omega), wsum_none x l (fun y hy hyw => ?_), a3, Int.zero_add]
            obtain ⟨z, hz, z1, z2⟩ := own y hy hyw
            have := hall z hz; omega
        · intro x hx
          rcases List.mem_append.1 hx with hx | hx
          · have := h.last x hx; omega
          · simp only [List.mem_singleton] at hx; subst hx; omega
  · rw [if_neg hz]
    have hz0 : weightOf e.kind = 0 := by omega
    refine ⟨h.gaps, h.ends, fun k k0 k1 => ?_, fun x hx => ?_, fun x hx => ?_⟩
    · rw [← h.marked k k0 k1]
      constructor
      · rintro ⟨x, hx, h1, h2⟩
        rcases List.mem_append.1 hx with hx | hx
        · exact ⟨x, hx, h1, h2⟩
        · simp only [List.mem_singleton] at hx; subst hx; exact absurd hz0 h1
      · rintro ⟨x, hx, h1⟩
        exact ⟨x, by simp [hx], h1⟩
    · rw [wsum_snoc, hz0]; simp [h.weights x hx]
    · have := h.last x hx; omega
theorem inv_all {N ld tr : Int} (hl : 0 ≤ ld) (ht : 0 ≤ tr) : ∀ (r l : List Ev) (F : Int) (L : List Cut), CutsInv N ld tr l F L → 0 ≤ F → evsOk N F r = true → (∀ x ∈ l, 0 ≤ x.frame ∧ x.frame < N) → ∃ F', CutsInv N ld tr (l ++ r) F' (r.foldl (stepC N ld tr) L)
  | [], l, F, L, h, _, _, _ => ⟨F, by simpa using h⟩
  | e :: r, l, F, L, h, hF, hev, hfr => by
    rw [evsOk] at hev
    split at hev
    · cases hev
    · rename_i hn
      have := inv_all hl ht r (l ++ [e]) e.frame (stepC N ld tr L e) (inv_step h hl ht e (by omega) (by omega) (by omega) hfr) (by omega) hev (fun x hx => by
        rcases List.mem_append.1 hx with hx | hx
        · exact hfr x hx
        · simp only [List.mem_singleton] at hx; subst hx; omega)
      simpa using this
/-- ████ -/
theorem cuts_are_runs (l : List Ev) (N : Nat) (ld tr : Int) (hl : 0 ≤ ld) (ht : 0 ≤ tr) (h : evsOk N 0 l = true) : cutsOf l N ld tr = refCuts l N ld tr := by
  obtain ⟨F, hi⟩ := inv_all (N := N) hl ht l [] 0 [] ⟨by simp, by simp, by simp, by simp, by simp⟩ (by omega) h (by simp)
  rw [List.nil_append] at hi
  change CutsInv N ld tr l F (cutsOf l N ld tr) at hi
  generalize cutsOf l N ld tr = L at hi
  have hr := runs_of_cuts (marks l ld tr) L.reverse L (by simp) hi.gaps (fun c hc => ⟨(hi.ends c hc).1, (hi.ends c hc).2.1⟩) N (fun c hc => (hi.ends c hc).2.2) (fun k hk => by
    have hm := hi.marked k (by omega) (by omega)
    unfold Covers
    rw [← hm]
    simp only [marks, markBy, inSpan, List.any_eq_true, Bool.and_eq_true, Bool.not_eq_true', decide_eq_true_eq, beq_eq_false_iff_ne, ne_eq])
  rw [refCuts, hr, List.map_map]
  conv => lhs; rw [← List.map_id L]
  refine List.map_congr_left fun c hc => ?_
  have hw := hi.weights c hc
  have : wsum (zeroed c) l = wsum c l := wsum_congr _ _ _ fun _ _ _ => Iff.rfl
  show c = ⟨c.frm, c.to_, 0 + wsum (zeroed c) l⟩
  rw [this, ← hw, Int.zero_add]
end Go.Proofs.YtillajaghkefbaaDoor
