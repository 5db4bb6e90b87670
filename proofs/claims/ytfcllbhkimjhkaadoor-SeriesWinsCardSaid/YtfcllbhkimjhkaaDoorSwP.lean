/-
  Who won how many rounds, who decides, the longest run, plain.
-/
import Derived.Test.YtfcllbhkimjhkaaDoorSerD
namespace Go.Proofs.YtfcllbhkimjhkaaDoor.Ser
theorem placeZ_bd (n : Int) : 0 ≤ placeZ n ∧ placeZ n ≤ 2 := by unfold placeZ; split <;> omega
/-- How many of the rounds somebody won. -/
def wonZ (l : List Rnd) (who : Int) : Nat := (l.filter fun r => decide (placeZ r.win = who)).length
theorem wonZ_snoc (l : List Rnd) (k : Nat) (hk : k < l.length) (who : Int) : wonZ (l.take (k + 1)) who = wonZ (l.take k) who + if placeZ l[k].win = who then 1 else 0 := by
  unfold wonZ
  rw [List.take_succ_eq_append_getElem hk, List.filter_append, List.length_append, List.filter_cons, List.filter_nil]
  by_cases h : placeZ l[k].win = who <;> simp [h]
theorem wonZ_le (l : List Rnd) (who : Int) : wonZ l who ≤ l.length := List.length_filter_le _ _
/-- The first round that decides a series, and for whom. -/
def decB (l : List Rnd) (best : Int) (i : Nat) (w : Int) : Prop := 0 ≤ w ∧ w < 2 ∧ best < 2 * (wonZ (l.take (i + 1)) w : Int)
theorem decB_next {l : List Rnd} {best : Int} {i : Nat} (hb : 1 ≤ best) (hi : i < l.length) (hn : ∀ j, j < i → ∀ w, ¬ decB l best j w) (hp : ¬ decB l best i (placeZ l[i].win)) : ∀ w, ¬ decB l best i w := by
  intro w hw
  by_cases h : placeZ l[i].win = w
  · rw [h] at hp
    exact hp hw
  · obtain ⟨h0, h1, h2⟩ := hw
    rw [wonZ_snoc l i hi, if_neg h, Nat.add_zero] at h2
    rcases Nat.eq_zero_or_pos i with rfl | hpos
    · simp [wonZ] at h2
      omega
    · obtain ⟨j, rfl⟩ : ∃ j, i = j + 1 := ⟨i - 1, by omega⟩
      exact hn j (by omega) w ⟨h0, h1, h2⟩
theorem decB_one {l : List Rnd} {best : Int} {i : Nat} {w v : Int} (hb : 1 ≤ best) (hi : i < l.length) (hn : ∀ j, j < i → ∀ w, ¬ decB l best j w) (hw : decB l best i w) (hv : decB l best i v) : w = v := by
  have key : ∀ u, decB l best i u → placeZ l[i].win = u := fun u hu => by
    refine Classical.byContradiction fun h => ?_
    obtain ⟨h0, h1, h2⟩ := hu
    rw [wonZ_snoc l i hi, if_neg h, Nat.add_zero] at h2
    rcases Nat.eq_zero_or_pos i with rfl | hpos
    · simp [wonZ] at h2
      omega
    · obtain ⟨j, rfl⟩ : ∃ j, i = j + 1 := ⟨i - 1, by omega⟩
      exact hn j (by omega) u ⟨h0, h1, h2⟩
  rw [← key w hw, ← key v hv]
/-- From f on, up to t, somebody won all. -/
def Run (l : List Rnd) (w : Int) (f t : Nat) : Prop := 0 ≤ w ∧ w < 2 ∧ f < t ∧ t ≤ l.length ∧ ∀ i (h : i < l.length), f ≤ i → i < t → placeZ l[i].win = w
/-- The longest run so far: its length and whose; of those that P holds of. -/
def Best (l : List Rnd) (P : Int → Nat → Nat → Prop) (a : Nat) (b : Int) : Prop :=
  (∀ w f t, P w f t → Run l w f t → t - f ≤ a) ∧ ((a = 0 ∧ b = -1) ∨ (0 < a ∧ ∃ f t, P b f t ∧ Run l b f t ∧ t - f = a ∧ ∀ w' f' t', P w' f' t' → Run l w' f' t' → t' - f' = a → f ≤ f'))
theorem run_at {l : List Rnd} {w : Int} {f t : Nat} (h : Run l w f t) (hf : f < l.length) : placeZ l[f].win = w := h.2.2.2.2 f hf (Nat.le_refl _) h.2.2.1
theorem best_one {l : List Rnd} {P : Int → Nat → Nat → Prop} {a a' : Nat} {b b' : Int} (h : Best l P a b) (k : Best l P a' b') : a = a' ∧ b = b' := by
  obtain ⟨h1, h2⟩ := h
  obtain ⟨k1, k2⟩ := k
  rcases h2 with ⟨rfl, rfl⟩ | ⟨h0, f, t, hP, hR, he, hm⟩
  · rcases k2 with ⟨rfl, rfl⟩ | ⟨k0, g, u, kP, kR, ke, -⟩
    · exact ⟨rfl, rfl⟩
    · have := h1 _ _ _ kP kR
      omega
  · rcases k2 with ⟨rfl, rfl⟩ | ⟨k0, g, u, kP, kR, ke, km⟩
    · have := k1 _ _ _ hP hR
      omega
    · have e1 := h1 _ _ _ kP kR
      have e2 := k1 _ _ _ hP hR
      obtain rfl : a = a' := by omega
      have e3 := hm _ _ _ kP kR ke
      have e4 := km _ _ _ hP hR he
      obtain rfl : f = g := by omega
      have hf : f < l.length := by have := hR.2.2.1; have := hR.2.2.2.1; omega
      exact ⟨rfl, by rw [← run_at hR hf, ← run_at kR hf]⟩
/-- The program's: what it keeps behind k rounds. -/
structure StreakAt (l : List Rnd) (k : Nat) (a : Nat) (b : Int) (run : Nat) (last : Int) : Prop where
  best : Best l (fun _ _ t => t ≤ k) a b
  len : run ≤ k
  same : ∀ i (h : i < l.length), k - run ≤ i → i < k → placeZ l[i].win = last
  front : ∀ (h : k - run - 1 < l.length), 0 < k - run → placeZ (l[k - run - 1]'h).win ≠ last
  some : 0 < k → 0 < run
theorem streak_zero (l : List Rnd) : StreakAt l 0 0 (-1) 0 (-1) := by
  refine ⟨⟨fun w f t h hr => by have := hr.2.2.1; omega, .inl ⟨rfl, rfl⟩⟩, Nat.le_refl _, fun i _ _ h => by omega, fun _ h => by omega, fun h => by omega⟩
/-- Runs that end at k + 1 are no longer than the last one. -/
theorem run_end {l : List Rnd} {k run : Nat} {last w : Int} (hk : k < l.length) (hs : ∀ i (h : i < l.length), k + 1 - run ≤ i → i < k + 1 → placeZ l[i].win = last) (hf : ∀ (h : k + 1 - run - 1 < l.length), 0 < k + 1 - run → placeZ (l[k + 1 - run - 1]'h).win ≠ last) (hr0 : 0 < run) {f : Nat} (hR : Run l w f (k + 1)) : w = last ∧ k + 1 - run ≤ f := by
  have hw : w = last := by
    rw [← hs k hk (by omega) (by omega)]
    exact (hR.2.2.2.2 k hk (by have := hR.2.2.1; omega) (by omega)).symm
  subst hw
  refine ⟨rfl, ?_⟩
  refine Classical.byContradiction fun h => ?_
  have hlt : k + 1 - run - 1 < l.length := by omega
  exact hf hlt (by omega) (hR.2.2.2.2 _ hlt (by omega) (by omega))
theorem streak_next {l : List Rnd} {k a run : Nat} {b last : Int} (hk : k < l.length) (h : StreakAt l k a b run last) :
    StreakAt l (k + 1) (if placeZ l[k].win < 2 ∧ a < (if placeZ l[k].win = last then run + 1 else 1) then (if placeZ l[k].win = last then run + 1 else 1) else a) (if placeZ l[k].win < 2 ∧ a < (if placeZ l[k].win = last then run + 1 else 1) then placeZ l[k].win else b) (if placeZ l[k].win = last then run + 1 else 1) (placeZ l[k].win) := by
  obtain ⟨⟨hb1, hb2⟩, hl, hs, hf, h0⟩ := h
  obtain ⟨p, hp⟩ : ∃ p, placeZ l[k].win = p := ⟨_, rfl⟩
  have hpb := placeZ_bd l[k].win
  rw [hp] at hpb
  obtain ⟨r, hr⟩ : ∃ r, (if placeZ l[k].win = last then run + 1 else 1) = r := ⟨_, rfl⟩
  rw [hr, hp]
  rw [hp] at hr
  have hr0 : 0 < r := by split at hr <;> omega
  have hrk : r ≤ k + 1 := by split at hr <;> omega
  have hs' : ∀ i (h : i < l.length), k + 1 - r ≤ i → i < k + 1 → placeZ l[i].win = p := by
    intro i hi h1 h2
    rcases Nat.lt_or_ge i k with hik | hik
    · split at hr
      · rename_i hpl
        rw [hpl]
        exact hs i hi (by omega) hik
      · omega
    · obtain rfl : i = k := by omega
      exact hp
  have hf' : ∀ (h : k + 1 - r - 1 < l.length), 0 < k + 1 - r → placeZ (l[k + 1 - r - 1]'h).win ≠ p := by
    intro h1 h2
    split at hr
    · rename_i hpl
      subst hr
      have e : k + 1 - (run + 1) - 1 = k - run - 1 := by omega
      have := hf (by omega) (by omega)
      rw [hpl]
      simp only [e]
      exact this
    · rename_i hpl
      subst hr
      have hk0 : 0 < k := by omega
      have e : k + 1 - 1 - 1 = k - 1 := by omega
      simp only [e]
      have := hs (k - 1) (by omega) (by have := h0 hk0; omega) (by omega)
      rw [this]
      exact fun e => hpl e.symm
  have hend : ∀ w f, Run l w f (k + 1) → w = p ∧ k + 1 - r ≤ f := fun w f hR => run_end hk hs' hf' hr0 hR
  have hold : ∀ w f t, t ≤ k + 1 → Run l w f t → t - f ≤ a ∨ (t = k + 1 ∧ w = p ∧ t - f ≤ r) := by
    intro w f t ht hR
    rcases Nat.lt_or_ge k t with h1 | h1
    · obtain rfl : t = k + 1 := by omega
      obtain ⟨e1, e2⟩ := hend w f hR
      exact .inr ⟨rfl, e1, by omega⟩
    · exact .inl (hb1 w f t h1 hR)
  refine ⟨?_, hrk, hs', hf', fun _ => hr0⟩
  by_cases hc : p < 2 ∧ a < r
  · rw [if_pos hc, if_pos hc]
    have hRun : Run l p (k + 1 - r) (k + 1) := ⟨hpb.1, hc.1, by omega, by omega, hs'⟩
    refine ⟨fun w f t ht hR => ?_, .inr ⟨hr0, k + 1 - r, k + 1, Nat.le_refl _, hRun, by omega, fun w' f' t' ht' hR' he => ?_⟩⟩
    · rcases hold w f t ht hR with h | ⟨-, -, h⟩ <;> omega
    · rcases hold w' f' t' ht' hR' with h | ⟨rfl, -, -⟩
      · omega
      · exact (hend w' f' hR').2
  · rw [if_neg hc, if_neg hc]
    refine ⟨fun w f t ht hR => ?_, ?_⟩
    · rcases hold w f t ht hR with h | ⟨-, rfl, h⟩
      · exact h
      · have := hR.2.1
        omega
    · rcases hb2 with h | ⟨ha, f, t, hP, hR, he, hm⟩
      · exact .inl h
      · refine .inr ⟨ha, f, t, by omega, hR, he, fun w' f' t' ht' hR' he' => ?_⟩
        rcases Nat.lt_or_ge k t' with h1 | h1
        · have hRt := hR.2.2.1
          omega
        · exact hm w' f' t' h1 hR' he'
/-- The document's: whether somebody won all from f to t. -/
theorem won_all (l : List Rnd) (w : Int) (f : Nat) : ∀ t, f ≤ t → t ≤ l.length → wonZ (l.take f) w ≤ wonZ (l.take t) w ∧ wonZ (l.take t) w - wonZ (l.take f) w ≤ t - f ∧ (wonZ (l.take t) w - wonZ (l.take f) w = t - f ↔ ∀ i (h : i < l.length), f ≤ i → i < t → placeZ l[i].win = w) := by
  intro t
  induction t with
  | zero =>
    intro h1 _
    obtain rfl : f = 0 := by omega
    exact ⟨Nat.le_refl _, by omega, ⟨fun _ i _ _ h => by omega, fun _ => by omega⟩⟩
  | succ t ih =>
    intro h1 h2
    rcases Nat.lt_or_ge t f with hlt | hge
    · obtain rfl : f = t + 1 := by omega
      exact ⟨Nat.le_refl _, by omega, ⟨fun _ i _ _ h => by omega, fun _ => by omega⟩⟩
    · obtain ⟨i1, i2, i3⟩ := ih hge (by omega)
      have hs := wonZ_snoc l t (by omega) w
      by_cases h : placeZ (l[t]'(by omega)).win = w
      · rw [if_pos h] at hs
        refine ⟨by omega, by omega, ⟨fun e i hi hf ht => ?_, fun e => ?_⟩⟩
        · rcases Nat.lt_or_ge i t with hit | hit
          · exact i3.1 (by omega) i hi hf hit
          · obtain rfl : i = t := by omega
            exact h
        · have := i3.2 fun i hi hf ht => e i hi hf (by omega)
          omega
      · rw [if_neg h, Nat.add_zero] at hs
        refine ⟨by omega, by omega, ⟨fun e => by omega, fun e => absurd (e t (by omega) hge (by omega)) h⟩⟩
theorem run_iff {l : List Rnd} {w : Int} {f t : Nat} (hw : 0 ≤ w ∧ w < 2) (hf : f < t) (ht : t ≤ l.length) : Run l w f t ↔ (wonZ (l.take t) w : Int) - wonZ (l.take f) w = t - f := by
  obtain ⟨h1, h2, h3⟩ := won_all l w f t (by omega) ht
  constructor
  · intro h
    have := h3.2 h.2.2.2.2
    omega
  · intro h
    exact ⟨hw.1, hw.2, hf, ht, h3.1 (by omega)⟩
/-- What has been looked at: in the order of from, to, who. -/
def seen3 (f t : Nat) (w : Nat) (w' : Int) (f' t' : Nat) : Prop := f' < f ∨ (f' = f ∧ (t' < t ∨ (t' = t ∧ w' < w)))
theorem seen_next {l : List Rnd} {f t w a : Nat} {b : Int} (hw : w < 2) (hf : f < t) (ht : t ≤ l.length) (h : Best l (seen3 f t w) a b) :
    Best l (seen3 f t (w + 1)) (if (wonZ (l.take t) w : Int) - wonZ (l.take f) w = t - f ∧ a < t - f then t - f else a) (if (wonZ (l.take t) w : Int) - wonZ (l.take f) w = t - f ∧ a < t - f then (w : Int) else b) := by
  obtain ⟨h1, h2⟩ := h
  have hsplit : ∀ w' f' t', seen3 f t (w + 1) w' f' t' → Run l w' f' t' → seen3 f t w w' f' t' ∨ (f' = f ∧ t' = t ∧ w' = w) := by
    rintro w' f' t' hs hR
    unfold seen3 at hs ⊢
    have := hR.1
    omega
  have hmono : ∀ w' f' t', seen3 f t w w' f' t' → seen3 f t (w + 1) w' f' t' := by
    intro w' f' t' hs
    unfold seen3 at hs ⊢
    omega
  by_cases hc : (wonZ (l.take t) w : Int) - wonZ (l.take f) w = t - f ∧ a < t - f
  · rw [if_pos hc, if_pos hc]
    have hR : Run l w f t := (run_iff ⟨by omega, by omega⟩ hf ht).2 hc.1
    refine ⟨fun w' f' t' hs hR' => ?_, .inr ⟨by omega, f, t, ?_, hR, rfl, fun w' f' t' hs hR' he => ?_⟩⟩
    · rcases hsplit w' f' t' hs hR' with h | ⟨rfl, rfl, -⟩
      · have := h1 _ _ _ h hR'
        omega
      · omega
    · unfold seen3; omega
    · rcases hsplit w' f' t' hs hR' with h | ⟨rfl, rfl, -⟩
      · have := h1 _ _ _ h hR'
        omega
      · omega
  · rw [if_neg hc, if_neg hc]
    refine ⟨fun w' f' t' hs hR' => ?_, ?_⟩
    · rcases hsplit w' f' t' hs hR' with h | ⟨rfl, rfl, rfl⟩
      · exact h1 _ _ _ h hR'
      · have := (run_iff ⟨by omega, by omega⟩ hf ht).1 hR'
        omega
    · rcases h2 with h | ⟨h0, g, u, hP, hR, he, hm⟩
      · exact .inl h
      · refine .inr ⟨h0, g, u, hmono _ _ _ hP, hR, he, fun w' f' t' hs hR' he' => ?_⟩
        rcases hsplit w' f' t' hs hR' with h | ⟨rfl, rfl, rfl⟩
        · exact hm _ _ _ h hR' he'
        · unfold seen3 at hP
          omega
theorem seen_same {l : List Rnd} {P Q : Int → Nat → Nat → Prop} {a : Nat} {b : Int} (hpq : ∀ w f t, Run l w f t → (P w f t ↔ Q w f t)) (h : Best l P a b) : Best l Q a b := by
  obtain ⟨h1, h2⟩ := h
  refine ⟨fun w f t hq hR => h1 w f t ((hpq w f t hR).2 hq) hR, ?_⟩
  rcases h2 with h | ⟨h0, g, u, hP, hR, he, hm⟩
  · exact .inl h
  · exact .inr ⟨h0, g, u, (hpq _ _ _ hR).1 hP, hR, he, fun w' f' t' hq hR' he' => hm w' f' t' ((hpq _ _ _ hR').2 hq) hR' he'⟩
/-- Rounds that were close. -/
def closeZ (r : Rnd) : Bool := decide (-1 ≤ r.a - r.b ∧ r.a - r.b ≤ 1)
def closeN (l : List Rnd) : Nat := (l.filter closeZ).length
theorem closeN_snoc (l : List Rnd) (k : Nat) (hk : k < l.length) : closeN (l.take (k + 1)) = closeN (l.take k) + if closeZ l[k] = true then 1 else 0 := by
  unfold closeN
  rw [List.take_succ_eq_append_getElem hk, List.filter_append, List.length_append, List.filter_cons, List.filter_nil]
  cases closeZ l[k] <;> simp
theorem closeN_le (l : List Rnd) : closeN l ≤ l.length := List.length_filter_le _ _
end Go.Proofs.YtfcllbhkimjhkaaDoor.Ser
