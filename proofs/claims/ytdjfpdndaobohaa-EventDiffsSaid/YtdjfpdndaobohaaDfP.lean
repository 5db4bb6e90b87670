/-
  The difference of two lists in order, plain: it makes the one of the other.
-/
import Derived.Test.YtdjfpdndaobohaaApE
import Derived.Test.YtdjfpdndaobohaaSame
namespace Go.Proofs.Ytdjfpdndaobohaa
def goneL (was now : List Ev) : List Key4 := (was.filter fun e => !foundK now e.key).map Ev.key
def freshL (was now : List Ev) : List Ev := now.filter fun e => !foundK was e.key
def turnedL (was now : List Ev) : List Ev := now.filter fun e => foundK was e.key && !decide (findE was e.key = e)
theorem SortedE.sub {L M : List Ev} (h : SortedE L) (hs : M.Sublist L) : SortedE M := h.sublist hs
theorem sortedE_ext : ∀ {X Y : List Ev}, SortedE X → SortedE Y → (∀ e, e ∈ X ↔ e ∈ Y) → X = Y
  | [], [], _, _, _ => rfl
  | [], y :: Y, _, _, h => by have := (h y).2 (by simp); simp at this
  | x :: X, [], _, _, h => by have := (h x).1 (by simp); simp at this
  | x :: X, y :: Y, hX, hY, h => by
    obtain ⟨hx, hX'⟩ := List.pairwise_cons.1 hX
    obtain ⟨hy, hY'⟩ := List.pairwise_cons.1 hY
    have hxy : x = y := by
      rcases List.mem_cons.1 ((h x).1 (by simp)) with e | h1
      · exact e
      · rcases List.mem_cons.1 ((h y).2 (by simp)) with e | h2
        · exact e.symm
        · exact (((hx y h2).trans (hy x h1)).irrefl).elim
    subst hxy
    congr 1
    refine sortedE_ext hX' hY' fun e => ?_
    constructor
    · intro he
      rcases List.mem_cons.1 ((h e).1 (by simp [he])) with rfl | h1
      · exact ((hx e he).irrefl).elim
      · exact h1
    · intro he
      rcases List.mem_cons.1 ((h e).2 (by simp [he])) with rfl | h1
      · exact ((hy e he).irrefl).elim
      · exact h1
theorem ordered_sub {L M : List Ev} (h : orderedB L = true) (hs : M.Sublist L) : orderedB M = true := by
  have h1 := ordered_len h
  have h2 := ordered_sorted h
  have hok : ∀ e ∈ L, evOk e = true := by
    unfold orderedB at h
    simp only [Bool.and_eq_true, decide_eq_true_eq, List.all_eq_true] at h
    exact h.2.1
  have hok' : ∀ e ∈ M, evOk e = true := fun e he => hok e (hs.subset he)
  have hl := hs.length_le
  unfold orderedB
  rw [decide_eq_true (by omega), List.all_eq_true.2 hok', (rising_iff hok').2 (h2.sub hs)]
  rfl
section
variable {was now : List Ev}
theorem diff_arg (hw : orderedB was = true) (hn : orderedB now = true) : argA was (goneL was now) (freshL was now) (turnedL was now) = true := by
  have h1 : orderedB (freshL was now) = true := by unfold freshL; exact ordered_sub hn List.filter_sublist
  have h2 : orderedB (turnedL was now) = true := by unfold turnedL; exact ordered_sub hn List.filter_sublist
  unfold argA
  rw [hw, h1, h2]
  have hg : orderedB (was.filter fun e => !foundK now e.key) = true := ordered_sub hw List.filter_sublist
  unfold orderedB at hg
  simp only [Bool.and_eq_true] at hg
  unfold goneL
  rw [hg.2.2]
  rfl
theorem diff_none (hw : orderedB was = true) : noneA was (goneL was now) (turnedL was now) = false := by
  have sw := ordered_sorted hw
  unfold noneA
  rw [Bool.or_eq_false_iff, ← Bool.not_eq_true, ← Bool.not_eq_true, List.any_eq_true, List.any_eq_true]
  refine ⟨?_, ?_⟩
  · rintro ⟨k, hk, h⟩
    obtain ⟨e, he, rfl⟩ := List.mem_map.1 hk
    have := (found_iff sw e.key).2 ⟨e, (List.mem_filter.1 he).1, rfl⟩
    rw [this] at h
    cases h
  · rintro ⟨e, he, h⟩
    have := (List.mem_filter.1 he).2
    simp only [Bool.and_eq_true] at this
    rw [this.1] at h
    cases h
theorem diff_there : thereA was (freshL was now) = false := by
  unfold thereA
  rw [← Bool.not_eq_true, List.any_eq_true]
  rintro ⟨e, he, h⟩
  have := (List.mem_filter.1 he).2
  rw [h] at this
  cases this
theorem diff_step (hw : orderedB was = true) (hn : orderedB now = true) {e : Ev} (he : e ∈ was) : stepA (goneL was now) (turnedL was now) e = if foundK now e.key = true then [findE now e.key] else [] := by
  have sw := ordered_sorted hw
  have sn := ordered_sorted hn
  have st : SortedE (turnedL was now) := sn.sub List.filter_sublist
  have hwe : findE was e.key = e := by
    obtain ⟨j, hj, rfl⟩ := List.mem_iff_getElem.1 he
    exact findE_at sw hj
  have hfw : foundK was e.key = true := (found_iff sw e.key).2 ⟨e, he, rfl⟩
  unfold stepA
  cases hf : foundK now e.key
  · rw [if_pos (show e.key ∈ goneL was now from List.mem_map.2 ⟨e, List.mem_filter.2 ⟨he, by rw [hf]; rfl⟩, rfl⟩), if_neg (by decide)]
  · have hng : e.key ∉ goneL was now := by
      intro h
      obtain ⟨x, hx, hk⟩ := List.mem_map.1 h
      have := (List.mem_filter.1 hx).2
      rw [hk, hf] at this
      cases this
    rw [if_neg hng, if_pos rfl]
    obtain ⟨h1, h2⟩ := findE_key hf
    obtain ⟨y, hy⟩ : ∃ y, findE now e.key = y := ⟨_, rfl⟩
    rw [hy] at h1 h2 ⊢
    by_cases hye : y = e
    · subst hye
      have : foundK (turnedL was now) y.key = false := by
        cases hft : foundK (turnedL was now) y.key
        · rfl
        · obtain ⟨x, hx, hk⟩ := (found_iff st y.key).1 hft
          obtain ⟨hxn, hxp⟩ := List.mem_filter.1 hx
          simp only [Bool.and_eq_true, Bool.not_eq_true', decide_eq_false_iff_not] at hxp
          rw [hk, hwe] at hxp
          obtain ⟨i, hi, rfl⟩ := List.mem_iff_getElem.1 hxn
          obtain ⟨j, hj, rfl⟩ := List.mem_iff_getElem.1 h1
          have := sorted_uniq sn hi hj hk
          subst this
          exact absurd rfl hxp.2
      rw [this, if_neg (by decide)]
    · have hyt : y ∈ turnedL was now := List.mem_filter.2 ⟨h1, by rw [h2, hfw, hwe, decide_eq_false (fun h => hye h.symm)]; rfl⟩
      have hft : foundK (turnedL was now) e.key = true := (found_iff st e.key).2 ⟨y, hyt, h2⟩
      rw [if_pos hft]
      obtain ⟨i, hi, rfl⟩ := List.mem_iff_getElem.1 hyt
      rw [← h2, findE_at st hi]
theorem diff_base (hw : orderedB was = true) (hn : orderedB now = true) : baseA was (goneL was now) (turnedL was now) = now.filter fun e => foundK was e.key := by
  have sw := ordered_sorted hw
  have sn := ordered_sorted hn
  refine sortedE_ext (baseA_sorted sw _ _) (sn.sub List.filter_sublist) fun e => ?_
  unfold baseA
  rw [List.mem_flatMap, List.mem_filter]
  constructor
  · rintro ⟨x, hx, h⟩
    rw [diff_step hw hn hx] at h
    cases hf : foundK now x.key
    · rw [hf] at h; simp at h
    · rw [hf, if_pos rfl, List.mem_singleton] at h
      obtain ⟨h1, h2⟩ := findE_key hf
      subst h
      exact ⟨h1, (found_iff sw _).2 ⟨x, hx, h2.symm⟩⟩
  · rintro ⟨he, hf⟩
    obtain ⟨x, hx, hk⟩ := (found_iff sw _).1 hf
    refine ⟨x, hx, ?_⟩
    have hfn : foundK now x.key = true := (found_iff sn _).2 ⟨e, he, hk.symm⟩
    rw [diff_step hw hn hx, if_pos hfn, List.mem_singleton, hk]
    obtain ⟨j, hj, rfl⟩ := List.mem_iff_getElem.1 he
    exact (findE_at sn hj).symm
theorem diff_makes (hw : orderedB was = true) (hn : orderedB now = true) : errA was (goneL was now) (freshL was now) (turnedL was now) = 0 ∧ resA was (goneL was now) (freshL was now) (turnedL was now) = now := by
  have sw := ordered_sorted hw
  have sn := ordered_sorted hn
  have hp : now.Perm (baseA was (goneL was now) (turnedL was now) ++ freshL was now) := by
    rw [diff_base hw hn]
    unfold freshL
    exact (List.filter_append_perm (fun e : Ev => foundK was e.key) now).symm
  have hl := hp.length_eq
  have h64 := ordered_len hn
  obtain ⟨h1, h2⟩ := (errA_end (diff_arg hw hn) (diff_none (now := now) hw) (diff_there (was := was) (now := now))).1 (by omega)
  refine ⟨h1, h2.trans ?_⟩
  exact (outA_one sw _ (sn.sub List.filter_sublist) _ (there_none diff_there) hp (sortedW_of sn)).symm
end
end Go.Proofs.Ytdjfpdndaobohaa
