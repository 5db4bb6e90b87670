/-
  A change made to a list, plain.
-/
import Derived.Test.YtdjfpdndaobohaaSortP
import Derived.Test.YtdjfpdndaobohaaEventSearch
namespace Go.Proofs.Ytdjfpdndaobohaa
def keyI (k : Key4) : List Int := [k.frame, k.emitter, k.kind, k.ord]
theorem keyI_inj {a b : Key4} (h : keyI a = keyI b) : a = b := by
  cases a; cases b
  simp only [keyI, List.cons.injEq, and_true] at h
  simp [h]
instance keyDec : DecidableEq Key4 := fun a b => if h : keyI a = keyI b then isTrue (keyI_inj h) else isFalse (fun e => h (by rw [e]))
theorem keyI_dec (a b : Key4) : decide (keyI a = keyI b) = decide (a = b) := by
  by_cases h : a = b
  · subst h; simp
  · rw [decide_eq_false h, decide_eq_false (fun e => h (keyI_inj e))]
theorem sorted_uniq {L : List Ev} (hs : SortedE L) {i j : Nat} (hi : i < L.length) (hj : j < L.length) (h : L[i].key = L[j].key) : i = j := by
  rcases Nat.lt_trichotomy i j with hlt | heq | hgt
  · have := List.pairwise_iff_getElem.1 hs i j hi hj hlt
    rw [h] at this
    exact this.irrefl.elim
  · exact heq
  · have := List.pairwise_iff_getElem.1 hs j i hj hi hgt
    rw [h] at this
    exact this.irrefl.elim
theorem found_iff {L : List Ev} (hs : SortedE L) (k : Key4) : foundK L k = true ↔ ∃ e ∈ L, e.key = k :=
  ⟨mem_of_found, fun ⟨_, he, hk⟩ => hk ▸ found_of_mem hs he⟩
theorem findE_key {L : List Ev} {k : Key4} (h : foundK L k = true) : findE L k ∈ L ∧ (findE L k).key = k := by
  unfold findE
  rw [if_pos h]
  unfold foundK at h
  cases hx : L[lbK L k]? with
  | none => rw [hx] at h; simp at h
  | some _ =>
    rw [hx] at h
    simp at h
    exact ⟨List.mem_of_getElem? hx, (cmpK_zero _ _).1 h⟩
theorem findE_at {L : List Ev} (hs : SortedE L) {j : Nat} (hj : j < L.length) : findE L L[j].key = L[j] := by
  obtain ⟨h1, h2⟩ := findE_key (found_of_mem hs (List.getElem_mem hj))
  obtain ⟨i, hi, he⟩ := List.mem_iff_getElem.1 h1
  rw [← he] at h2
  have := sorted_uniq hs hi hj h2
  subst this
  exact he.symm
/-- Where a key's event stands, the first. -/
def atN (L : List Ev) (k : Key4) : Nat := L.findIdx fun e => decide (e.key = k)
def atI (L : List Ev) (k : Key4) : Int := if atN L k < L.length then (atN L k : Int) else -1
theorem atN_le (L : List Ev) (k : Key4) : atN L k ≤ L.length := List.findIdx_le_length
theorem atN_key {L : List Ev} {k : Key4} (h : atN L k < L.length) : (L[atN L k]'h).key = k := by
  unfold atN at h ⊢
  have := List.findIdx_getElem (p := fun e : Ev => decide (e.key = k)) (w := h)
  simpa using this
theorem atN_lt {L : List Ev} {k : Key4} {j : Nat} (hj : j < L.length) (h : j < atN L k) : L[j].key ≠ k := by
  have := List.not_of_lt_findIdx (p := fun e : Ev => decide (e.key = k)) (xs := L) h
  simpa using this
theorem atI_found {L : List Ev} (hs : SortedE L) (k : Key4) : decide (0 ≤ atI L k) = foundK L k := by
  unfold atI
  by_cases h : atN L k < L.length
  · rw [if_pos h, (found_iff hs k).2 ⟨_, List.getElem_mem h, atN_key h⟩]
    simp
  · rw [if_neg h]
    cases hf : foundK L k
    · rfl
    · obtain ⟨e, he, hk⟩ := (found_iff hs k).1 hf
      obtain ⟨j, hj, rfl⟩ := List.mem_iff_getElem.1 he
      exact absurd hk (atN_lt hj (by omega))
theorem atN_find {L : List Ev} (hs : SortedE L) {k : Key4} (h : atN L k < L.length) : L[atN L k]'h = findE L k := by
  have := findE_at hs h
  rw [atN_key h] at this
  exact this.symm
theorem atI_bd (L : List Ev) (k : Key4) : -1 ≤ atI L k ∧ atI L k < L.length := by
  unfold atI
  split <;> omega
/-- An event that a change leaves: none, if it is gone; what it is turned into. -/
def stepA (gone : List Key4) (turned : List Ev) (e : Ev) : List Ev := if e.key ∈ gone then [] else [if foundK turned e.key = true then findE turned e.key else e]
def baseA (was : List Ev) (gone : List Key4) (turned : List Ev) : List Ev := was.flatMap (stepA gone turned)
theorem baseA_keys (gone : List Key4) (turned : List Ev) : ∀ was : List Ev, (baseA was gone turned).map Ev.key = (was.map Ev.key).filter fun k => decide (k ∉ gone)
  | [] => rfl
  | e :: r => by
    have ih := baseA_keys gone turned r
    unfold baseA at ih ⊢
    rw [List.flatMap_cons, List.map_append, ih, List.map_cons, List.filter_cons]
    unfold stepA
    by_cases h : e.key ∈ gone
    · rw [if_pos h]; simp [h]
    · rw [if_neg h]
      have hk : (if foundK turned e.key = true then findE turned e.key else e).key = e.key := by
        split
        · exact (findE_key (by assumption)).2
        · rfl
      simp [h, hk]
theorem baseA_sub (was : List Ev) (gone : List Key4) (turned : List Ev) : ((baseA was gone turned).map Ev.key).Sublist (was.map Ev.key) := by
  rw [baseA_keys]; exact List.filter_sublist
theorem sortedE_keys {L : List Ev} : SortedE L ↔ (L.map Ev.key).Pairwise Key4.Lt := by rw [List.pairwise_map]; rfl
theorem baseA_sorted {was : List Ev} (hs : SortedE was) (gone : List Key4) (turned : List Ev) : SortedE (baseA was gone turned) := by
  rw [sortedE_keys] at *
  exact hs.sublist (baseA_sub was gone turned)
theorem sortedW_of {L : List Ev} (h : SortedE L) : SortedW L := h.imp fun {a b} hab => by
  have := (cmpK_neg a.key b.key).2 hab
  omega
theorem baseA_len (gone : List Key4) (turned : List Ev) (was : List Ev) : (baseA was gone turned).length ≤ was.length := by
  have := (baseA_sub was gone turned).length_le
  simpa using this
theorem baseA_snoc (was : List Ev) (gone : List Key4) (turned : List Ev) (k : Nat) (hk : k < was.length) : baseA (was.take (k + 1)) gone turned = baseA (was.take k) gone turned ++ stepA gone turned was[k] := by
  unfold baseA
  rw [List.take_succ_eq_append_getElem hk, List.flatMap_append]
  simp
/-- The list that a change makes. -/
def outA (was : List Ev) (gone : List Key4) (fresh turned : List Ev) : List Ev := fresh.foldl putE (baseA was gone turned)
theorem outA_perm (was : List Ev) (hs : SortedE was) (gone : List Key4) (fresh turned : List Ev) : SortedW (outA was gone fresh turned) ∧ (outA was gone fresh turned).Perm (baseA was gone turned ++ fresh) :=
  putsE_from fresh _ (sortedW_of (baseA_sorted hs gone turned))
theorem outA_sorted {was : List Ev} (hs : SortedE was) (gone : List Key4) {fresh : List Ev} (hf : SortedE fresh) (turned : List Ev) (hn : ∀ e ∈ fresh, foundK was e.key = false) : SortedE (outA was gone fresh turned) := by
  obtain ⟨h1, h2⟩ := outA_perm was hs gone fresh turned
  rw [sortedE_iff h1, (h2.map Ev.key).nodup_iff, List.map_append, List.nodup_append]
  refine ⟨(sortedE_iff (sortedW_of (baseA_sorted hs gone turned))).1 (baseA_sorted hs gone turned), (sortedE_iff (sortedW_of hf)).1 hf, fun a ha b hb => ?_⟩
  obtain ⟨e, he, rfl⟩ := List.mem_map.1 hb
  rintro rfl
  have hw := (baseA_sub was gone turned).subset ha
  obtain ⟨x, hx, hk⟩ := List.mem_map.1 hw
  have := (found_iff hs e.key).2 ⟨x, hx, hk⟩
  rw [hn e he] at this
  cases this
theorem outA_one {was : List Ev} (hs : SortedE was) (gone : List Key4) {fresh : List Ev} (hf : SortedE fresh) (turned : List Ev) (hn : ∀ e ∈ fresh, foundK was e.key = false) {M : List Ev} (hp : M.Perm (baseA was gone turned ++ fresh)) (hM : SortedW M) : M = outA was gone fresh turned := by
  obtain ⟨h1, h2⟩ := outA_perm was hs gone fresh turned
  exact (sorts_one (h2.trans hp.symm) h1 hM (outA_sorted hs gone hf turned hn)).symm
theorem outA_snoc (was : List Ev) (gone : List Key4) (fresh turned : List Ev) (k : Nat) (hk : k < fresh.length) : outA was gone (fresh.take (k + 1)) turned = putE (outA was gone (fresh.take k) turned) fresh[k] := by
  unfold outA
  rw [List.take_succ_eq_append_getElem hk, List.foldl_append]
  rfl
/-- The error: 1 no list, 6 not there, 7 there, 5 too long. -/
def argA (was : List Ev) (gone : List Key4) (fresh turned : List Ev) : Bool := orderedB was && (risingF key0 gone && (orderedB fresh && orderedB turned))
def noneA (was : List Ev) (gone : List Key4) (turned : List Ev) : Bool := (gone.any fun k => !foundK was k) || (turned.any fun e => !foundK was e.key)
def thereA (was fresh : List Ev) : Bool := fresh.any fun e => foundK was e.key
def errA (was : List Ev) (gone : List Key4) (fresh turned : List Ev) : Int :=
  if argA was gone fresh turned = true then (if noneA was gone turned = true then 6 else if thereA was fresh = true then 7 else if (baseA was gone turned ++ fresh).length ≤ 64 then 0 else 5) else 1
def resA (was : List Ev) (gone : List Key4) (fresh turned : List Ev) : List Ev := if errA was gone fresh turned = 0 then outA was gone fresh turned else []
theorem ordered_sorted {L : List Ev} (h : orderedB L = true) : SortedE L := by
  unfold orderedB at h
  simp only [Bool.and_eq_true, decide_eq_true_eq, List.all_eq_true] at h
  exact (rising_iff h.2.1).1 h.2.2
theorem ordered_len {L : List Ev} (h : orderedB L = true) : L.length ≤ 64 := by
  unfold orderedB at h
  simp only [Bool.and_eq_true, decide_eq_true_eq] at h
  exact h.1
end Go.Proofs.Ytdjfpdndaobohaa
