/-
  Events in order, plain: a list put in order one by one is any order's that rises.
-/
import Derived.Test.YteccmklacgpodaaR11b
import Derived.Test.YteccmklacgpodaaROrd
import Derived.Test.YteccmklacgpodaaSrtP
namespace Go.Proofs.Yteccmklacgpodaa
def putsE (L : List Ev) : List Ev := L.foldl putE []
theorem putE_perm (L : List Ev) (e : Ev) : (putE L e).Perm (e :: L) := by
  unfold putE insL
  refine List.perm_middle.trans ?_
  rw [List.take_append_drop]
theorem putE_sortedW {L : List Ev} (h : SortedW L) (e : Ev) : SortedW (putE L e) := by
  have hle := putK_le L e
  have h1 : ∀ j (hj : j < L.length), j < putK L e → cmpK L[j].key e.key ≤ 0 := fun j hj hp => by
    have := putK_lt L e j hj hp
    rw [decide_eq_false_iff_not] at this
    have := cmpK_swap e.key L[j].key
    omega
  have h2 : ∀ j (hj : j < L.length), putK L e ≤ j → cmpK e.key L[j].key ≤ 0 := fun j hj hp => by
    have h0 := putK_at L e (by omega)
    rw [decide_eq_true_eq] at h0
    rcases Nat.lt_or_ge (putK L e) j with hlt | hge
    · exact cmpK_tr h0 (List.pairwise_iff_getElem.1 h _ _ (by omega) hj hlt)
    · have : putK L e = j := by omega
      simpa only [this] using h0
  unfold SortedW putE insL
  obtain ⟨p, hp⟩ : ∃ p, putK L e = p := ⟨_, rfl⟩
  rw [hp] at h1 h2 hle ⊢
  rw [List.pairwise_append, List.pairwise_cons]
  refine ⟨h.sublist (List.take_sublist _ _), ⟨fun b hb => ?_, h.sublist (List.drop_sublist _ _)⟩, fun a ha b hb => ?_⟩
  · obtain ⟨j, hj, rfl⟩ := List.mem_iff_getElem.1 hb
    rw [List.getElem_drop]
    exact h2 _ _ (by omega)
  · obtain ⟨j, hj, rfl⟩ := List.mem_iff_getElem.1 ha
    rw [List.length_take] at hj
    rw [List.getElem_take]
    have hj1 := h1 j (by omega) (by omega)
    rcases List.mem_cons.1 hb with rfl | hb
    · exact hj1
    · obtain ⟨i, hi, rfl⟩ := List.mem_iff_getElem.1 hb
      rw [List.getElem_drop]
      exact cmpK_tr hj1 (h2 _ _ (by omega))
theorem putsE_from : ∀ (L M : List Ev), SortedW M → SortedW (L.foldl putE M) ∧ (L.foldl putE M).Perm (M ++ L)
  | [], M, h => ⟨h, by simp⟩
  | e :: L, M, h => by
    obtain ⟨h1, h2⟩ := putsE_from L (putE M e) (putE_sortedW h e)
    refine ⟨h1, h2.trans ?_⟩
    refine ((putE_perm M e).append_right L).trans ?_
    show (e :: (M ++ L)).Perm _
    exact List.perm_middle.symm
theorem putsE_sorted (L : List Ev) : SortedW (putsE L) := (putsE_from L [] List.Pairwise.nil).1
theorem putsE_perm (L : List Ev) : (putsE L).Perm L := by unfold putsE; simpa using (putsE_from L [] List.Pairwise.nil).2
theorem putsE_snoc (L : List Ev) (k : Nat) (hk : k < L.length) : putsE (L.take (k + 1)) = putE (putsE (L.take k)) L[k] := by
  unfold putsE
  rw [List.take_succ_eq_append_getElem hk, List.foldl_append]
  rfl
theorem risingF_pair : ∀ (l : List Key4) (a : Key4), risingF a l = true → (∀ k ∈ l, a.Lt k) ∧ l.Pairwise Key4.Lt
  | [], _, _ => ⟨by simp, List.Pairwise.nil⟩
  | x :: r, a, h => by
    unfold risingF at h
    simp only [Bool.and_eq_true, decide_eq_true_eq] at h
    obtain ⟨h1, h2⟩ := risingF_pair r x h.2.2
    have hx := (cmpK_neg a x).1 h.2.1
    refine ⟨fun k hk => ?_, List.pairwise_cons.2 ⟨h1, h2⟩⟩
    rcases List.mem_cons.1 hk with rfl | hk
    · exact hx
    · exact hx.trans (h1 k hk)
theorem rising_iff {L : List Ev} (hok : ∀ e ∈ L, evOk e = true) : risingF key0 (L.map Ev.key) = true ↔ SortedE L := by
  refine ⟨fun h => ?_, fun h => risingF_sorted L key0 h hok (fun e he => (cmpK_neg _ _).1 (key0_lt (evOk_key (hok e he))))⟩
  exact List.pairwise_map.1 (risingF_pair _ _ h).2
theorem sortedE_iff {L : List Ev} (h : SortedW L) : SortedE L ↔ (L.map Ev.key).Nodup := by
  unfold List.Nodup
  rw [List.pairwise_map]
  refine ⟨fun hs => hs.imp fun hab e => ?_, fun hn => ?_⟩
  · rw [e] at hab
    exact hab.irrefl
  · refine (h.and hn).imp fun {a b} ⟨hle, hne⟩ => ?_
    rw [← cmpK_neg]
    have : cmpK a.key b.key ≠ 0 := fun e => hne ((cmpK_zero _ _).1 e)
    omega
theorem sorts_one {L M : List Ev} (hp : L.Perm M) (hL : SortedW L) (hM : SortedW M) (hs : SortedE L) : L = M := by
  have hm : SortedE M := (sortedE_iff hM).2 (((hp.map Ev.key).nodup_iff).1 ((sortedE_iff hL).1 hs))
  exact List.Perm.eq_of_pairwise (fun a b _ _ h1 h2 => ((h1.trans h2).irrefl).elim) hs hm hp
theorem rising_perm {L M : List Ev} (hok : ∀ e ∈ M, evOk e = true) (hp : L.Perm M) (hL : SortedW L) (hM : SortedW M) : risingF key0 (L.map Ev.key) = risingF key0 (M.map Ev.key) := by
  have hok' : ∀ e ∈ L, evOk e = true := fun e he => hok e (hp.mem_iff.1 he)
  rw [Bool.eq_iff_iff, rising_iff hok, rising_iff hok', sortedE_iff hL, sortedE_iff hM, (hp.map Ev.key).nodup_iff]
theorem all_perm {L M : List Ev} (hp : L.Perm M) : L.all evOk = M.all evOk := by
  rw [Bool.eq_iff_iff, List.all_eq_true, List.all_eq_true]
  exact ⟨fun h e he => h e (hp.mem_iff.2 he), fun h e he => h e (hp.mem_iff.1 he)⟩
/-- What Sort answers: the events, the error. -/
def sortL (L : List Ev) : List Ev := if L.all evOk = true then (if L.length ≤ 64 then (if risingF key0 ((putsE L).map Ev.key) = true then putsE L else []) else []) else []
def sortZ (L : List Ev) : Int := if L.all evOk = true then (if L.length ≤ 64 then (if risingF key0 ((putsE L).map Ev.key) = true then 0 else 7) else 5) else 1
end Go.Proofs.Yteccmklacgpodaa
