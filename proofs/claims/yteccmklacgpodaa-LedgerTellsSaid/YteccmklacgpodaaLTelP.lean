/-
  What is told is heard, plain.
-/
import Derived.Test.YteccmklacgpodaaLCom
namespace Go.Proofs.Yteccmklacgpodaa
open Go.RowKit
theorem argB_of {evs : List Ev} {f now : Int} (h : argB evs f now = true) : orderedB evs = true ∧ (∀ e ∈ evs, evOk e = true ∧ e.frame = f) ∧ f ≤ now ∧ now ≤ 1073741824 := by
  unfold argB otherB at h
  simp only [Bool.and_eq_true, Bool.not_eq_true', decide_eq_true_eq, List.any_eq_false, decide_eq_false_iff_not] at h
  refine ⟨h.1, fun e he => ⟨?_, ?_⟩, h.2.2.1, h.2.2.2⟩
  · have := h.1
    unfold orderedB at this
    simp only [Bool.and_eq_true, List.all_eq_true] at this
    exact this.2.1 e he
  · have := h.2.1 e he
    simpa using this
theorem fitsE_zero {halt : Bool} {com : Int} {evs : List Ev} {f now : Int} (h : fitsE halt com evs f now = 0) : halt = false ∧ argB evs f now = true ∧ com < f := by
  unfold fitsE at h
  split at h
  · cases h
  · rename_i hh
    split at h
    · rename_i ha
      split at h
      · cases h
      · exact ⟨by simpa using hh, ha, by omega⟩
    · cases h
theorem fitsE_again {com : Int} {evs : List Ev} {f now : Int} (h : argB evs f now = true) (hc : com < f) : fitsE false com evs f now = 0 := by
  unfold fitsE
  rw [if_neg (by decide), if_pos h, if_neg (by omega)]
theorem mem_startS {most now : Int} {s : Sc} (h : LvOk s.1) {e : Ev} (hr : (s.1.length : Int) < most) (x : Ev) : x ∈ (startS most now s e).1 ↔ x = e ∨ (x ∈ s.1 ∧ x.key ≠ e.key) := by
  unfold startS
  cases hf : findS s.1 e.key with
  | some z =>
    obtain ⟨hz, hk⟩ := findS_some hf
    dsimp only
    by_cases he : z = e
    · rw [if_pos he]
      subst he
      constructor
      · intro hx
        by_cases hk : x.key = z.key
        · left
          have := findS_mem h.sorted hx
          rw [hk, hf] at this
          exact (Option.some.inj this).symm
        · exact .inr ⟨hx, hk⟩
      · rintro (rfl | ⟨hx, -⟩)
        · exact hz
        · exact hx
    · rw [if_neg he]
      dsimp only
      rw [(putE_perm _ _).mem_iff, List.mem_cons, mem_dropK]
  | none =>
    have hn := findS_none.1 hf
    dsimp only
    rw [if_pos hr]
    dsimp only
    rw [(putE_perm _ _).mem_iff, List.mem_cons]
    exact or_congr_right ⟨fun hx => ⟨hx, hn x hx⟩, fun hx => hx.1⟩
theorem startS_len {most now : Int} {s : Sc} (e : Ev) : (startS most now s e).1.length ≤ s.1.length + 1 := by
  unfold startS
  cases hf : findS s.1 e.key with
  | some z =>
    have := dropK_le s.1 e.key
    dsimp only
    split
    · omega
    · dsimp only; rw [putE_length]; omega
  | none =>
    dsimp only
    split
    · dsimp only; rw [putE_length]; omega
    · omega
theorem mem_start_fold {most now : Int} : ∀ (L : List Ev) (s : Sc), LvOk s.1 → (∀ e ∈ L, evOk e = true) → (L.map Ev.key).Nodup → ((s.1.length + L.length : Nat) : Int) ≤ most → ∀ x, x ∈ (L.foldl (startS most now) s).1 ↔ x ∈ L ∨ (x ∈ s.1 ∧ ∀ e ∈ L, x.key ≠ e.key)
  | [], s, _, _, _, _, x => by simp
  | o :: L, s, h, ho, hn, hm, x => by
    rw [List.map_cons, List.nodup_cons] at hn
    rw [List.length_cons] at hm
    have hl := startS_len (most := most) (now := now) (s := s) o
    rw [List.foldl_cons, mem_start_fold L _ (startS_ok h (ho o (by simp))) (fun e he => ho e (by simp [he])) hn.2 (by omega), mem_startS h (by omega)]
    constructor
    · rintro (hx | ⟨rfl | ⟨hx, hk⟩, hL⟩)
      · exact .inl (by simp [hx])
      · exact .inl (by simp)
      · refine .inr ⟨hx, fun e he => ?_⟩
        rcases List.mem_cons.1 he with rfl | he
        · exact hk
        · exact hL e he
    · rintro (hx | ⟨hx, hL⟩)
      · rcases List.mem_cons.1 hx with rfl | hx
        · refine .inr ⟨.inl rfl, fun e he hk => hn.1 ?_⟩
          rw [hk]
          exact List.mem_map.2 ⟨e, he, rfl⟩
        · exact .inl hx
      · exact .inr ⟨.inr ⟨hx, hL o (by simp)⟩, fun e he => hL e (by simp [he])⟩
theorem cancel_sub (evs : List Ev) : ∀ (O : List Ev) (s : Sc) (x : Ev), x ∈ (O.foldl (cancelS evs) s).1 → x ∈ s.1 ∧ (x ∈ O → staysE evs x = true)
  | [], s, x, h => ⟨h, by simp⟩
  | o :: O, s, x, h => by
    rw [List.foldl_cons] at h
    obtain ⟨h1, h2⟩ := cancel_sub evs O _ x h
    unfold cancelS at h1
    split at h1
    · rename_i hs
      refine ⟨h1, fun hx => ?_⟩
      rcases List.mem_cons.1 hx with rfl | hx
      · exact hs
      · exact h2 hx
    · rename_i hs
      obtain ⟨h3, h4⟩ := mem_dropK.1 h1
      refine ⟨h3, fun hx => ?_⟩
      rcases List.mem_cons.1 hx with rfl | hx
      · exact absurd rfl h4
      · exact h2 hx
/-- As long as there is room, what is told is heard. -/
theorem tell_heard {most now : Int} {evs : List Ev} {f : Int} {S : List Ev} (hS : LvOk S) (ho : orderedB evs = true) (hf : ∀ e ∈ evs, evOk e = true ∧ e.frame = f) (hr : ((S.length + evs.length : Nat) : Int) ≤ most) : ofF f (tellF most now evs f S).1 = evs := by
  have hse := ordered_sorted ho
  obtain ⟨c1, c2, -⟩ := cancelF_ok (evs := evs) (f := f) hS
  have hnd := (sortedE_iff (sortedW_of hse)).1 hse
  have hmem : ∀ x, x ∈ ofF f (tellF most now evs f S).1 ↔ x ∈ evs := fun x => by
    unfold ofF
    rw [List.mem_filter]
    unfold tellF
    rw [mem_start_fold evs _ c1 (fun e he => (hf e he).1) hnd (by omega)]
    constructor
    · rintro ⟨hx | ⟨hx, hk⟩, hfr⟩
      · exact hx
      · obtain ⟨h1, h2⟩ := cancel_sub evs _ _ x hx
        have := h2 (List.mem_filter.2 ⟨h1, hfr⟩)
        unfold staysE at this
        obtain ⟨e, he, hke⟩ := List.any_eq_true.1 this
        simp only [Bool.and_eq_true, decide_eq_true_eq] at hke
        exact absurd hke.1.symm (hk e he)
    · intro hx
      exact ⟨.inl hx, by simpa using (hf x hx).2⟩
  have hok := (start_fold most now evs (cancelF evs f S) c1 (fun e he => (hf e he).1)).1
  have hs' : SortedE (ofF f (tellF most now evs f S).1) := (hok.filter _).sorted
  have hn1 : (ofF f (tellF most now evs f S).1).Nodup := by
    have := (sortedE_iff (sortedW_of hs')).1 hs'
    unfold List.Nodup at this ⊢
    rw [List.pairwise_map] at this
    exact this.imp fun h e => h (by rw [e])
  have hn2 : evs.Nodup := by
    unfold List.Nodup at hnd ⊢
    rw [List.pairwise_map] at hnd
    exact hnd.imp fun h e => h (by rw [e])
  exact sorts_one ((List.perm_ext_iff_of_nodup hn1 hn2).2 hmem) (sortedW_of hs') (sortedW_of hse) hs'
theorem stays_self {evs : List Ev} {o : Ev} (h : o ∈ evs) : staysE evs o = true := by
  unfold staysE
  refine List.any_eq_true.2 ⟨o, h, ?_⟩
  unfold likeE
  simp
theorem cancel_none (evs : List Ev) : ∀ (O : List Ev) (s : Sc), (∀ o ∈ O, o ∈ evs) → O.foldl (cancelS evs) s = s
  | [], _, _ => rfl
  | o :: O, s, h => by
    have : cancelS evs s o = s := by unfold cancelS; rw [if_pos (stays_self (h o (by simp)))]
    rw [List.foldl_cons, this]
    exact cancel_none evs O s (fun x hx => h x (by simp [hx]))
theorem start_none {most now : Int} : ∀ (L : List Ev) (s : Sc), SortedE s.1 → (∀ e ∈ L, e ∈ s.1) → L.foldl (startS most now) s = s
  | [], _, _, _ => rfl
  | o :: L, s, hs, h => by
    have : startS most now s o = s := by
      unfold startS
      rw [findS_mem hs (h o (by simp))]
      simp
    rw [List.foldl_cons, this]
    exact start_none L s hs (fun x hx => h x (by simp [hx]))
/-- Told again nothing comes of it. -/
theorem tell_again {most now : Int} {evs : List Ev} {f : Int} {S : List Ev} (hS : LvOk S) (h : ofF f S = evs) : tellF most now evs f S = (S, []) := by
  have hc : cancelF evs f S = (S, []) := by
    unfold cancelF
    rw [h]
    exact cancel_none evs evs _ (fun o ho => ho)
  unfold tellF
  rw [hc]
  refine start_none evs (S, []) hS.sorted (fun e he => ?_)
  rw [← h] at he
  exact (List.mem_filter.1 he).1
theorem setT_ok {T : List TEnt} (h : TOk T) {f : Int} {v : Value} {evs : List Ev} (he : ∀ e ∈ evs, evOk e = true) (hl : evs.length ≤ 64) : TOk (setT T f v evs) := fun p hp => by
  rcases setT_1 p hp with rfl | ⟨hp, -⟩
  · exact ⟨he, hl⟩
  · exact h p hp
theorem setT_len (T : List TEnt) (f : Int) (v : Value) (evs : List Ev) : (setT T f v evs).length ≤ T.length + 1 := by
  unfold setT
  rw [List.length_cons]
  have := List.length_filter_le (fun p : TEnt => !decide (p.1 = f)) T
  omega
theorem delT_ok {T : List TEnt} (h : TOk T) (f : Int) : TOk (delT T f) := fun p hp => h p ((delT_1 p).1 hp).1
theorem delT_len (T : List TEnt) (f : Int) : (delT T f).length ≤ T.length := List.length_filter_le _ _
theorem commitF_ok {S : List Ev} (h : LvOk S) (evs : List Ev) : LvOk (commitF evs S).1 ∧ (commitF evs S).1.length ≤ S.length := by
  obtain ⟨h1, h2, -⟩ := commit_fold evs (S, []) h
  exact ⟨h1, h2⟩
end Go.Proofs.Yteccmklacgpodaa
