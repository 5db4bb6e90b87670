/-
  Can commands be? Plain: the program's way, the document's way, and that they answer alike.
-/
import Derived.Test.YteccmklacgpodaaLgP
namespace Go.Proofs.Yteccmklacgpodaa
open Go.RowKit
/-- The entries, and the keys that are committed. -/
abbrev San := List Ev × List Key4
def stepS (s : San) (c : Cm) : Option San :=
  if c.e.key ∈ s.2 ∨ c.late < 0 then none
  else if c.kind = 1 then (if (findS s.1 c.e.key).isSome = true then none else some (c.e :: dropK s.1 c.e.key, s.2))
  else if c.kind = 2 then (if (findS s.1 c.e.key).isSome = true then some (c.e :: dropK s.1 c.e.key, s.2) else none)
  else if c.kind = 3 then (if (findS s.1 c.e.key).isSome = true then some (dropK s.1 c.e.key, s.2) else none)
  else if c.kind = 4 then (if (findS s.1 c.e.key).isSome = c.played ∧ ((findS s.1 c.e.key).isSome = false ∨ findS s.1 c.e.key = some c.e) then some (dropK s.1 c.e.key, c.e.key :: s.2) else none)
  else none
def foldS : San → List Cm → Option San
  | s, [] => some s
  | s, c :: r => match stepS s c with | none => none | some s' => foldS s' r
def saneF (l : List Cm) : Bool := (foldS ([], []) l).isSome
theorem foldS_snoc : ∀ (l : List Cm) (s s' : San) (c : Cm), foldS s l = some s' → foldS s (l ++ [c]) = stepS s' c
  | [], s, s', c, h => by
    simp only [foldS, Option.some.injEq] at h
    subst h
    show foldS s [c] = stepS s c
    unfold foldS
    cases stepS s c <;> rfl
  | d :: r, s, s', c, h => by
    unfold foldS at h
    rw [List.cons_append]
    unfold foldS
    cases hd : stepS s d with
    | none => rw [hd] at h; cases h
    | some t =>
      rw [hd] at h
      exact foldS_snoc r t s' c h
theorem foldS_none : ∀ (l r : List Cm) (s : San), foldS s l = none → foldS s (l ++ r) = none
  | [], _, _, h => by simp [foldS] at h
  | d :: l, r, s, h => by
    unfold foldS at h
    rw [List.cons_append]
    unfold foldS
    cases hd : stepS s d with
    | none => rfl
    | some t =>
      rw [hd] at h
      exact foldS_none l r t h
theorem storeL_cons {S : List Ev} (hn : ((prs S).map fun p => p.1.val).Nodup) (e : Ev) : StoreL (prs S) (prs (e :: dropK S e.key)) e := by
  refine ⟨fun p hp => ?_, fun p hp hne => ?_, mem_prs.2 ⟨by simp, rfl⟩, ?_⟩
  · rw [mem_prs] at hp
    rcases List.mem_cons.1 hp.1 with h1 | h1
    · left
      rw [← h1, ← hp.2]
    · right
      rw [mem_dropK] at h1
      exact ⟨mem_prs.2 ⟨h1.1, hp.2⟩, fun e => h1.2 (by rw [← hp.2]; exact keyV_inj e)⟩
  · rw [mem_prs] at hp ⊢
    exact ⟨List.mem_cons_of_mem _ (mem_dropK.2 ⟨hp.1, fun e => hne (by rw [hp.2, e])⟩), hp.2⟩
  · have h1 : ((prs (dropK S e.key)).map fun p => p.1.val).Sublist ((prs S).map fun p => p.1.val) := by
      unfold prs dropK
      exact (List.filter_sublist.map _).map _
    show (_ :: (prs (dropK S e.key)).map fun p => p.1.val).Nodup
    refine List.nodup_cons.2 ⟨fun hm => ?_, hn.sublist h1⟩
    obtain ⟨p, hp, he⟩ := List.mem_map.1 hm
    exact ((prs_drop p).1 hp).2 he
theorem drop_nodup {S : List Ev} (hn : ((prs S).map fun p => p.1.val).Nodup) (k : Key4) : ((prs (dropK S k)).map fun p => p.1.val).Nodup := by
  have h1 : ((prs (dropK S k)).map fun p => p.1.val).Sublist ((prs S).map fun p => p.1.val) := by
    unfold prs dropK
    exact (List.filter_sublist.map _).map _
  exact hn.sublist h1
/-- The document's way: what the commands ahead tell of a key; nothing, if it is committed. -/
def docS (k : Key4) (s : Option (Bool × Ev)) (c : Cm) : Option (Bool × Ev) :=
  match s with
  | none => none
  | some p => if c.e.key = k then (if c.kind = 4 then none else some (!decide (c.kind = 3), c.e)) else some p
def docF (P : List Cm) (k : Key4) : Option (Bool × Ev) := P.foldl (docS k) (some (false, zeroE))
def badC (c : Cm) (has : Bool) (is : Ev) : Bool :=
  decide (c.late < 0) || (decide (c.kind < 1) || (decide (4 < c.kind) || (decide (c.kind = 1) && has || ((decide (c.kind = 2) || decide (c.kind = 3)) && !has || decide (c.kind = 4) && ((has != c.played) || has && !decide (is = c.e))))))
def okD (P : List Cm) (c : Cm) : Bool := match docF P c.e.key with | none => false | some p => !badC c p.1 p.2
def saneD (l : List Cm) : Bool := (List.range l.length).all fun i => match l[i]? with | none => true | some c => okD (l.take i) c
/-- What the commands ahead tell is what the maps hold. -/
def SanR (P : List Cm) (s : San) : Prop := ∀ k, (k ∈ s.2 → docF P k = none) ∧ (k ∉ s.2 → ∃ is, docF P k = some ((findS s.1 k).isSome, is) ∧ ∀ e, findS s.1 k = some e → is = e)
theorem findS_cons (e : Ev) (S : List Ev) (k : Key4) : findS (e :: S) k = if e.key = k then some e else findS S k := by
  unfold findS
  rw [List.find?_cons]
  by_cases h : e.key = k
  · simp [h]
  · simp [h]
theorem findS_drop (S : List Ev) (k j : Key4) : findS (dropK S k) j = if j = k then none else findS S j := by
  by_cases h : j = k
  · subst h
    rw [if_pos rfl, findS_none]
    intro x hx
    exact (mem_dropK.1 hx).2
  · rw [if_neg h]
    unfold findS dropK
    rw [List.find?_filter]
    congr 1
    funext x
    by_cases hx : x.key = j
    · have : x.key ≠ k := fun e => h (by rw [← hx, e])
      simp [hx, h]
    · simp [hx]
theorem docF_snoc (P : List Cm) (c : Cm) (k : Key4) : docF (P ++ [c]) k = docS k (docF P k) c := by
  unfold docF
  rw [List.foldl_append]
  rfl
theorem sanR_step {P : List Cm} {s s' : San} {c : Cm} (h : SanR P s) (hs : stepS s c = some s') : SanR (P ++ [c]) s' := by
  intro k
  obtain ⟨h1, h2⟩ := h k
  rw [docF_snoc]
  unfold stepS at hs
  split at hs
  · cases hs
  · rename_i hnd
    have hnd2 : c.e.key ∉ s.2 := fun e => hnd (.inl e)
    by_cases hk : c.e.key = k
    · subst hk
      obtain ⟨is, e1, e2⟩ := h2 hnd2
      rw [e1]
      unfold docS
      dsimp only
      rw [if_pos rfl]
      split at hs
      · rename_i hk1
        split at hs
        · cases hs
        · cases hs
          refine ⟨fun hm => absurd hm hnd2, fun _ => ⟨c.e, ?_, fun e he => ?_⟩⟩
          · rw [findS_cons, if_pos rfl]; simp [hk1]
          · rw [findS_cons, if_pos rfl] at he; exact Option.some.inj he
      · split at hs
        · rename_i hk2
          split at hs
          · cases hs
            refine ⟨fun hm => absurd hm hnd2, fun _ => ⟨c.e, ?_, fun e he => ?_⟩⟩
            · rw [findS_cons, if_pos rfl]; simp [hk2]
            · rw [findS_cons, if_pos rfl] at he; exact Option.some.inj he
          · cases hs
        · split at hs
          · rename_i hk3
            split at hs
            · cases hs
              refine ⟨fun hm => absurd hm hnd2, fun _ => ⟨c.e, ?_, fun e he => ?_⟩⟩
              · rw [findS_drop, if_pos rfl]; simp [hk3]
              · rw [findS_drop, if_pos rfl] at he; cases he
            · cases hs
          · split at hs
            · rename_i hk4
              split at hs
              · cases hs
                refine ⟨fun _ => by simp [hk4], fun hm => absurd (by simp) hm⟩
              · cases hs
            · cases hs
    · have hd : docS k (docF P k) c = docF P k := by
        unfold docS
        cases docF P k with
        | none => rfl
        | some p => dsimp only; rw [if_neg hk]
      rw [hd]
      have hkk : ¬ k = c.e.key := fun e => hk e.symm
      have hm4 : k ∈ c.e.key :: s.2 ↔ k ∈ s.2 := by simp [hkk]
      split at hs
      · split at hs
        · cases hs
        · cases hs
          rw [findS_cons, if_neg hk, findS_drop, if_neg hkk]
          exact ⟨h1, h2⟩
      · split at hs
        · split at hs
          · cases hs
            rw [findS_cons, if_neg hk, findS_drop, if_neg hkk]
            exact ⟨h1, h2⟩
          · cases hs
        · split at hs
          · split at hs
            · cases hs
              rw [findS_drop, if_neg hkk]
              exact ⟨h1, h2⟩
            · cases hs
          · split at hs
            · split at hs
              · cases hs
                dsimp only
                rw [findS_drop, if_neg hkk, hm4]
                exact ⟨h1, h2⟩
              · cases hs
            · cases hs
theorem okD_step {P : List Cm} {s : San} (h : SanR P s) (c : Cm) : okD P c = (stepS s c).isSome := by
  obtain ⟨h1, h2⟩ := h c.e.key
  unfold okD stepS
  by_cases hd : c.e.key ∈ s.2
  · rw [h1 hd, if_pos (.inl hd)]
    rfl
  · obtain ⟨is, e1, e2⟩ := h2 hd
    rw [e1]
    dsimp only
    obtain ⟨fs, hfs⟩ : ∃ fs, findS s.1 c.e.key = fs := ⟨_, rfl⟩
    rw [hfs] at e2 ⊢
    unfold badC
    by_cases hl : c.late < 0
    · rw [if_pos (.inr hl), decide_eq_true hl]
      rfl
    · rw [if_neg (by rintro (h | h); exact hd h; exact hl h), decide_eq_false hl, Bool.false_or]
      by_cases k1 : c.kind = 1
      · rw [if_pos k1, k1]
        cases fs <;> simp
      · rw [if_neg k1]
        by_cases k2 : c.kind = 2
        · rw [if_pos k2, k2]
          cases fs <;> simp
        · rw [if_neg k2]
          by_cases k3 : c.kind = 3
          · rw [if_pos k3, k3]
            cases fs <;> simp
          · rw [if_neg k3]
            by_cases k4 : c.kind = 4
            · rw [if_pos k4, k4]
              cases fs with
              | none => cases c.played <;> simp
              | some z =>
                have := e2 z rfl
                subst this
                by_cases hz : is = c.e
                · cases hp : c.played <;> simp [hz]
                · cases hp : c.played <;> simp [hz]
            · rw [if_neg k4]
              by_cases k5 : c.kind < 1
              · simp [k5]
              · have k6 : 4 < c.kind := by omega
                simp [k6]
theorem sanR_nil : SanR [] ([], []) := fun k => ⟨fun h => by simp at h, fun _ => ⟨zeroE, rfl, fun e he => by simp [findS] at he⟩⟩
theorem fold_rel : ∀ (l P : List Cm) (s : San), SanR P s → (foldS s l).isSome = (List.range l.length).all fun i => match l[i]? with | none => true | some c => okD (P ++ l.take i) c
  | [], _, _, _ => rfl
  | c :: r, P, s, h => by
    have ho := okD_step h c
    rw [List.length_cons, List.range_succ_eq_map, List.all_cons, List.all_map]
    simp only [List.getElem?_cons_zero, List.take_zero, List.append_nil]
    unfold foldS
    cases hs : stepS s c with
    | none =>
      rw [hs] at ho
      simp [ho]
    | some s' =>
      rw [hs] at ho
      have ih := fold_rel r (P ++ [c]) s' (sanR_step h hs)
      dsimp only
      rw [ih, ho]
      simp only [Option.isSome_some, Bool.true_and]
      congr 1
      funext i
      simp
theorem sane_same (l : List Cm) : saneF l = saneD l := by
  have := fold_rel l [] ([], []) sanR_nil
  unfold saneF saneD
  rw [this]
  simp
end Go.Proofs.Yteccmklacgpodaa
