/-
  The best cuts, plain: by weight, as long as frames are left; the document's search for the heaviest one, round by round, finds them in that order.
-/
import Derived.Test.YtaegekfdbhmcaaaDoorReelInside
namespace Go.Proofs.YtaegekfdbhmcaaaDoor
def cutDec (a b : Cut) : Decidable (a = b) := decidable_of_iff (a.frm = b.frm ∧ a.to_ = b.to_ ∧ a.weight = b.weight) (by cases a; cases b; simp)
instance : DecidableEq Cut := cutDec
def cmpI (a b : Int) : Int := if a < b then -1 else if b < a then 1 else 0
def orI : List Int → Int
  | [] => 0
  | x :: l => if x = 0 then orI l else x
/-- The heaviest first; of like ones that which begins first. -/
def heav (a b : Cut) : Int := if cmpI b.weight a.weight ≠ 0 then cmpI b.weight a.weight else cmpI a.frm b.frm
theorem heav_lt (a b : Cut) : heav a b < 0 ↔ (b.weight < a.weight ∨ (b.weight = a.weight ∧ a.frm < b.frm)) := by
  unfold heav cmpI
  repeat' split
  all_goals omega
theorem heav_le (a b : Cut) : heav a b ≤ 0 ↔ (b.weight < a.weight ∨ (b.weight = a.weight ∧ a.frm ≤ b.frm)) := by
  unfold heav cmpI
  repeat' split
  all_goals omega
theorem heav_swap (a b : Cut) : heav b a = -heav a b := by
  unfold heav cmpI
  repeat' split
  all_goals omega
theorem nodup_at {α : Type _} {l : List α} (h : l.Nodup) {i j : Nat} {hi : i < l.length} {hj : j < l.length} (e : l[i] = l[j]) : i = j := by
  rcases Nat.lt_trichotomy i j with hlt | rfl | hgt
  · exact absurd e (List.pairwise_iff_getElem.1 h i j hi hj hlt)
  · rfl
  · exact absurd e.symm (List.pairwise_iff_getElem.1 h j i hj hi hgt)
theorem sum_perm {l m : List Int} (h : l.Perm m) : l.sum = m.sum := by
  induction h with
  | nil => rfl
  | cons x _ ih => simp [ih]
  | swap x y l => simp only [List.sum_cons]; omega
  | trans _ _ i1 i2 => exact i1.trans i2
def gStep (s : List Cut × Int) (c : Cut) : List Cut × Int := if c.to_ - c.frm ≤ s.2 then (s.1 ++ [c], s.2 - (c.to_ - c.frm)) else s
def greedy (f : Int) (M : List Cut) : List Cut × Int := M.foldl gStep ([], f)
theorem greedy_snoc (f : Int) (M : List Cut) (c : Cut) : greedy f (M ++ [c]) = gStep (greedy f M) c := by unfold greedy; rw [List.foldl_append]; rfl
theorem greedy_take (f : Int) (M : List Cut) (k : Nat) (h : k < M.length) : greedy f (M.take (k + 1)) = gStep (greedy f (M.take k)) M[k] := by
  rw [List.take_succ_eq_append_getElem h, greedy_snoc]
theorem foldl_sub (M : List Cut) : ∀ (s : List Cut × Int), ∃ G, G.Sublist M ∧ (M.foldl gStep s).1 = s.1 ++ G := by
  induction M with
  | nil => exact fun s => ⟨[], List.Sublist.refl _, by simp⟩
  | cons c M ih =>
    intro s
    obtain ⟨G, h1, h2⟩ := ih (gStep s c)
    rw [List.foldl_cons, h2]
    unfold gStep
    split
    · exact ⟨c :: G, h1.cons_cons c, by simp⟩
    · exact ⟨G, h1.cons c, rfl⟩
theorem greedy_sub (f : Int) (M : List Cut) : (greedy f M).1.Sublist M := by
  obtain ⟨G, h1, h2⟩ := foldl_sub M ([], f)
  unfold greedy
  rw [h2]
  simpa using h1
theorem greedy_bd (f : Int) (hf : 0 ≤ f) : ∀ (M : List Cut), (∀ c ∈ M, c.frm ≤ c.to_) → 0 ≤ (greedy f M).2 ∧ (greedy f M).2 ≤ f ∧ lengthOf (greedy f M).1 = f - (greedy f M).2 := by
  intro M
  suffices h : ∀ (s : List Cut × Int), 0 ≤ s.2 → s.2 ≤ f → lengthOf s.1 = f - s.2 → (∀ c ∈ M, c.frm ≤ c.to_) → 0 ≤ (M.foldl gStep s).2 ∧ (M.foldl gStep s).2 ≤ f ∧ lengthOf (M.foldl gStep s).1 = f - (M.foldl gStep s).2 by
    exact h ([], f) hf (Int.le_refl _) (by simp [lengthOf])
  induction M with
  | nil => exact fun s h1 h2 h3 _ => ⟨h1, h2, h3⟩
  | cons c M ih =>
    intro s h1 h2 h3 hc
    have h4 := hc c (by simp)
    rw [List.foldl_cons]
    refine ih _ ?_ ?_ ?_ (fun x hx => hc x (by simp [hx])) <;> unfold gStep <;> split <;> (try simp only) <;> try omega
    simp only [lengthOf, List.map_append, List.sum_append, List.map_cons, List.map_nil, List.sum_cons, List.sum_nil] at h3 ⊢
    omega
theorem rightL_pair : ∀ (L : List Cut) (z : Int), RightL z L → (∀ c ∈ L, z < c.frm ∧ c.frm < c.to_ ∧ c.to_ ≤ 1073741824 ∧ 0 ≤ c.weight ∧ c.weight ≤ 1073741824) ∧ L.Pairwise (fun a b => a.frm < b.frm)
  | [], _, _ => ⟨by simp, List.Pairwise.nil⟩
  | c :: L, z, h => by
    obtain ⟨h1, h2, h3, h4, h5, h6⟩ := h
    obtain ⟨i1, i2⟩ := rightL_pair L c.to_ h6
    refine ⟨fun x hx => ?_, List.pairwise_cons.2 ⟨fun x hx => ?_, i2⟩⟩
    · rcases List.mem_cons.1 hx with rfl | hx
      · exact ⟨h1, h2, h3, h4, h5⟩
      · have := i1 x hx
        omega
    · have := i1 x hx
      omega
theorem pair_inj {L : List Cut} (h : L.Pairwise (fun a b => a.frm < b.frm)) {a b : Cut} (ha : a ∈ L) (hb : b ∈ L) (he : a.frm = b.frm) : a = b := by
  obtain ⟨i, hi, rfl⟩ := List.mem_iff_getElem.1 ha
  obtain ⟨j, hj, rfl⟩ := List.mem_iff_getElem.1 hb
  rcases Nat.lt_trichotomy i j with hij | rfl | hij
  · have := List.pairwise_iff_getElem.1 h i j hi hj hij; omega
  · rfl
  · have := List.pairwise_iff_getElem.1 h j i hj hi hij; omega
theorem pair_nodup {L : List Cut} (h : L.Pairwise (fun a b => a.frm < b.frm)) : L.Nodup := h.imp fun {a b} hab e => by rw [e] at hab; omega
/-- All by weight. -/
def heavL (L : List Cut) : List Cut := L.mergeSort (fun a b => decide (heav a b ≤ 0))
theorem heavL_perm (L : List Cut) : (heavL L).Perm L := List.mergeSort_perm _ _
theorem heavL_sorted (L : List Cut) : (heavL L).Pairwise (fun a b => heav a b ≤ 0) := by
  have := List.pairwise_mergeSort (le := fun a b => decide (heav a b ≤ 0)) (fun a b c h1 h2 => by
    rw [decide_eq_true_eq, heav_le] at *; omega) (fun a b => by
    rw [Bool.or_eq_true, decide_eq_true_eq, decide_eq_true_eq, heav_le, heav_le]; omega) L
  exact this.imp fun h => by simpa using h
theorem heav_one {L M N : List Cut} (h : L.Pairwise (fun a b => a.frm < b.frm)) (hM : M.Perm L) (hN : N.Perm L) (sM : M.Pairwise (fun a b => heav a b ≤ 0)) (sN : N.Pairwise (fun a b => heav a b ≤ 0)) : M = N :=
  List.Perm.eq_of_pairwise (fun a b ha hb h1 h2 => pair_inj h (hM.mem_iff.1 ha) (hN.mem_iff.1 hb) (by rw [heav_le] at *; omega)) sM sN (hM.trans hN.symm)
/-- The best ones, in their order. -/
def bestL (L : List Cut) (f : Int) : List Cut := L.filter (fun c => decide (c ∈ (greedy f (heavL L)).1))
theorem bestL_sub (L : List Cut) (f : Int) : (bestL L f).Sublist L := List.filter_sublist
theorem best_sorted {L G : List Cut} (f : Int) (h : L.Pairwise (fun a b => a.frm < b.frm)) (hG : G.Perm (greedy f (heavL L)).1) (sG : G.Pairwise (fun a b => a.frm ≤ b.frm)) : G = bestL L f := by
  have hnd : (greedy f (heavL L)).1.Nodup := (greedy_sub f _).nodup ((heavL_perm L).nodup_iff.2 (pair_nodup h))
  have hmem : ∀ x ∈ (greedy f (heavL L)).1, x ∈ L := fun x hx => (heavL_perm L).mem_iff.1 ((greedy_sub f _).subset hx)
  have hp : (bestL L f).Perm (greedy f (heavL L)).1 := by
    rw [List.perm_ext_iff_of_nodup ((bestL_sub L f).nodup (pair_nodup h)) hnd]
    intro x
    unfold bestL
    rw [List.mem_filter, decide_eq_true_eq]
    exact ⟨fun hx => hx.2, fun hx => ⟨hmem x hx, hx⟩⟩
  refine List.Perm.eq_of_pairwise (fun a b ha hb h1 h2 => pair_inj h (hmem a (hG.mem_iff.1 ha)) ((bestL_sub L f).subset hb) (by omega)) sG ((h.sublist (bestL_sub L f)).imp fun h => by omega) (hG.trans hp.symm)
theorem best_length {L : List Cut} (f : Int) (hf : 0 ≤ f) (hR : RightL (-1) L) : lengthOf (bestL L f) ≤ f := by
  obtain ⟨h1, h⟩ := rightL_pair L _ hR
  have hnd : (greedy f (heavL L)).1.Nodup := (greedy_sub f _).nodup ((heavL_perm L).nodup_iff.2 (pair_nodup h))
  have hmem : ∀ x ∈ (greedy f (heavL L)).1, x ∈ L := fun x hx => (heavL_perm L).mem_iff.1 ((greedy_sub f _).subset hx)
  have hp : (bestL L f).Perm (greedy f (heavL L)).1 := by
    rw [List.perm_ext_iff_of_nodup ((bestL_sub L f).nodup (pair_nodup h)) hnd]
    intro x
    unfold bestL
    rw [List.mem_filter, decide_eq_true_eq]
    exact ⟨fun hx => hx.2, fun hx => ⟨hmem x hx, hx⟩⟩
  have hb := greedy_bd f hf (heavL L) (fun c hc => by have := h1 c ((heavL_perm L).mem_iff.1 hc); omega)
  have hs : lengthOf (bestL L f) = lengthOf (greedy f (heavL L)).1 := by unfold lengthOf; exact sum_perm (hp.map _)
  omega
/-- What the document's marks say behind k rounds. -/
def markC (f : Int) (M : List Cut) (k : Nat) (c : Cut) : Int := if c ∈ (greedy f (M.take k)).1 then 1 else if c ∈ M.take k then 2 else 0
theorem markC_zero (f : Int) (M : List Cut) (k : Nat) (c : Cut) : markC f M k c = 0 ↔ c ∉ M.take k := by
  unfold markC
  have hs : c ∈ (greedy f (M.take k)).1 → c ∈ M.take k := fun h => (greedy_sub f _).subset h
  split
  · rename_i h; simp [hs h]
  · split
    · rename_i h; simp [h]
    · rename_i h; simp [h]
def marks (f : Int) (L : List Cut) (k : Nat) : List Int := L.map (markC f (heavL L) k)
/-- The search of one round. -/
def pickI (L : List Cut) (T : List Int) : Nat → Int
  | 0 => -1
  | i + 1 => if T.getD i 0 = 0 ∧ (pickI L T i < 0 ∨ (L.getD (pickI L T i).toNat ⟨0, 0, 0⟩).weight < (L.getD i ⟨0, 0, 0⟩).weight) then (i : Int) else pickI L T i
theorem pickI_bd (L : List Cut) (T : List Int) : ∀ i, -1 ≤ pickI L T i ∧ pickI L T i < i
  | 0 => by simp [pickI]
  | i + 1 => by
    have := pickI_bd L T i
    unfold pickI
    split <;> omega
theorem pickI_best (L : List Cut) (T : List Int) : ∀ i, i ≤ L.length → (pickI L T i < 0 → ∀ j, j < i → T.getD j 0 ≠ 0) ∧
    (0 ≤ pickI L T i → T.getD (pickI L T i).toNat 0 = 0 ∧ ∀ j, j < i → T.getD j 0 = 0 → (L.getD j ⟨0, 0, 0⟩).weight < (L.getD (pickI L T i).toNat ⟨0, 0, 0⟩).weight ∨ ((L.getD j ⟨0, 0, 0⟩).weight = (L.getD (pickI L T i).toNat ⟨0, 0, 0⟩).weight ∧ (pickI L T i).toNat ≤ j))
  | 0, _ => by simp [pickI]
  | i + 1, hi => by
    obtain ⟨h1, h2⟩ := pickI_best L T i (by omega)
    have hb := pickI_bd L T i
    unfold pickI
    split
    · rename_i h
      refine ⟨fun hn => by omega, fun _ => ⟨by simpa using h.1, fun j hj hz => ?_⟩⟩
      rw [Int.toNat_natCast]
      rcases Nat.lt_or_ge j i with hlt | hge
      · by_cases hn : pickI L T i < 0
        · exact absurd hz (h1 hn j hlt)
        · have h3 := (h2 (by omega)).2 j hlt hz
          have h4 := h.2
          omega
      · obtain rfl : j = i := by omega
        omega
    · rename_i h
      refine ⟨fun hn j hj => ?_, fun hp => ⟨(h2 hp).1, fun j hj hz => ?_⟩⟩
      · rcases Nat.lt_or_ge j i with hlt | hge
        · exact h1 hn j hlt
        · obtain rfl : j = i := by omega
          intro hz
          exact h ⟨hz, .inl hn⟩
      · rcases Nat.lt_or_ge j i with hlt | hge
        · exact (h2 hp).2 j hlt hz
        · obtain rfl : j = i := by omega
          have h3 : ¬ ((L.getD (pickI L T j).toNat ⟨0, 0, 0⟩).weight < (L.getD j ⟨0, 0, 0⟩).weight) := fun hlt => h ⟨hz, .inr hlt⟩
          omega
theorem pick_is {L : List Cut} (f : Int) (h : L.Pairwise (fun a b => a.frm < b.frm)) (k : Nat) (hk : k < (heavL L).length) :
    ∃ i : Nat, ∃ hi : i < L.length, pickI L (marks f L k) L.length = (i : Int) ∧ L[i] = (heavL L)[k] ∧ (marks f L k).getD i 0 = 0 := by
  have hp := heavL_perm L
  have hs := heavL_sorted L
  have hnd : (heavL L).Nodup := hp.nodup_iff.2 (pair_nodup h)
  obtain ⟨M, hM⟩ : ∃ M, heavL L = M := ⟨_, rfl⟩
  have hmk : ∀ j (hj : j < L.length), (marks f L k).getD j 0 = 0 ↔ L[j] ∉ (heavL L).take k := fun j hj => by
    rw [← markC_zero f]
    unfold marks
    simp [List.getD, List.getElem?_map, List.getElem?_eq_getElem hj]
  rw [hM] at hp hs hnd hmk
  have hk' : k < M.length := by rw [← hM]; exact hk
  have hgo : (heavL L)[k] = M[k] := by simp only [hM]
  rw [hgo]
  obtain ⟨i0, hi0, he0⟩ := List.mem_iff_getElem.1 (hp.mem_iff.1 (List.getElem_mem hk'))
  have hnot : ∀ j (hj : j < M.length), M[j] ∉ M.take k ↔ k ≤ j := fun j hj => by
    constructor
    · intro hn
      rcases Nat.lt_or_ge j k with hlt | hge
      · exact absurd (List.mem_take_iff_getElem.2 ⟨j, by omega, rfl⟩) hn
      · exact hge
    · intro hkj hm
      obtain ⟨q, hq, e⟩ := List.mem_take_iff_getElem.1 hm
      have := nodup_at hnd e
      omega
  obtain ⟨h1, h2⟩ := pickI_best L (marks f L k) L.length (Nat.le_refl _)
  have hb := pickI_bd L (marks f L k) L.length
  have hz0 : (marks f L k).getD i0 0 = 0 := (hmk i0 hi0).2 (by rw [he0]; exact (hnot k hk').2 (Nat.le_refl _))
  have hpos : 0 ≤ pickI L (marks f L k) L.length := by
    rcases Int.lt_or_le (pickI L (marks f L k) L.length) 0 with hn | hn
    · exact absurd hz0 (h1 hn i0 hi0)
    · exact hn
  obtain ⟨h3, h4⟩ := h2 hpos
  obtain ⟨i, hi⟩ := Int.eq_ofNat_of_zero_le hpos
  rw [hi] at h3 h4 hb ⊢
  rw [Int.toNat_natCast] at h3 h4
  have hil : i < L.length := by omega
  refine ⟨i, hil, rfl, ?_, h3⟩
  have h5 := h4 i0 hi0 hz0
  simp only [List.getD, List.getElem?_eq_getElem hil, List.getElem?_eq_getElem hi0, Option.getD_some] at h5
  have hix : L[i] ∉ M.take k := (hmk i hil).1 h3
  obtain ⟨q, hq, eq⟩ := List.mem_iff_getElem.1 (hp.mem_iff.2 (List.getElem_mem hil))
  have hkq : k ≤ q := (hnot q hq).1 (by rw [eq]; exact hix)
  rcases Nat.lt_or_ge k q with hlt | hge
  · have h6 := List.pairwise_iff_getElem.1 hs k q hk' hq hlt
    rw [heav_le, eq, ← he0] at h6
    have h7 : i0 = i := by
      rcases Nat.lt_trichotomy i i0 with hlt | rfl | hgt
      · have := List.pairwise_iff_getElem.1 h i i0 hil hi0 hlt; omega
      · rfl
      · omega
    subst h7
    exact he0
  · obtain rfl : q = k := by omega
    exact eq.symm
theorem marks_step {L : List Cut} (f : Int) (h : L.Pairwise (fun a b => a.frm < b.frm)) (k i : Nat) (hk : k < (heavL L).length) (hi : i < L.length) (he : L[i] = (heavL L)[k]) :
    marks f L (k + 1) = (marks f L k).set i (if L[i].to_ - L[i].frm ≤ (greedy f ((heavL L).take k)).2 then 1 else 2) ∧ (greedy f ((heavL L).take (k + 1))).2 = (if L[i].to_ - L[i].frm ≤ (greedy f ((heavL L).take k)).2 then (greedy f ((heavL L).take k)).2 - (L[i].to_ - L[i].frm) else (greedy f ((heavL L).take k)).2) := by
  have hp := heavL_perm L
  have hnd : (heavL L).Nodup := hp.nodup_iff.2 (pair_nodup h)
  have hLn := pair_nodup h
  have hg := greedy_take f (heavL L) k hk
  rw [← he] at hg
  refine ⟨?_, ?_⟩
  · refine List.ext_getElem (by simp [marks]) fun j h1 h2 => ?_
    have hj : j < L.length := by simpa [marks] using h1
    rw [List.getElem_set]
    have hin : L[i] ∉ (heavL L).take k := fun hm => by
      rw [he] at hm
      obtain ⟨q, hq, e⟩ := List.mem_take_iff_getElem.1 hm
      have := nodup_at hnd e
      omega
    have hig : L[i] ∉ (greedy f ((heavL L).take k)).1 := fun hm => hin ((greedy_sub f _).subset hm)
    simp only [marks, List.getElem_map, markC, hg]
    have htk : ∀ x, x ∈ (heavL L).take (k + 1) ↔ x ∈ (heavL L).take k ∨ x = L[i] := fun x => by
      rw [List.take_succ_eq_append_getElem hk, List.mem_append, List.mem_singleton, he]
    have hgs : ∀ x, x ∈ (gStep (greedy f ((heavL L).take k)) L[i]).1 ↔ x ∈ (greedy f ((heavL L).take k)).1 ∨ (x = L[i] ∧ L[i].to_ - L[i].frm ≤ (greedy f ((heavL L).take k)).2) := fun x => by
      unfold gStep
      split
      · rename_i hc; simp [hc]
      · rename_i hc; simp [hc]
    simp only [htk, hgs]
    by_cases hij : i = j
    · subst hij
      simp only [hig, false_or, true_and, or_true, if_true]
    · have hne : L[j] ≠ L[i] := fun e => hij (nodup_at hLn e).symm
      simp [hij, hne]
  · rw [hg]
    unfold gStep
    split <;> rfl
theorem marks_nil (f : Int) (L : List Cut) : marks f L 0 = List.replicate L.length 0 := by
  unfold marks markC greedy
  simp [List.map_const']
theorem best_marks {L : List Cut} (f : Int) : bestL L f = L.filter (fun c => decide (markC f (heavL L) (heavL L).length c = 1)) := by
  unfold bestL
  congr 1
  funext c
  unfold markC
  rw [List.take_length]
  split
  · rename_i h; simp [h]
  · rename_i h
    split <;> simp [h]
theorem idx_snoc (f : Int) (c : Cut) : ∀ (L : List Cut) (k : Nat), idxFrom f k (L ++ [c]) = if 0 ≤ idxFrom f k L then idxFrom f k L else if inOne f c then ((k + L.length : Nat) : Int) else -1
  | [], k => by simp [idxFrom]
  | x :: L, k => by
    rw [List.cons_append, idxFrom]
    have ih := idx_snoc f c L (k + 1)
    conv => rhs; unfold idxFrom
    split
    · rw [if_pos (by omega)]
    · rw [ih, List.length_cons, show k + 1 + L.length = k + (L.length + 1) by omega]
theorem ins_snoc (f : Int) (c : Cut) (L : List Cut) : insB f (L ++ [c]) = (insB f L || inOne f c) ∧ insK f (L ++ [c]) = if insB f L = true then insK f L else if inOne f c = true then (L.length : Int) else insK f L := by
  unfold insB insK
  rw [idx_snoc f c L 0, Nat.zero_add]
  by_cases h : 0 ≤ idxFrom f 0 L
  · simp [h]
  · have h2 : idxFrom f 0 L < 0 := by omega
    cases hi : inOne f c
    · simp [h]
    · simp [h]
      omega
theorem ins_take (f : Int) (L : List Cut) (k : Nat) (hk : k < L.length) : insB f (L.take (k + 1)) = (insB f (L.take k) || inOne f L[k]) ∧ insK f (L.take (k + 1)) = if insB f (L.take k) = true then insK f (L.take k) else if inOne f L[k] = true then (k : Int) else insK f (L.take k) := by
  have h := ins_snoc f L[k] (L.take k)
  rw [← List.take_succ_eq_append_getElem hk, List.length_take, Nat.min_eq_left (by omega)] at h
  exact h
end Go.Proofs.YtaegekfdbhmcaaaDoor
