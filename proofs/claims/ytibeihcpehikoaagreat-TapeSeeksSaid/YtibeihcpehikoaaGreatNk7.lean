/-
  A page's events as a plain list: an event put in its place; what stays so.
-/
import Derived.Test.YtibeihcpehikoaaGreatNk5
namespace Go.Proofs.YtibeihcpehikoaaGreat
open Go.RowKit
section
theorem found_of_mem {L : List Ev} (hs : SortedE L) {e : Ev} (he : e ∈ L) : foundK L e.key = true := by
 obtain ⟨j, hj, rfl⟩ := List.mem_iff_getElem.1 he
 have h0 : cmpK L[j].key L[j].key = 0 := (cmpK_zero _ _).2 rfl
 have h1 : ¬ j < lbK L L[j].key := fun h => by have := (lb_iff L[j].key L hs j hj).1 h; omega
 have hlt : lbK L L[j].key < L.length := by omega
 have h2 : ¬ cmpK L[lbK L L[j].key].key L[j].key < 0 := fun h => by have := (lb_iff L[j].key L hs _ hlt).2 h; omega
 have h3 : lbK L L[j].key = j := by
  rcases Nat.lt_or_ge (lbK L L[j].key) j with h | h
  ·have := List.pairwise_iff_getElem.1 hs _ _ hlt hj h
   exact absurd ((cmpK_neg _ _).2 this) h2
  ·omega
 unfold foundK
 rw [h3, List.getElem?_eq_getElem hj]
 simp [h0]
theorem mem_of_found {L : List Ev} {k : Key4} (h : foundK L k = true) : ∃ e ∈ L, e.key = k := by
 unfold foundK at h
 cases hx : L[lbK L k]? with
 | none => rw [hx] at h; simp at h
 | some e =>
  rw [hx] at h
  simp at h
  exact ⟨e, List.mem_of_getElem? hx, (cmpK_zero _ _).1 h⟩
theorem sorted_ins {L : List Ev} (hs : SortedE L) {y : Ev} (hf : foundK L y.key = false) : SortedE (insL L (lbK L y.key) y) := by
 have hlb := lb_iff y.key L hs
 have hle := lbK_le L y.key
 obtain ⟨q, hq⟩ : ∃ q, lbK L y.key = q := ⟨_, rfl⟩
 rw [hq] at hlb hle ⊢
 have hbig : ∀ j (h : j < L.length), q ≤ j → y.key.Lt L[j].key := fun j h hj => by
  have h1 : ¬ cmpK L[j].key y.key < 0 := fun e => by have := (hlb j h).2 e; omega
  have h2 : cmpK L[j].key y.key ≠ 0 := fun e => by
   have := found_of_mem hs (List.getElem_mem h)
   rw [(cmpK_zero _ _).1 e, hf] at this
   cases this
  exact (cmpK_pos _ _).1 (by omega)
 unfold SortedE insL
 rw [List.pairwise_append, List.pairwise_cons]
 refine ⟨hs.sublist (List.take_sublist _ _), ⟨fun b hb => ?_, hs.sublist (List.drop_sublist _ _)⟩, fun a ha b hb => ?_⟩
 ·obtain ⟨j, hj, rfl⟩ := List.mem_iff_getElem.1 hb
  rw [List.getElem_drop]
  exact hbig _ _ (by omega)
 ·obtain ⟨j, hj, rfl⟩ := List.mem_iff_getElem.1 ha
  rw [List.length_take] at hj
  rw [List.getElem_take]
  have hay : (L[j]'(by omega)).key.Lt y.key := (cmpK_neg _ _).1 ((hlb j (by omega)).1 (by omega))
  rcases List.mem_cons.1 hb with rfl | hb
  ·exact hay
  ·obtain ⟨i, hi, rfl⟩ := List.mem_iff_getElem.1 hb
   rw [List.getElem_drop]
   exact hay.trans (hbig _ _ (by omega))
def sameK (em kd : Int) (e : Ev) : Bool := decide (e.emitter = em) && decide (e.kind = kd)
def cntE (L : List Ev) (em kd : Int) : Nat := (L.filter (sameK em kd)).length
theorem cntE_ins (L : List Ev) (i : Nat) (y : Ev) (em kd : Int) : cntE (insL L i y) em kd = cntE L em kd + if sameK em kd y then 1 else 0 := by
 unfold cntE insL
 have e : (L.filter (sameK em kd)).length = ((L.take i).filter (sameK em kd)).length + ((L.drop i).filter (sameK em kd)).length := by
  rw [← zG, ← List.filter_append, List.take_append_drop]
 rw [List.filter_append, List.filter_cons, zG, e]
 split <;> simp <;> omega
theorem cntE_le (L : List Ev) (em kd : Int) : cntE L em kd ≤ L.length := List.length_filter_le _ _
def numE (F : Int) (L : List Ev) (x : Ev) : Ev := x.at_ F (cntE L x.emitter x.kind)
def addE (F : Int) (L : List Ev) (x : Ev) : List Ev := insL L (lbK L (numE F L x).key) (numE F L x)
structure PageOk (F : Int) (L : List Ev) : Prop where
 sorted : SortedE L
 frame : ∀ e ∈ L, e.frame = F
 ok : ∀ e ∈ L, evOk e = true
 ords : ∀ (em kd o : Int), (∃ e ∈ L, e.emitter = em ∧ e.kind = kd ∧ e.ord = o) ↔ 0 ≤ o ∧ o < cntE L em kd
theorem PageOk.nil (F : Int) : PageOk F [] := ⟨List.Pairwise.nil, by simp, by simp, fun em kd o => by simp [cntE]⟩
theorem PageOk.found {F : Int} {L : List Ev} (h : PageOk F L) (x : Ev) (o : Int) : foundK L (x.at_ F o).key = true ↔ 0 ≤ o ∧ o < cntE L x.emitter x.kind := by
 rw [← h.ords x.emitter x.kind o]
 constructor
 ·intro hf
  obtain ⟨e, he, hk⟩ := mem_of_found hf
  simp only [Ev.key, Ev.at_, Key4.mk.injEq] at hk
  exact ⟨e, he, hk.2.1, hk.2.2.1, hk.2.2.2⟩
 ·rintro ⟨e, he, h1, h2, h3⟩
  have := found_of_mem h.sorted he
  have hk : e.key = (x.at_ F o).key := by
   simp only [Ev.key, Ev.at_, Key4.mk.injEq]
   exact ⟨h.frame e he, h1, h2, h3⟩
  rwa [hk] at this
theorem PageOk.free {F : Int} {L : List Ev} (h : PageOk F L) (x : Ev) : foundK L (numE F L x).key = false := by
 cases hf : foundK L (numE F L x).key with
 | false => rfl
 | true => have := (h.found x _).1 hf; omega
theorem PageOk.full {F : Int} {L : List Ev} (h : PageOk F L) (x : Ev) (s : Nat) (hs : s < cntE L x.emitter x.kind) : foundK L (x.at_ F s).key = true := (h.found x s).2 (by omega)
theorem PageOk.add {F : Int} {L : List Ev} (h : PageOk F L) (x : Ev) (hx : evOk (numE F L x) = true) : PageOk F (addE F L x) := by
 refine ⟨sorted_ins h.sorted (h.free x), fun e he => ?_, fun e he => ?_, fun em kd o => ?_⟩
 ·rcases mem_insL.1 he with rfl | he
  ·rfl
  ·exact h.frame e he
 ·rcases mem_insL.1 he with rfl | he
  ·exact hx
  ·exact h.ok e he
 ·have hc := cntE_ins L (lbK L (numE F L x).key) (numE F L x) em kd
  have ho := h.ords em kd o
  unfold addE
  rw [hc]
  by_cases hs : x.emitter = em ∧ x.kind = kd
  ·obtain ⟨rfl, rfl⟩ := hs
   have e1 : sameK x.emitter x.kind (numE F L x) = true := by simp [sameK, numE, Ev.at_]
   rw [e1, if_pos rfl]
   constructor
   ·rintro ⟨e, he, h1, h2, h3⟩
    rcases mem_insL.1 he with rfl | he
    ·have : o = cntE L x.emitter x.kind := h3.symm
     omega
    ·have := ho.1 ⟨e, he, h1, h2, h3⟩; omega
   ·rintro ⟨h0, h1⟩
    by_cases h2 : o = cntE L x.emitter x.kind
    ·exact ⟨_, mem_insL.2 (.inl rfl), rfl, rfl, h2.symm⟩
    ·obtain ⟨e, he, h3⟩ := ho.2 ⟨h0, by omega⟩
     exact ⟨e, mem_insL.2 (.inr he), h3⟩
  ·have e1 : sameK em kd (numE F L x) = false := by
    simp only [sameK, numE, Ev.at_, Bool.and_eq_false_iff]
    by_cases h1 : x.emitter = em
    ·exact .inr (decide_eq_false fun h2 => hs ⟨h1, h2⟩)
    ·exact .inl (decide_eq_false h1)
   rw [e1]
   simp only [Bool.false_eq_true, if_false, Nat.add_zero]
   rw [← ho]
   constructor
   ·rintro ⟨e, he, h1, h2, h3⟩
    rcases mem_insL.1 he with rfl | he
    ·exact absurd ⟨h1, h2⟩ hs
    ·exact ⟨e, he, h1, h2, h3⟩
   ·rintro ⟨e, he, h3⟩
    exact ⟨e, mem_insL.2 (.inr he), h3⟩
theorem addE_length (F : Int) (L : List Ev) (x : Ev) : (addE F L x).length = L.length + 1 := insL_length _ _ _
end
end Go.Proofs.YtibeihcpehikoaaGreat
