/-
  The ledger, plain: what is heard; what Tell, Commit and Halt make of it.
-/
import Derived.Test.YteccmklacgpodaaAtP
import Derived.Test.YteccmklacgpodaaSame
namespace Go.Proofs.Yteccmklacgpodaa
open Go.RowKit
def zeroE : Ev := ⟨0, 0, 0, 0, 0, 0, 0, 0, 0⟩
def cmdC (kind : Int) (e : Ev) (late : Int) (played : Bool) : List Value := [.int .i64 kind] ++ e.cells ++ [.int .i64 late, .bool played]
/-- A command. -/
structure Cm where
  kind : Int
  e : Ev
  late : Int
  played : Bool
  deriving DecidableEq
def Cm.cells (c : Cm) : List Value := cmdC c.kind c.e c.late c.played
theorem Cm.cells_length (c : Cm) : c.cells.length = 12 := rfl
/-- The entries behind a store of an event. -/
def StoreL (L L' : List (Key4 × Ev)) (e : Ev) : Prop := (∀ p ∈ L', p = (e.key, e) ∨ (p ∈ L ∧ p.1.val ≠ e.key.val)) ∧ (∀ p ∈ L, p.1.val ≠ e.key.val → p ∈ L') ∧ (e.key, e) ∈ L' ∧ (L'.map fun p => p.1.val).Nodup
def prs (S : List Ev) : List (Key4 × Ev) := S.map fun e => (e.key, e)
theorem prs_snd (S : List Ev) : (prs S).map (·.2) = S := by
  unfold prs
  rw [List.map_map]
  exact List.map_id'' (fun _ => rfl) S
theorem prs_len (S : List Ev) : (prs S).length = S.length := by unfold prs; simp
theorem mem_prs {S : List Ev} {p : Key4 × Ev} : p ∈ prs S ↔ p.2 ∈ S ∧ p.1 = p.2.key := by
  unfold prs
  rw [List.mem_map]
  constructor
  · rintro ⟨e, he, rfl⟩; exact ⟨he, rfl⟩
  · rintro ⟨h1, h2⟩; exact ⟨p.2, h1, by rw [← h2]⟩
theorem keyV_inj {a b : Key4} (h : a.val = b.val) : a = b := by
  cases a; cases b
  simpa [Key4.val] using h
/-- What the entries always are. -/
structure LvOk (S : List Ev) : Prop where
  sorted : SortedE S
  ok : ∀ e ∈ S, evOk e = true
theorem LvOk.nil : LvOk [] := ⟨List.Pairwise.nil, by simp⟩
theorem LvOk.filter {S : List Ev} (h : LvOk S) (p : Ev → Bool) : LvOk (S.filter p) := ⟨h.sorted.sublist List.filter_sublist, fun e he => h.ok e (List.mem_filter.1 he).1⟩
theorem LvOk.keys {S : List Ev} (h : LvOk S) : ((prs S).map fun p => p.1.val).Nodup := by
  have h1 := (sortedE_iff (sortedW_of h.sorted)).1 h.sorted
  unfold prs
  rw [List.map_map]
  unfold List.Nodup at h1 ⊢
  rw [List.pairwise_map] at h1 ⊢
  exact h1.imp fun hab e => hab (keyV_inj e)
/-- But that of a key. -/
def dropK (S : List Ev) (k : Key4) : List Ev := S.filter fun x => !decide (x.key = k)
theorem mem_dropK {S : List Ev} {k : Key4} {x : Ev} : x ∈ dropK S k ↔ x ∈ S ∧ x.key ≠ k := by
  unfold dropK
  rw [List.mem_filter]
  simp
theorem LvOk.drop {S : List Ev} (h : LvOk S) (k : Key4) : LvOk (dropK S k) := h.filter _
theorem dropK_none {S : List Ev} {k : Key4} (h : ∀ x ∈ S, x.key ≠ k) : dropK S k = S := by
  unfold dropK
  rw [List.filter_eq_self]
  intro x hx
  simp [h x hx]
theorem dropK_le (S : List Ev) (k : Key4) : (dropK S k).length ≤ S.length := List.length_filter_le _ _
theorem dropK_lt {S : List Ev} {k : Key4} {x : Ev} (hx : x ∈ S) (hk : x.key = k) : (dropK S k).length < S.length := by
  unfold dropK
  have := List.length_filter_lt_length_iff_exists (p := fun x : Ev => !decide (x.key = k)) (l := S)
  exact this.2 ⟨x, hx, by simp [hk]⟩
theorem prs_drop {S : List Ev} {k : Key4} : ∀ p, p ∈ prs (dropK S k) ↔ (p ∈ prs S ∧ p.1.val ≠ k.val) := fun p => by
  rw [mem_prs, mem_prs, mem_dropK]
  constructor
  · rintro ⟨⟨h1, h2⟩, h3⟩
    exact ⟨⟨h1, h3⟩, fun e => h2 (by rw [← h3]; exact keyV_inj e)⟩
  · rintro ⟨⟨h1, h3⟩, h2⟩
    exact ⟨⟨h1, fun e => h2 (by rw [h3, e])⟩, h3⟩
theorem LvOk.put {S : List Ev} (h : LvOk S) {e : Ev} (he : evOk e = true) (hk : ∀ x ∈ S, x.key ≠ e.key) : LvOk (putE S e) := by
  have hp := putE_perm S e
  refine ⟨?_, fun x hx => ?_⟩
  · rw [sortedE_iff (putE_sortedW (sortedW_of h.sorted) e), (hp.map Ev.key).nodup_iff, List.map_cons, List.nodup_cons]
    refine ⟨fun hm => ?_, (sortedE_iff (sortedW_of h.sorted)).1 h.sorted⟩
    obtain ⟨x, hx, hxe⟩ := List.mem_map.1 hm
    exact hk x hx hxe
  · rcases List.mem_cons.1 (hp.mem_iff.1 hx) with rfl | hx
    · exact he
    · exact h.ok x hx
theorem storeL_put {S : List Ev} (h : LvOk S) {e : Ev} (he : evOk e = true) : StoreL (prs S) (prs (putE (dropK S e.key) e)) e := by
  have hp := putE_perm (dropK S e.key) e
  have hok := (h.drop e.key).put he (fun x hx => (mem_dropK.1 hx).2)
  refine ⟨fun p hp' => ?_, fun p hp' hne => ?_, ?_, hok.keys⟩
  · rw [mem_prs] at hp'
    rcases List.mem_cons.1 (hp.mem_iff.1 hp'.1) with h1 | h1
    · left
      rw [← h1, ← hp'.2]
    · right
      rw [mem_dropK] at h1
      exact ⟨mem_prs.2 ⟨h1.1, hp'.2⟩, fun e => h1.2 (by rw [← hp'.2]; exact keyV_inj e)⟩
  · rw [mem_prs] at hp' ⊢
    exact ⟨hp.mem_iff.2 (List.mem_cons_of_mem _ (mem_dropK.2 ⟨hp'.1, fun e => hne (by rw [hp'.2, e])⟩)), hp'.2⟩
  · exact mem_prs.2 ⟨hp.mem_iff.2 (by simp), rfl⟩
/-- The entry of a key. -/
def findS (S : List Ev) (k : Key4) : Option Ev := S.find? fun x => decide (x.key = k)
theorem findS_none {S : List Ev} {k : Key4} : findS S k = none ↔ ∀ x ∈ S, x.key ≠ k := by
  unfold findS
  rw [List.find?_eq_none]
  simp
theorem findS_some {S : List Ev} {k : Key4} {z : Ev} (h : findS S k = some z) : z ∈ S ∧ z.key = k := by
  unfold findS at h
  exact ⟨List.mem_of_find?_eq_some h, by simpa using List.find?_some h⟩
theorem findS_mem {S : List Ev} (h : SortedE S) {z : Ev} (hz : z ∈ S) : findS S z.key = some z := by
  cases hf : findS S z.key with
  | none => exact absurd rfl (findS_none.1 hf z hz)
  | some y =>
    obtain ⟨h1, h2⟩ := findS_some hf
    obtain ⟨i, hi, rfl⟩ := List.mem_iff_getElem.1 h1
    obtain ⟨j, hj, rfl⟩ := List.mem_iff_getElem.1 hz
    have := sorted_uniq h hi hj h2
    subst this
    rfl
/-- Can what is heard be turned into what is told? -/
def likeE (a b : Ev) : Bool := decide (a.asset = b.asset) && decide (a.len = b.len)
def staysE (evs : List Ev) (o : Ev) : Bool := evs.any fun x => decide (x.key = o.key) && likeE x o
abbrev Sc := List Ev × List Cm
def cancelS (evs : List Ev) (s : Sc) (o : Ev) : Sc := if staysE evs o = true then s else (dropK s.1 o.key, s.2 ++ [⟨3, o, 0, false⟩])
def ofF (f : Int) (S : List Ev) : List Ev := S.filter fun o => decide (o.frame = f)
def cancelF (evs : List Ev) (f : Int) (S : List Ev) : Sc := (ofF f S).foldl (cancelS evs) (S, [])
def startS (most now : Int) (s : Sc) (e : Ev) : Sc :=
  match findS s.1 e.key with
  | some z => if z = e then s else (putE (dropK s.1 e.key) e, s.2 ++ [⟨2, e, 0, false⟩])
  | none => if (s.1.length : Int) < most then (putE s.1 e, s.2 ++ [⟨1, e, now - e.frame, false⟩]) else s
def tellF (most now : Int) (evs : List Ev) (f : Int) (S : List Ev) : Sc := evs.foldl (startS most now) (cancelF evs f S)
theorem foldl_snoc {α β : Type} (F : β → α → β) (b : β) (L : List α) (k : Nat) (hk : k < L.length) : (L.take (k + 1)).foldl F b = F ((L.take k).foldl F b) L[k] := by
  rw [List.take_succ_eq_append_getElem hk, List.foldl_append]
  rfl
theorem cancelS_ok {evs : List Ev} {s : Sc} (h : LvOk s.1) (o : Ev) : LvOk (cancelS evs s o).1 := by
  unfold cancelS
  split
  · exact h
  · exact h.drop _
theorem cancelS_le (evs : List Ev) (s : Sc) (o : Ev) : (cancelS evs s o).1.length ≤ s.1.length ∧ (cancelS evs s o).2.length ≤ s.2.length + 1 := by
  unfold cancelS
  split
  · omega
  · refine ⟨dropK_le _ _, ?_⟩
    simp
theorem cancel_fold (evs : List Ev) : ∀ (L : List Ev) (s : Sc), LvOk s.1 → LvOk (L.foldl (cancelS evs) s).1 ∧ (L.foldl (cancelS evs) s).1.length ≤ s.1.length ∧ (L.foldl (cancelS evs) s).2.length ≤ s.2.length + L.length
  | [], s, h => ⟨h, Nat.le_refl _, Nat.le_refl _⟩
  | o :: L, s, h => by
    obtain ⟨h1, h2, h3⟩ := cancel_fold evs L (cancelS evs s o) (cancelS_ok h o)
    have := cancelS_le evs s o
    rw [List.foldl_cons, List.length_cons]
    exact ⟨h1, by omega, by omega⟩
theorem startS_ok {most now : Int} {s : Sc} (h : LvOk s.1) {e : Ev} (he : evOk e = true) : LvOk (startS most now s e).1 := by
  unfold startS
  cases hf : findS s.1 e.key with
  | some z =>
    dsimp only
    split
    · exact h
    · exact (h.drop _).put he (fun x hx => (mem_dropK.1 hx).2)
  | none =>
    dsimp only
    split
    · exact h.put he (findS_none.1 hf)
    · exact h
theorem startS_le {most now : Int} {s : Sc} (e : Ev) : ((startS most now s e).1.length : Int) ≤ max (s.1.length : Int) most ∧ (startS most now s e).2.length ≤ s.2.length + 1 := by
  unfold startS
  cases hf : findS s.1 e.key with
  | some z =>
    obtain ⟨h1, h2⟩ := findS_some hf
    have := dropK_lt h1 h2
    dsimp only
    split
    · omega
    · dsimp only
      rw [putE_length, List.length_append, List.length_cons, List.length_nil]
      omega
  | none =>
    dsimp only
    split
    · dsimp only
      rw [putE_length, List.length_append, List.length_cons, List.length_nil]
      omega
    · omega
theorem start_fold (most now : Int) : ∀ (L : List Ev) (s : Sc), LvOk s.1 → (∀ e ∈ L, evOk e = true) → LvOk (L.foldl (startS most now) s).1 ∧ ((L.foldl (startS most now) s).1.length : Int) ≤ max (s.1.length : Int) most ∧ (L.foldl (startS most now) s).2.length ≤ s.2.length + L.length
  | [], s, h, _ => ⟨h, Int.le_max_left _ _, Nat.le_refl _⟩
  | o :: L, s, h, ho => by
    obtain ⟨h1, h2, h3⟩ := start_fold most now L (startS most now s o) (startS_ok h (ho o (by simp))) (fun e he => ho e (by simp [he]))
    have := startS_le (most := most) (now := now) (s := s) o
    rw [List.foldl_cons, List.length_cons]
    exact ⟨h1, by omega, by omega⟩
theorem cancelF_ok {evs : List Ev} {f : Int} {S : List Ev} (h : LvOk S) : LvOk (cancelF evs f S).1 ∧ (cancelF evs f S).1.length ≤ S.length ∧ (cancelF evs f S).2.length ≤ S.length := by
  obtain ⟨h1, h2, h3⟩ := cancel_fold evs (ofF f S) (S, []) h
  have h4 : (ofF f S).length ≤ S.length := List.length_filter_le _ _
  refine ⟨h1, h2, ?_⟩
  have h5 : ((S, ([] : List Cm)) : Sc).2.length = 0 := rfl
  unfold cancelF
  omega
theorem tellF_ok {most now : Int} {evs : List Ev} {f : Int} {S : List Ev} (h : LvOk S) (ho : ∀ e ∈ evs, evOk e = true) (hS : (S.length : Int) ≤ most) : LvOk (tellF most now evs f S).1 ∧ ((tellF most now evs f S).1.length : Int) ≤ most ∧ (tellF most now evs f S).2.length ≤ S.length + evs.length := by
  obtain ⟨h1, h2, h3⟩ := cancelF_ok (evs := evs) (f := f) h
  obtain ⟨h4, h5, h6⟩ := start_fold most now evs (cancelF evs f S) h1 ho
  unfold tellF
  exact ⟨h4, by omega, by omega⟩
/-- A frame that is committed. -/
def commitS (s : Sc) (e : Ev) : Sc := (dropK s.1 e.key, s.2 ++ [⟨4, e, 0, (findS s.1 e.key).isSome⟩])
def commitF (evs : List Ev) (S : List Ev) : Sc := evs.foldl commitS (S, [])
theorem commit_fold : ∀ (L : List Ev) (s : Sc), LvOk s.1 → LvOk (L.foldl commitS s).1 ∧ (L.foldl commitS s).1.length ≤ s.1.length ∧ (L.foldl commitS s).2.length = s.2.length + L.length
  | [], s, h => ⟨h, Nat.le_refl _, rfl⟩
  | o :: L, s, h => by
    obtain ⟨h1, h2, h3⟩ := commit_fold L (commitS s o) (h.drop _)
    have hd := dropK_le s.1 o.key
    have e1 : (commitS s o).1 = dropK s.1 o.key := rfl
    have e2 : (commitS s o).2.length = s.2.length + 1 := by unfold commitS; simp
    rw [e1] at h2
    rw [e2] at h3
    rw [List.foldl_cons, List.length_cons]
    exact ⟨h1, by omega, by omega⟩
def haltF (S : List Ev) : List Cm := S.map fun e => ⟨3, e, 0, false⟩
/-- Why a page can't be told; 0: it can. 3 halted, 1 no page, 4 old. -/
def otherB (f : Int) (evs : List Ev) : Bool := evs.any fun e => !decide (e.frame = f)
def argB (evs : List Ev) (f now : Int) : Bool := orderedB evs && (!otherB f evs && (decide (f ≤ now) && decide (now ≤ 1073741824)))
end Go.Proofs.Yteccmklacgpodaa
