/-
  Rows of the call's own, read as lists of structs: 'OwnL w base E m v f l': the slice v holds the list l, each element as the m cells 'f a'.
-/
import Derived.Test.YtlonefjbcooaaaaDoorBase
import Derived.Maps.AppendAt
import Derived.Deep.AppendLies
import Derived.BigRegion
namespace Go.Proofs.YtlonefjbcooaaaaDoor
open Go.RowKit

def OwnL {α : Type} (w : World) (base : Nat) (E : TypeId) (m : Nat) (v : Value) (f : α → List Value) (l : List α) : Prop := w.ownsRow base E m v l.length (l.flatMap f)

section
variable {α : Type} {w w' : World} {base : Nat} {E : TypeId} {m : Nat} {v : Value} {f : α → List Value} {l : List α}

theorem OwnL.nil : OwnL w base E m (.slice none 0 0) f [] := World.ownsRow_nil _ _ _ _
theorem OwnL.shape (h : OwnL w base E m v f l) : ∃ A c, v = .slice A l.length c := by
  rcases h.2 with ⟨rfl, h0⟩ | ⟨g, cap, cur, rfl, _⟩
  · rw [h0]; exact ⟨_, _, rfl⟩
  · exact ⟨_, _, rfl⟩
theorem OwnL.form (h : OwnL w base E m v f l) (hl : 0 < l.length) : ∃ g cap, v = .slice (some ⟨g, 0, none⟩) l.length cap ∧ base ≤ g ∧ g < w.heap.size := by
  rcases h.2 with ⟨rfl, h0⟩ | ⟨g, cap, cur, rfl, hb, hg, _⟩
  · omega
  · refine ⟨g, cap, rfl, hb, ?_⟩
    rcases Nat.lt_or_ge g w.heap.size with hlt | hge
    · exact hlt
    · rw [Array.getElem?_eq_none hge] at hg; cases hg
/-- The address in a slot, known to be the row's, is the head of a block of the call's own. -/
theorem OwnL.formA {A : Option Addr} {n c : Nat} (h : OwnL w base E m (.slice A n c) f l) (hl : 0 < l.length) : ∃ g, A = some ⟨g, 0, none⟩ ∧ n = l.length ∧ base ≤ g ∧ g < w.heap.size := by
  obtain ⟨g, cap, hv, hb, hlt⟩ := h.form hl
  simp only [Value.slice.injEq] at hv
  exact ⟨g, hv.1, hv.2.1, hb, hlt⟩
theorem OwnL.len {A : Option Addr} {n c : Nat} (h : OwnL w base E m (.slice A n c) f l) : n = l.length := by
  obtain ⟨A', c', e⟩ := h.shape
  simp only [Value.slice.injEq] at e
  exact e.2.1
theorem OwnL.cell {g n cap : Nat} (hf : ∀ a, (f a).length = m) (h : OwnL w base E m (.slice (some ⟨g, 0, none⟩) n cap) f l) {k j : Nat} {u : Value} (hk : k < l.length) (hu : (f l[k])[j]? = some u) :
    w.cell? ⟨g, k * m + j, none⟩ = some u := by
  obtain rfl := h.len
  have hj : j < m := by rw [← hf l[k]]; exact (List.getElem?_eq_some_iff.1 hu).1
  have hlt : k * m + j < l.length * m := by
    have : (k + 1) * m ≤ l.length * m := Nat.mul_le_mul_right _ hk
    rw [Nat.add_mul] at this; omega
  rw [World.ownsRow.cellAt h _ hlt, getElem?_flatMap f m hf l k j _ (List.getElem?_eq_getElem hk) hj, hu]
theorem OwnL.frozen {g n cap : Nat} (h : OwnL w base E m (.slice (some ⟨g, 0, none⟩) n cap) f l) (j : Nat) : w.frozen? ⟨g, j, none⟩ = false := by
  obtain rfl := h.len
  exact World.ownsRow.frozenAt h j
theorem set_flatMap (hf : ∀ a, (f a).length = m) : ∀ (l : List α) (k j : Nat) (u : Value) (a : α) (hk : k < l.length), j < m → f a = (f l[k]).set j u → (l.flatMap f).set (k * m + j) u = (l.set k a).flatMap f
  | x :: l, 0, j, u, a, _, hj, ha => by
    simp only [List.getElem_cons_zero] at ha
    rw [Nat.zero_mul, Nat.zero_add, List.flatMap_cons, List.set_append_left _ _ (by rw [hf]; exact hj), List.set_cons_zero, List.flatMap_cons, ha]
  | x :: l, k + 1, j, u, a, hk, hj, ha => by
    simp only [List.getElem_cons_succ] at ha
    rw [List.flatMap_cons, List.set_append_right _ _ (by rw [hf, Nat.add_mul]; omega), hf, List.set_cons_succ, List.flatMap_cons, ← set_flatMap hf l k j u a (by simpa using hk) hj ha]
    congr 2
    rw [Nat.add_mul]; omega
theorem OwnL.set {g n cap : Nat} (hf : ∀ a, (f a).length = m) (h : OwnL w base E m (.slice (some ⟨g, 0, none⟩) n cap) f l) {k j : Nat} {u : Value} {a : α} (hk : k < l.length) (hj : j < m) (ha : f a = (f l[k]).set j u) :
    OwnL (w.setCell ⟨g, k * m + j, none⟩ u) base E m (.slice (some ⟨g, 0, none⟩) n cap) f (l.set k a) := by
  obtain rfl := h.len
  unfold OwnL
  rw [List.length_set, ← set_flatMap hf l k j u a hk hj ha]
  exact (World.ownsRow.stored h (k * m + j) u).1
theorem OwnL.kept (h : OwnL w base E m v f l) {row : Option Nat} (hg : w.grownBy w' row) (hne : v.ownBlock = none ∨ v.ownBlock ≠ row) : OwnL w' base E m v f l := World.ownsRow.kept h hg hne
theorem OwnL.alloc (h : OwnL w base E m v f l) (o : Obj) : OwnL (w.alloc o) base E m v f l := World.ownsRow.alloc h o
theorem OwnL.drew (h : OwnL w base E m v f l) : OwnL w.drew base E m v f l := h
theorem OwnL.drewN (h : OwnL w base E m v f l) (n : Nat) : OwnL (w.drewN n) base E m v f l := h
/-- A call that turned nothing that was there turned nothing of the row. -/
theorem OwnL.below (h : OwnL w base E m v f l) (hb : Below w.heap.size w w') : OwnL w' base E m v f l :=
  h.kept (row := none) ⟨hb.os, hb.tape, hb.output, hb.size, fun k hk _ => hb.block k hk⟩ (by
    cases hv : v.ownBlock with
    | none => exact .inl rfl
    | some g => exact .inr (by simp))
theorem OwnL.base_le (h : OwnL w base E m v f l) : ∀ k, v.ownBlock = some k → base ≤ k := fun k hk => (World.ownsRow.lt h k hk).1
theorem OwnL.block_lt (h : OwnL w base E m v f l) : ∀ k, v.ownBlock = some k → k < w.heap.size := fun k hk => (World.ownsRow.lt h k hk).2
/-- A store into another block. -/
theorem OwnL.far (h : OwnL w base E m v f l) {p : Addr} (hp : v.ownBlock ≠ some p.block) (u : Value) : OwnL (w.setCell p u) base E m v f l :=
  h.kept (row := some p.block) ⟨rfl, rfl, rfl, by simp [World.setCell], fun k _ hk => Below.heap_setCell w p u k (fun e => hk (by rw [e]))⟩ (.inr hp)
theorem OwnL.farG (h : OwnL w base E m v f l) {g : Nat} (hp : v.ownBlock ≠ some g) (o : Nat) (u : Value) : OwnL (w.setCell ⟨g, o, none⟩ u) base E m v f l := h.far (p := ⟨g, o, none⟩) hp u
theorem OwnL.rd {A : Option Addr} {n c : Nat} (h : OwnL w base E m (.slice A n c) f l) : Rd w w.heap.size A (l.flatMap f) := by
  obtain rfl := h.len
  exact Rd.of_own h
theorem OwnL.more {base' : Nat} (h : OwnL w base E m v f l) (hb : base' ≤ base) : OwnL w base' E m v f l := by
  refine ⟨h.1, ?_⟩
  rcases h.2 with h0 | ⟨g, cap, cur, hv, hbg, hr⟩
  · exact .inl h0
  · exact .inr ⟨g, cap, cur, hv, Nat.le_trans hb hbg, hr⟩
/-- Rows of two element types never share a block. -/
theorem OwnL.apart {β : Type} {base' : Nat} {E' : TypeId} {m' : Nat} {v' : Value} {f' : β → List Value} {l' : List β} (h : OwnL w base E m v f l) (h' : OwnL w base' E' m' v' f' l') (hne : E ≠ E') {g : Nat} (hg : v'.ownBlock = some g) : v.ownBlock ≠ some g := by
  rcases h.2 with ⟨rfl, _⟩ | ⟨g1, cap, cur, rfl, _, h1, _⟩
  · simp [Value.ownBlock]
  · rcases h'.2 with ⟨rfl, _⟩ | ⟨g2, cap2, cur2, rfl, _, h2, _⟩
    · simp [Value.ownBlock] at hg
    · simp only [Value.ownBlock, Option.some.injEq] at hg ⊢
      subst hg
      intro e
      injection e with e
      subst e
      rw [h1] at h2
      injection h2 with h2
      injection h2 with _ ht
      exact hne ht
/-- A new row, written out. -/
theorem OwnL.lit {w : World} {base : Nat} {E : TypeId} {m : Nat} {f : α → List Value} (l : List α) (cs : Array Value) (hb : base ≤ w.heap.size) (hl : l.length ≤ maxLen) (hf : ∀ a, (f a).length = m) (hcs : cs.toList = l.flatMap f) {n c : Nat} (hn : n = l.length) (hc : c = l.length) :
    OwnL (w.alloc (.cells cs E)) base E m (.slice (some ⟨w.heap.size, 0, none⟩) n c) f l := by
  subst hn; subst hc
  unfold OwnL
  rw [← hcs]
  exact World.ownsRow_lit w cs l.length hb hl (by rw [← Array.length_toList, hcs, length_flatMap_const f m hf])
end

theorem heap_new_at (W : World) (o : Obj) (g : Nat) (hg : g = W.heap.size) : (W.alloc o).heap[g]? = some o := by subst hg; exact heap_alloc_new W o
/-- The cells of a row that has just been laid. -/
theorem cell_new_row (W : World) (cs : Array Value) (E : TypeId) (g : Nat) (hg : g = W.heap.size) : ∀ j u, cs.toList[j]? = some u → (W.alloc (.cells cs E)).cell? ((⟨g, 0, none⟩ : Addr).add j) = some u := by
  intro j u hu
  subst hg
  have := cell_of_row (W.alloc (.cells cs E)) W.heap.size j cs E (0, 0) (heap_alloc_new W _)
  rw [Go.WideShapes.add_plain, Nat.zero_add, this, ← hu]
  simp
section
variable {α : Type} {w w' : World} {base : Nat} {E : TypeId} {v : Value} {f : α → List Value} {l : List α}
/-- Elements of one cell. -/
theorem OwnL.one {g n cap : Nat} {h : α → Value} (hf : ∀ a, f a = [h a]) (ho : OwnL w base E 1 (.slice (some ⟨g, 0, none⟩) n cap) f l) {k : Nat} (hk : k < l.length) : w.cell? ⟨g, k, none⟩ = some (h l[k]) := by
  have := ho.cell (fun a => by rw [hf]; rfl) (k := k) (j := 0) (u := h l[k]) hk (by rw [hf]; rfl)
  simpa using this
theorem OwnL.set1 {g n cap : Nat} {h : α → Value} (hf : ∀ a, f a = [h a]) (ho : OwnL w base E 1 (.slice (some ⟨g, 0, none⟩) n cap) f l) {k : Nat} (hk : k < l.length) (a : α) :
    OwnL (w.setCell ⟨g, k, none⟩ (h a)) base E 1 (.slice (some ⟨g, 0, none⟩) n cap) f (l.set k a) := by
  have := ho.set (fun a => by rw [hf]; rfl) (k := k) (j := 0) (u := h a) (a := a) hk (by omega) (by rw [hf, hf]; rfl)
  simpa using this
end
/-- Block g is just these cells, none of them frozen. -/
def Blk (w : World) (g : Nat) (E : TypeId) (cs : Array Value) : Prop := w.heap[g]? = some (.cells cs E (0, 0))
section
variable {w w' : World} {g : Nat} {E : TypeId} {cs : Array Value}
theorem Blk.lt (h : Blk w g E cs) : g < w.heap.size := by
  rcases Nat.lt_or_ge g w.heap.size with hlt | hge
  · exact hlt
  · unfold Blk at h; rw [Array.getElem?_eq_none hge] at h; cases h
theorem Blk.cell (h : Blk w g E cs) (i : Nat) : w.cell? ⟨g, i, none⟩ = cs[i]? := cell_of_row w g i cs E (0, 0) h
theorem Blk.frozen (h : Blk w g E cs) (i : Nat) : w.frozen? ⟨g, i, none⟩ = false := frozen_of_row w g i cs E h
theorem Blk.new (w : World) (E : TypeId) (cs : Array Value) : Blk (w.alloc (.cells cs E)) w.heap.size E cs := heap_alloc_new w _
theorem Blk.drew (h : Blk w g E cs) : Blk w.drew g E cs := h
theorem Blk.drewN (h : Blk w g E cs) (n : Nat) : Blk (w.drewN n) g E cs := h
theorem Blk.alloc (h : Blk w g E cs) (o : Obj) : Blk (w.alloc o) g E cs := (Below.heap_alloc w o g h.lt).trans h
theorem Blk.set (h : Blk w g E cs) (i : Nat) (u : Value) : Blk (w.setCell ⟨g, i, none⟩ u) g E (cs.setIfInBounds i u) := heap_setCell_same w g i cs E u h
theorem Blk.far (h : Blk w g E cs) {p : Addr} (hp : g ≠ p.block) (u : Value) : Blk (w.setCell p u) g E cs := (Below.heap_setCell w p u g hp).trans h
theorem Blk.farG (h : Blk w g E cs) {k : Nat} (hp : g ≠ k) (o : Nat) (u : Value) : Blk (w.setCell ⟨k, o, none⟩ u) g E cs := h.far (p := ⟨k, o, none⟩) hp u
theorem Blk.below {B : Nat} (h : Blk w g E cs) (hb : Below B w w') (hg : g < B) : Blk w' g E cs := (hb.block g hg).trans h
theorem Blk.on (h : Blk w g E cs) (hb : Below w.heap.size w w') : Blk w' g E cs := h.below hb h.lt
theorem Blk.grown {row : Option Nat} (h : Blk w g E cs) (hb : w.grownBy w' row) (hg : row ≠ some g) : Blk w' g E cs := (hb.block g h.lt (fun e => hg e.symm)).trans h
theorem Blk.apart {α : Type} {base : Nat} {E' : TypeId} {m : Nat} {v : Value} {f : α → List Value} {l : List α} (h : Blk w g E cs) (h' : OwnL w base E' m v f l) (hne : E ≠ E') : v.ownBlock ≠ some g := by
  rcases h'.2 with ⟨rfl, _⟩ | ⟨g2, cap2, cur2, rfl, _, h2, _⟩
  · simp [Value.ownBlock]
  · intro e
    simp only [Value.ownBlock, Option.some.injEq] at e
    subst e
    unfold Blk at h
    rw [h] at h2
    injection h2 with h2
    injection h2 with _ ht
    exact hne ht
end
/-- A list given by its members. -/
def rowOf {α : Type} (n : Nat) (f : Nat → α) : List α := (List.range n).map f
theorem rowOf_length {α : Type} (n : Nat) (f : Nat → α) : (rowOf n f).length = n := by simp [rowOf]
theorem rowOf_get {α : Type} (n : Nat) (f : Nat → α) (k : Nat) (hk : k < (rowOf n f).length) : (rowOf n f)[k] = f k := by simp [rowOf]
theorem rowOf_congr {α : Type} {n : Nat} {f g : Nat → α} (h : ∀ j, j < n → f j = g j) : rowOf n f = rowOf n g := by
  unfold rowOf
  exact List.map_congr_left fun j hj => h j (by simpa using hj)
theorem rowOf_set {α : Type} (n : Nat) (f : Nat → α) (k : Nat) (a : α) : (rowOf n f).set k a = rowOf n fun j => if j = k then a else f j := by
  apply List.ext_getElem
  · simp [rowOf]
  · intro i h1 h2
    rw [List.getElem_set]
    simp only [rowOf, List.getElem_map, List.getElem_range]
    by_cases h : i = k
    · subst h; simp
    · rw [if_neg (fun e => h e.symm), if_neg h]
theorem rowOf_const {α : Type} (n : Nat) (a : α) : rowOf n (fun _ => a) = List.replicate n a := by
  apply List.ext_getElem <;> simp [rowOf]
theorem cell_new_row2 (W : World) (cs : Array Value) (E : TypeId) (g : Nat) (hg : g = W.heap.size) : ∀ j u, cs.toList[j]? = some u → (W.alloc (.cells cs E)).cell? ⟨g, j, none⟩ = some u := by
  intro j u hu
  have := cell_new_row W cs E g hg j u hu
  rwa [Go.WideShapes.add_plain, Nat.zero_add] at this
theorem rd_new (W : World) (cs : Array Value) (E : TypeId) (g : Nat) (hg : g = W.heap.size) (B : Nat) (hB : g < B) : Rd (W.alloc (.cells cs E)) B (some ⟨g, 0, none⟩) cs.toList := fun _ =>
  ⟨g, 0, rfl, hB, fun j u hu => by rw [Nat.zero_add]; exact cell_new_row2 W cs E g hg j u hu⟩
end Go.Proofs.YtlonefjbcooaaaaDoor
