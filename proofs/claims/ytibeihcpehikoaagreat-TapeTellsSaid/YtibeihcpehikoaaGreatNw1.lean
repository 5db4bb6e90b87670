/-
  The walks beneath: Base, Own, Ev0, Ev, EventPlain.
-/
import Derived.WalkKit
import Derived.WalkSpells
import Derived.WalkLawsBesides
import Derived.Deep.QuietTactic
import Derived.BigQuiet
import Derived.Lib.Hide
import Derived.ProofKit
import Derived.OpenShut
import Derived.Deep.Slices
import Derived.Maps.AppendAt
import Derived.Deep.AppendLies
import Derived.BigRegion
import Derived.Test.YtibeihcpehikoaaGreatRows
namespace Go.Proofs.YtibeihcpehikoaaGreat
section
open Go.RowKit Go.WideShapes Go.ChangeShapes
theorem zz {p : Prop} (h : p) : Go.RowKit.Hid p := Lib.hid h
def Rd (w : World) (B : Nat) (A : Option Addr) (xs : List Value) : Prop :=
 xs ≠ [] → ∃ b off, A = some ⟨b, off, none⟩ ∧ b < B ∧ ∀ j u, xs[j]? = some u → w.cell? ⟨b, off + j, none⟩ = some u
theorem bAlloc {a w : World} (h : Below a.heap.size a w) (o : Obj) : Below a.heap.size a (w.alloc o) := h.alloc h.size o
theorem bTrans {a w w' : World} (h : Below a.heap.size a w) (k : Below w.heap.size w w') : Below a.heap.size a w' := h.trans (k.mono h.size)
theorem bSetG {a w : World} (h : Below a.heap.size a w) {g : Nat} (hp : a.heap.size ≤ g) (o : Nat) (u : Value) : Below a.heap.size a (w.setCell ⟨g, o, none⟩ u) := h.setCell (p := ⟨g, o, none⟩) hp u
theorem below_drewN {B : Nat} {a w : World} (h : Below B a w) (n : Nat) : Below B a (w.drewN n) := ⟨h.os, h.tape, h.output, h.size, h.block⟩
theorem Rd.nil (w : World) (B : Nat) (A : Option Addr) : Rd w B A [] := fun h => absurd rfl h
theorem Rd.below {w w' : World} {B B' : Nat} {A : Option Addr} {xs : List Value} (h : Rd w B A xs) (hb : Below B' w w') (hB : B ≤ B') : Rd w' B A xs := fun hn => by
 obtain ⟨b, off, e, hlt, hc⟩ := h hn
 exact ⟨b, off, e, hlt, fun j u hu => (hb.cell (p := ⟨b, off + j, none⟩) (Nat.lt_of_lt_of_le hlt hB)).trans (hc j u hu)⟩
theorem Rd.more {w : World} {B B' : Nat} {A : Option Addr} {xs : List Value} (h : Rd w B A xs) (hB : B ≤ B') : Rd w B' A xs := fun hn => by
 obtain ⟨b, off, e, hlt, hc⟩ := h hn
 exact ⟨b, off, e, Nat.lt_of_lt_of_le hlt hB, hc⟩
theorem Rd.drew {w : World} {B : Nat} {A : Option Addr} {xs : List Value} (h : Rd w B A xs) : Rd w.drew B A xs := h
theorem Rd.of_own {w : World} {base : Nat} {e : TypeId} {size n c : Nat} {A : Option Addr} {xs : List Value} (h : w.ownsRow base e size (.slice A n c) n xs) : Rd w w.heap.size A xs := fun hne => by
 rcases h.2 with ⟨_, h0⟩ | ⟨g, cap, cur, hv, _, hg, _⟩
 ·subst h0; exact absurd (List.eq_nil_of_length_eq_zero (by simpa using h.1)) hne
 ·simp only [Value.slice.injEq] at hv
  obtain ⟨rfl, -, rfl⟩ := hv
  refine ⟨g, 0, rfl, ?_, fun j u hu => ?_⟩
  ·rcases Nat.lt_or_ge g w.heap.size with hlt | hge
   ·exact hlt
   ·rw [Array.getElem?_eq_none hge] at hg; cases hg
  ·have hj : j < n * size := by rw [← h.1]; exact (List.getElem?_eq_some_iff.1 hu).1
   rw [Nat.zero_add, h.cellAt j hj, hu]
theorem getElem?_flatMap {α β : Type} (f : α → List β) (m : Nat) (hf : ∀ a, (f a).length = m) : ∀ (l : List α) (k j : Nat) (a : α), l[k]? = some a → j < m → (l.flatMap f)[k * m + j]? = (f a)[j]?
 | x :: l, 0, j, a, h, hj => by
  simp only [List.getElem?_cons_zero, Option.some.injEq] at h; subst h
  simp [List.flatMap_cons, List.getElem?_append, hf, hj]
 | x :: l, k + 1, j, a, h, hj => by
  simp only [List.getElem?_cons_succ] at h
  rw [List.flatMap_cons, List.getElem?_append_right (by rw [hf, Nat.add_mul]; omega), hf, ← getElem?_flatMap f m hf l k j a h hj]
  congr 1
  rw [Nat.add_mul]; omega
theorem length_flatMap_const {α β : Type} (f : α → List β) (m : Nat) (hf : ∀ a, (f a).length = m) (l : List α) : (l.flatMap f).length = l.length * m := by
 induction l with
 | nil => simp
 | cons x l ih => rw [List.flatMap_cons, List.length_append, ih, hf, List.length_cons, Nat.add_mul]; omega
theorem Rd.at_ {α : Type} {f : α → List Value} {m : Nat} (hf : ∀ a, (f a).length = m) (hm : 0 < m) {w : World} {B : Nat} {A : Option Addr} {l : List α} (h : Rd w B A (l.flatMap f)) {k : Nat} (hk : k < l.length) :
  ∃ b off, A = some ⟨b, off, none⟩ ∧ b < B ∧ ∀ j u, (f l[k])[j]? = some u → w.cell? ⟨b, off + k * m + j, none⟩ = some u := by
 have hne : l.flatMap f ≠ [] := by
  intro h0
  have := length_flatMap_const f m hf l
  rw [h0] at this
  have h1 : 1 ≤ l.length * m := Nat.mul_pos (by omega) hm
  simp at this; omega
 obtain ⟨b, off, hA, hb, hc⟩ := h hne
 refine ⟨b, off, hA, hb, fun j u hu => ?_⟩
 have hj : j < m := by rw [← hf l[k]]; exact (List.getElem?_eq_some_iff.1 hu).1
 rw [Nat.add_assoc]
 exact hc _ u ((getElem?_flatMap f m hf l k j _ (List.getElem?_eq_getElem hk) hj).trans hu)
theorem Rd.sub {α : Type} {f : α → List Value} {m : Nat} (hf : ∀ a, (f a).length = m) {w : World} {B b off : Nat} {l : List α} (h : Rd w B (some ⟨b, off, none⟩) (l.flatMap f)) {k i : Nat} (hki : k ≤ i) (hi : i ≤ l.length) :
  Rd w B (some ⟨b, off + k * m, none⟩) (((l.take i).drop k).flatMap f) := by
 have hl : l = l.take k ++ ((l.take i).drop k ++ l.drop i) := by
  have h1 : l.take k = (l.take i).take k := by rw [List.take_take, Nat.min_eq_left hki]
  rw [h1, ← List.append_assoc, List.take_append_drop, List.take_append_drop]
 intro hne
 have hne' : l.flatMap f ≠ [] := by
  intro h0
  rw [hl, List.flatMap_append, List.flatMap_append] at h0
  simp only [List.append_eq_nil_iff] at h0
  exact hne h0.2.1
 obtain ⟨b', off', e, hb, hc⟩ := h hne'
 simp only [Option.some.injEq, Addr.mk.injEq, and_true] at e
 obtain ⟨rfl, rfl⟩ := e
 refine ⟨b, off + k * m, rfl, hb, fun j u hu => ?_⟩
 rw [Nat.add_assoc]
 refine hc _ u ?_
 rw [hl, List.flatMap_append, List.flatMap_append, List.getElem?_append_right (by rw [length_flatMap_const f m hf, List.length_take]; exact Nat.le_trans (Nat.mul_le_mul_right _ (Nat.min_le_left _ _)) (Nat.le_add_right _ _)),
  length_flatMap_const f m hf, List.length_take, Nat.min_eq_left (by omega), Nat.add_sub_cancel_left, List.getElem?_append_left (List.getElem?_eq_some_iff.1 hu).1]
 exact hu
theorem Rd.one {w : World} {B : Nat} {A : Option Addr} {xs : List Value} (h : Rd w B A xs) {k : Nat} (hk : k < xs.length) :
  ∃ b off, A = some ⟨b, off, none⟩ ∧ b < B ∧ w.cell? ⟨b, off + k, none⟩ = some xs[k] := by
 obtain ⟨b, off, hA, hb, hc⟩ := h (fun h0 => by rw [h0] at hk; simp at hk)
 exact ⟨b, off, hA, hb, hc k _ (List.getElem?_eq_getElem hk)⟩
theorem ret_bool {a b : Bool} (h : a = b) : Ending.returned (.bool a) = .returned (.bool b) := by rw [h]
theorem ret_int {k : IntKind} {a b : Int} (h : a = b) : Ending.returned (.int k a) = .returned (.int k b) := by rw [h]
theorem list_of_forms {α β : Type} {f : β → α} {p : β → Prop} : ∀ {l : List α}, (∀ a ∈ l, ∃ b, a = f b ∧ p b) → ∃ m : List β, l = m.map f ∧ ∀ b ∈ m, p b
 | [], _ => ⟨[], rfl, by simp⟩
 | a :: l, h => by
  obtain ⟨b, hb, hp⟩ := h a (by simp)
  obtain ⟨m, hm, hq⟩ := list_of_forms (l := l) (fun a' ha' => h a' (by simp [ha']))
  exact ⟨b :: m, by rw [hb, hm]; rfl, by simpa using ⟨hp, hq⟩⟩
section
variable {H : Type} {enc : TypeId × Value → H} {P : Program} {w : World} {spare : Nat → Bool} {held : Bool}
theorem block_lt_of_cell {w : World} {a : Addr} {v : Value} (h : w.cell? a = some v) : a.block < w.heap.size := by
 rcases Nat.lt_or_ge a.block w.heap.size with hlt | hge
 ·exact hlt
 ·unfold World.cell? at h; rw [Array.getElem?_eq_none hge] at h; simp at h
theorem rows_of_trod {t e : TypeId} {m fuel : Nat} {cs : List Value} {x : DataW H × List MemPlace} (ht : P.underlying t = some (.slice e)) (hC : P.cellsOf e = m) (hm : 0 < m)
  (hf : DataW.trod enc P w 0 (fun _ => true) held fuel t cs = some x) :
  ∃ (A : Option Addr) (n c : Nat) (css : List (List Value)), cs = [.slice A n c] ∧ css.length = n ∧ n ≤ c ∧ c ≤ maxLen ∧ Rd w w.heap.size A css.flatten ∧
   ∀ cs ∈ css, cs.length = m ∧ ∃ fuel y, DataW.trod enc P w 0 (fun _ => true) held fuel e cs = some y := by
 rcases Go.Deep.open_slice ht hf with ⟨rfl, -⟩ | ⟨ad, len, cap, m', n', D, Pl, rfl, -, hl, hmx, hmm, -, hx⟩
 ·exact ⟨none, 0, 0, [], rfl, rfl, Nat.le_refl _, by omega, Rd.nil _ _ _, by simp⟩
 ·simp only [if_true] at hmm
  obtain rfl : cap = m' := hmm.symm
  rw [hC] at hx
  have hall : ∀ i, i < len → ∃ cs', (cs'.length = m ∧ (∀ j, j < m → w.cell? (ad.add (i * m + j)) = cs'[j]?)) ∧ ∃ y, DataW.trod enc P w 0 (fun _ => true) held n' e cs' = some y := by
   intro i hi
   obtain ⟨cs', h1, h2⟩ := hx i (by omega)
   obtain ⟨-, h3, h4⟩ := World.cells?_some h1
   exact ⟨cs', ⟨h3, fun j hj => by rw [← Go.Deep.add_add]; exact h4 j hj⟩, _, h2⟩
  obtain ⟨css, hlen, hat⟩ : ∃ css : List (List Value), css.length = len ∧ ∀ i (hi : i < css.length), (css[i].length = m ∧ (∀ j, j < m → w.cell? (ad.add (i * m + j)) = css[i][j]?)) ∧ ∃ y, DataW.trod enc P w 0 (fun _ => true) held n' e css[i] = some y := by
   clear hf hx hl
   induction len with
   | zero => exact ⟨[], rfl, fun i hi => by simp at hi⟩
   | succ n ih =>
    obtain ⟨css, hl, hc⟩ := ih (fun i hi => hall i (by omega))
    obtain ⟨cs', h1, h2⟩ := hall n (by omega)
    refine ⟨css ++ [cs'], by simp [hl], fun i hi => ?_⟩
    rcases Nat.lt_or_ge i css.length with hlt | hge
    ·rw [List.getElem_append_left hlt]; exact hc i hlt
    ·have hin : i = css.length := by simp at hi; omega
     subst hin
     rw [List.getElem_append_right (Nat.le_refl _)]
     simp only [Nat.sub_self, List.getElem_singleton]
     rw [hl]; exact ⟨h1, h2⟩
  refine ⟨some ad, len, cap, css, rfl, hlen, hl, hmx, ?_, fun cs hcs => ?_⟩
  ·intro hne
   have h0 : 0 < css.length := by
    rcases Nat.eq_zero_or_pos css.length with h | h
    ·rw [List.eq_nil_of_length_eq_zero h] at hne; simp at hne
    ·exact h
   obtain ⟨⟨hl0, hc0⟩, -⟩ := hat 0 h0
   have hfst := hc0 0 hm
   rw [Nat.zero_mul, Nat.zero_add, List.getElem?_eq_getElem (by omega)] at hfst
   obtain ⟨b, off, spot⟩ := ad
   have hspot : spot = none := by simpa [Addr.add] using World.cell?_spot hfst
   subst hspot
   refine ⟨b, off, rfl, ?_, fun j u hu => ?_⟩
   ·have := block_lt_of_cell hfst
    simpa [Addr.add] using this
   ·have hcl : ∀ a : Fin css.length, css[a].length = m := fun a => (hat a.1 a.2).1.1
    have hj : j < css.length * m := by
     have h1 := (List.getElem?_eq_some_iff.1 hu).1
     have h2 : ∀ (l : List (List Value)), (∀ x ∈ l, x.length = m) → l.flatten.length = l.length * m := fun l hl => by
      induction l with
      | nil => simp
      | cons x l ih => rw [List.flatten_cons, List.length_append, ih (fun y hy => hl y (by simp [hy])), hl x (by simp), List.length_cons, Nat.add_mul]; omega
     rw [h2 css (fun x hx => by
      obtain ⟨i, hi, rfl⟩ := List.mem_iff_getElem.1 hx
      exact (hat i hi).1.1)] at h1
     exact h1
    have hd : j / m < css.length := Nat.div_lt_of_lt_mul (by rw [Nat.mul_comm]; exact hj)
    have hsplit : j = j / m * m + j % m := by rw [Nat.mul_comm]; exact (Nat.div_add_mod j m).symm
    have hmod : j % m < m := Nat.mod_lt _ hm
    have hkey : ∀ (l : List (List Value)) (k i : Nat) (cs : List Value), (∀ x ∈ l, x.length = m) → l[k]? = some cs → i < m → l.flatten[k * m + i]? = cs[i]? := fun l => by
     induction l with
     | nil => intro k i cs _ h; simp at h
     | cons x l ih =>
      intro k i cs hl h hi
      cases k with
      | zero =>
       simp only [List.getElem?_cons_zero, Option.some.injEq] at h; subst h
       rw [Nat.zero_mul, Nat.zero_add, List.flatten_cons, List.getElem?_append_left (by rw [hl x (by simp)]; exact hi)]
      | succ k =>
       simp only [List.getElem?_cons_succ] at h
       rw [List.flatten_cons, List.getElem?_append_right (by rw [hl x (by simp), Nat.add_mul]; omega), hl x (by simp), ← ih k i cs (fun y hy => hl y (by simp [hy])) h hi]
       congr 1
       rw [Nat.add_mul]; omega
    have h2 := (hat (j / m) hd).1.2 (j % m) hmod
    rw [← hsplit, Go.WideShapes.add_plain] at h2
    rw [h2]
    rw [hsplit, hkey css (j / m) (j % m) _ (fun x hx => by
      obtain ⟨i, hi, rfl⟩ := List.mem_iff_getElem.1 hx
      exact (hat i hi).1.1) (List.getElem?_eq_getElem hd) hmod] at hu
    exact hu
  ·obtain ⟨i, hi, rfl⟩ := List.mem_iff_getElem.1 hcs
   obtain ⟨h1, y, h2⟩ := hat i hi
   exact ⟨h1.1, n', y, h2⟩
theorem law_post {fn : Func} {s : ChangeSpec} {W W' : World} {args : Array Value} {ds gs : List (DataW H)} {before : List MemPlace} {tb : TypeId}
  (hl : laidOutB P = true) (hr : (fn.params.toList.all fun t => P.readableRec t && decide (t < P.types.size)) = true) (hrt : fn.resultTypes = #[tb]) (hb : P.underlying tb = some .bool) (hvars : s.vars = [])
  (hs : s.fn H (ds ++ gs) = { results := [.lit (.bool true)], args := ds })
  (hW : DataW.Whole enc P fn.params.toList s.vars false W args.toList ds gs before) (hbl : Below W.heap.size W W') : s.post enc P fn false true false false W args (.bool true) W' := by
 have hlt : ∀ p ∈ before, p.block < W.heap.size := fun p hp => hW.lt p hp
 have hW0 := hW
 obtain ⟨p, q, hA, hV, rfl, -, -⟩ := hW
 rw [hvars] at hV
 obtain ⟨rfl, rfl⟩ : gs = [] ∧ q = [] := by
  cases gs with
  | nil => exact ⟨rfl, by simpa [DataW.TrodVars] using hV⟩
  | cons g gs => simp [DataW.TrodVars] at hV
 have hmap : ∀ (ts : List TypeId) (vs : List Value) (ds : List (DataW H)) (ps : List MemPlace), (ts.all fun t => P.readableRec t && decide (t < P.types.size)) = true → (∀ x ∈ ps, x.block < W.heap.size) →
   DataW.TrodAll enc P W 0 (fun _ => true) true ts vs ds ps → DataW.TrodAll enc P W' 0 (fun b => decide (b < W.heap.size)) true ts vs ds ps := by
  intro ts
  induction ts with
  | nil => intro vs ds ps _ _ h; obtain ⟨rfl, rfl, rfl⟩ := trodAll_nil h; exact trodAll_mk0
  | cons t ts ih =>
   intro vs ds ps hrr hps h
   obtain ⟨v, vs', d, ds', p, q, rfl, rfl, rfl, h1, h2⟩ := trodAll_cons h
   simp only [List.all_cons, Bool.and_eq_true, decide_eq_true_eq] at hrr
   exact trodAll_cons_mk (Below.trod hl hrr.1.1 hrr.1.2 h1 hbl (fun x hx => hps x (by simp [hx]))) (ih _ _ _ hrr.2 (fun x hx => hps x (by simp [hx])) h2)
 refine ⟨ds, [], p ++ [], [], p, [], hW0, ?_, ?_, ?_, World.keptBut_mono (fun x hx => ⟨hx, ?_⟩) (hbl.frame (· ∈ p ++ [])), fun h => by cases h⟩
 ·rw [hs, hrt]
  exact trodAll_cons_mk (shut_bool hb true) trodAll_mk0
 ·rw [hs]
  exact hmap _ _ _ _ hr (fun x hx => hlt x (by simp [hx])) hA
 ·rw [hs, hvars]; rfl
 ·exact Or.inr (Or.inl (by simpa using hx))
end
end
section
open Go.RowKit
def OwnL {α : Type} (w : World) (base : Nat) (E : TypeId) (m : Nat) (v : Value) (f : α → List Value) (l : List α) : Prop := w.ownsRow base E m v l.length (l.flatMap f)
section
variable {α : Type} {w w' : World} {base : Nat} {E : TypeId} {m : Nat} {v : Value} {f : α → List Value} {l : List α}
theorem OwnL.nil : OwnL w base E m (.slice none 0 0) f [] := World.ownsRow_nil _ _ _ _
theorem OwnL.shape (h : OwnL w base E m v f l) : ∃ A c, v = .slice A l.length c := by
 rcases h.2 with ⟨rfl, h0⟩ | ⟨g, cap, cur, rfl, _⟩
 ·rw [h0]; exact ⟨_, _, rfl⟩
 ·exact ⟨_, _, rfl⟩
theorem OwnL.form (h : OwnL w base E m v f l) (hl : 0 < l.length) : ∃ g cap, v = .slice (some ⟨g, 0, none⟩) l.length cap ∧ base ≤ g ∧ g < w.heap.size := by
 rcases h.2 with ⟨rfl, h0⟩ | ⟨g, cap, cur, rfl, hb, hg, _⟩
 ·omega
 ·refine ⟨g, cap, rfl, hb, ?_⟩
  rcases Nat.lt_or_ge g w.heap.size with hlt | hge
  ·exact hlt
  ·rw [Array.getElem?_eq_none hge] at hg; cases hg
theorem OwnL.formA {A : Option Addr} {n c : Nat} (h : OwnL w base E m (.slice A n c) f l) (hl : 0 < l.length) : ∃ g, A = some ⟨g, 0, none⟩ ∧ n = l.length ∧ base ≤ g ∧ g < w.heap.size := by
 obtain ⟨g, cap, hv, hb, hlt⟩ := h.form hl
 simp only [Value.slice.injEq] at hv
 exact ⟨g, hv.1, hv.2.1, hb, hlt⟩
theorem OwnL.len {A : Option Addr} {n c : Nat} (h : OwnL w base E m (.slice A n c) f l) : n = l.length := by
 obtain ⟨A', c', e⟩ := h.shape
 simp only [Value.slice.injEq] at e
 exact e.2.1
theorem OwnL.cell {g n cap : Nat} (hf : ∀ a, (f a).length = m) (h : OwnL w base E m (.slice (some ⟨g, 0, none⟩) n cap) f l) {k j : Nat} {u : Value} (hk : k < l.length) (hu : (f l[k])[j]? = some u) :
  w.cell? ⟨g, k * m + j, none⟩ = some u := by
 obtain rfl := h.len
 have hj : j < m := by rw [← hf l[k]]; exact (List.getElem?_eq_some_iff.1 hu).1
 have hlt : k * m + j < l.length * m := by
  have : (k + 1) * m ≤ l.length * m := Nat.mul_le_mul_right _ hk
  rw [Nat.add_mul] at this; omega
 rw [World.ownsRow.cellAt h _ hlt, getElem?_flatMap f m hf l k j _ (List.getElem?_eq_getElem hk) hj, hu]
theorem OwnL.frozen {g n cap : Nat} (h : OwnL w base E m (.slice (some ⟨g, 0, none⟩) n cap) f l) (j : Nat) : w.frozen? ⟨g, j, none⟩ = false := by
 obtain rfl := h.len
 exact World.ownsRow.frozenAt h j
theorem set_flatMap (hf : ∀ a, (f a).length = m) : ∀ (l : List α) (k j : Nat) (u : Value) (a : α) (hk : k < l.length), j < m → f a = (f l[k]).set j u → (l.flatMap f).set (k * m + j) u = (l.set k a).flatMap f
 | x :: l, 0, j, u, a, _, hj, ha => by
  simp only [List.getElem_cons_zero] at ha
  rw [Nat.zero_mul, Nat.zero_add, List.flatMap_cons, List.set_append_left _ _ (by rw [hf]; exact hj), List.set_cons_zero, List.flatMap_cons, ha]
 | x :: l, k + 1, j, u, a, hk, hj, ha => by
  simp only [List.getElem_cons_succ] at ha
  rw [List.flatMap_cons, List.set_append_right _ _ (by rw [hf, Nat.add_mul]; omega), hf, List.set_cons_succ, List.flatMap_cons, ← set_flatMap hf l k j u a (by simpa using hk) hj ha]
  congr 2
  rw [Nat.add_mul]; omega
theorem OwnL.set {g n cap : Nat} (hf : ∀ a, (f a).length = m) (h : OwnL w base E m (.slice (some ⟨g, 0, none⟩) n cap) f l) {k j : Nat} {u : Value} {a : α} (hk : k < l.length) (hj : j < m) (ha : f a = (f l[k]).set j u) :
  OwnL (w.setCell ⟨g, k * m + j, none⟩ u) base E m (.slice (some ⟨g, 0, none⟩) n cap) f (l.set k a) := by
 obtain rfl := h.len
 unfold OwnL
 rw [List.length_set, ← set_flatMap hf l k j u a hk hj ha]
 exact (World.ownsRow.stored h (k * m + j) u).1
theorem OwnL.kept (h : OwnL w base E m v f l) {row : Option Nat} (hg : w.grownBy w' row) (hne : v.ownBlock = none ∨ v.ownBlock ≠ row) : OwnL w' base E m v f l := World.ownsRow.kept h hg hne
theorem OwnL.alloc (h : OwnL w base E m v f l) (o : Obj) : OwnL (w.alloc o) base E m v f l := World.ownsRow.alloc h o
theorem OwnL.drew (h : OwnL w base E m v f l) : OwnL w.drew base E m v f l := h
theorem OwnL.below (h : OwnL w base E m v f l) (hb : Below w.heap.size w w') : OwnL w' base E m v f l :=
 h.kept (row := none) ⟨hb.os, hb.tape, hb.output, hb.size, fun k hk _ => hb.block k hk⟩ (by
  cases hv : v.ownBlock with
  | none => exact .inl rfl
  | some g => exact .inr (by simp))
theorem OwnL.base_le (h : OwnL w base E m v f l) : ∀ k, v.ownBlock = some k → base ≤ k := fun k hk => (World.ownsRow.lt h k hk).1
theorem OwnL.block_lt (h : OwnL w base E m v f l) : ∀ k, v.ownBlock = some k → k < w.heap.size := fun k hk => (World.ownsRow.lt h k hk).2
theorem OwnL.far (h : OwnL w base E m v f l) {p : Addr} (hp : v.ownBlock ≠ some p.block) (u : Value) : OwnL (w.setCell p u) base E m v f l :=
 h.kept (row := some p.block) ⟨rfl, rfl, rfl, by simp [World.setCell], fun k _ hk => Below.heap_setCell w p u k (fun e => hk (by rw [e]))⟩ (.inr hp)
theorem OwnL.farG (h : OwnL w base E m v f l) {g : Nat} (hp : v.ownBlock ≠ some g) (o : Nat) (u : Value) : OwnL (w.setCell ⟨g, o, none⟩ u) base E m v f l := h.far (p := ⟨g, o, none⟩) hp u
theorem OwnL.rd {A : Option Addr} {n c : Nat} (h : OwnL w base E m (.slice A n c) f l) : Rd w w.heap.size A (l.flatMap f) := by
 obtain rfl := h.len
 exact Rd.of_own h
theorem OwnL.more {base' : Nat} (h : OwnL w base E m v f l) (hb : base' ≤ base) : OwnL w base' E m v f l := by
 refine ⟨h.1, ?_⟩
 rcases h.2 with h0 | ⟨g, cap, cur, hv, hbg, hr⟩
 ·exact .inl h0
 ·exact .inr ⟨g, cap, cur, hv, Nat.le_trans hb hbg, hr⟩
theorem OwnL.apart {β : Type} {base' : Nat} {E' : TypeId} {m' : Nat} {v' : Value} {f' : β → List Value} {l' : List β} (h : OwnL w base E m v f l) (h' : OwnL w base' E' m' v' f' l') (hne : E ≠ E') {g : Nat} (hg : v'.ownBlock = some g) : v.ownBlock ≠ some g := by
 rcases h.2 with ⟨rfl, _⟩ | ⟨g1, cap, cur, rfl, _, h1, _⟩
 ·simp [Value.ownBlock]
 ·rcases h'.2 with ⟨rfl, _⟩ | ⟨g2, cap2, cur2, rfl, _, h2, _⟩
  ·simp [Value.ownBlock] at hg
  ·simp only [Value.ownBlock, Option.some.injEq] at hg ⊢
   subst hg
   intro e
   injection e with e
   subst e
   rw [h1] at h2
   injection h2 with h2
   injection h2 with _ ht
   exact hne ht
theorem OwnL.lit {w : World} {base : Nat} {E : TypeId} {m : Nat} {f : α → List Value} (l : List α) (cs : Array Value) (hb : base ≤ w.heap.size) (hl : l.length ≤ maxLen) (hf : ∀ a, (f a).length = m) (hcs : cs.toList = l.flatMap f) {n c : Nat} (hn : n = l.length) (hc : c = l.length) :
  OwnL (w.alloc (.cells cs E)) base E m (.slice (some ⟨w.heap.size, 0, none⟩) n c) f l := by
 subst hn; subst hc
 unfold OwnL
 rw [← hcs]
 exact World.ownsRow_lit w cs l.length hb hl (by rw [← Array.length_toList, hcs, length_flatMap_const f m hf])
end
theorem cell_new_row (W : World) (cs : Array Value) (E : TypeId) (g : Nat) (hg : g = W.heap.size) : ∀ j u, cs.toList[j]? = some u → (W.alloc (.cells cs E)).cell? ((⟨g, 0, none⟩ : Addr).add j) = some u := by
 intro j u hu
 subst hg
 have := cell_of_row (W.alloc (.cells cs E)) W.heap.size j cs E (0, 0) (heap_alloc_new W _)
 rw [Go.WideShapes.add_plain, Nat.zero_add, this, ← hu]
 simp
section
variable {α : Type} {w w' : World} {base : Nat} {E : TypeId} {v : Value} {f : α → List Value} {l : List α}
theorem OwnL.one {g n cap : Nat} {h : α → Value} (hf : ∀ a, f a = [h a]) (ho : OwnL w base E 1 (.slice (some ⟨g, 0, none⟩) n cap) f l) {k : Nat} (hk : k < l.length) : w.cell? ⟨g, k, none⟩ = some (h l[k]) := by
 have := ho.cell (fun a => by rw [hf]; rfl) (k := k) (j := 0) (u := h l[k]) hk (by rw [hf]; rfl)
 simpa using this
theorem OwnL.set1 {g n cap : Nat} {h : α → Value} (hf : ∀ a, f a = [h a]) (ho : OwnL w base E 1 (.slice (some ⟨g, 0, none⟩) n cap) f l) {k : Nat} (hk : k < l.length) (a : α) :
  OwnL (w.setCell ⟨g, k, none⟩ (h a)) base E 1 (.slice (some ⟨g, 0, none⟩) n cap) f (l.set k a) := by
 have := ho.set (fun a => by rw [hf]; rfl) (k := k) (j := 0) (u := h a) (a := a) hk (by omega) (by rw [hf, hf]; rfl)
 simpa using this
end
def Blk (w : World) (g : Nat) (E : TypeId) (cs : Array Value) : Prop := w.heap[g]? = some (.cells cs E (0, 0))
section
variable {w w' : World} {g : Nat} {E : TypeId} {cs : Array Value}
theorem Blk.lt (h : Blk w g E cs) : g < w.heap.size := by
 rcases Nat.lt_or_ge g w.heap.size with hlt | hge
 ·exact hlt
 ·unfold Blk at h; rw [Array.getElem?_eq_none hge] at h; cases h
theorem Blk.cell (h : Blk w g E cs) (i : Nat) : w.cell? ⟨g, i, none⟩ = cs[i]? := cell_of_row w g i cs E (0, 0) h
theorem Blk.frozen (h : Blk w g E cs) (i : Nat) : w.frozen? ⟨g, i, none⟩ = false := frozen_of_row w g i cs E h
theorem Blk.new (w : World) (E : TypeId) (cs : Array Value) : Blk (w.alloc (.cells cs E)) w.heap.size E cs := heap_alloc_new w _
theorem Blk.drew (h : Blk w g E cs) : Blk w.drew g E cs := h
theorem Blk.drewN (h : Blk w g E cs) (n : Nat) : Blk (w.drewN n) g E cs := h
theorem Blk.alloc (h : Blk w g E cs) (o : Obj) : Blk (w.alloc o) g E cs := (Below.heap_alloc w o g h.lt).trans h
theorem Blk.set (h : Blk w g E cs) (i : Nat) (u : Value) : Blk (w.setCell ⟨g, i, none⟩ u) g E (cs.setIfInBounds i u) := heap_setCell_same w g i cs E u h
theorem Blk.far (h : Blk w g E cs) {p : Addr} (hp : g ≠ p.block) (u : Value) : Blk (w.setCell p u) g E cs := (Below.heap_setCell w p u g hp).trans h
theorem Blk.farG (h : Blk w g E cs) {k : Nat} (hp : g ≠ k) (o : Nat) (u : Value) : Blk (w.setCell ⟨k, o, none⟩ u) g E cs := h.far (p := ⟨k, o, none⟩) hp u
theorem Blk.below {B : Nat} (h : Blk w g E cs) (hb : Below B w w') (hg : g < B) : Blk w' g E cs := (hb.block g hg).trans h
theorem Blk.on (h : Blk w g E cs) (hb : Below w.heap.size w w') : Blk w' g E cs := h.below hb h.lt
theorem Blk.grown {row : Option Nat} (h : Blk w g E cs) (hb : w.grownBy w' row) (hg : row ≠ some g) : Blk w' g E cs := (hb.block g h.lt (fun e => hg e.symm)).trans h
theorem Blk.apart {α : Type} {base : Nat} {E' : TypeId} {m : Nat} {v : Value} {f : α → List Value} {l : List α} (h : Blk w g E cs) (h' : OwnL w base E' m v f l) (hne : E ≠ E') : v.ownBlock ≠ some g := by
 rcases h'.2 with ⟨rfl, _⟩ | ⟨g2, cap2, cur2, rfl, _, h2, _⟩
 ·simp [Value.ownBlock]
 ·intro e
  simp only [Value.ownBlock, Option.some.injEq] at e
  subst e
  unfold Blk at h
  rw [h] at h2
  injection h2 with h2
  injection h2 with _ ht
  exact hne ht
end
def rowOf {α : Type} (n : Nat) (f : Nat → α) : List α := (List.range n).map f
theorem rowOf_length {α : Type} (n : Nat) (f : Nat → α) : (rowOf n f).length = n := by simp [rowOf]
theorem rowOf_congr {α : Type} {n : Nat} {f g : Nat → α} (h : ∀ j, j < n → f j = g j) : rowOf n f = rowOf n g := by
 unfold rowOf
 exact List.map_congr_left fun j hj => h j (by simpa using hj)
theorem rowOf_set {α : Type} (n : Nat) (f : Nat → α) (k : Nat) (a : α) : (rowOf n f).set k a = rowOf n fun j => if j = k then a else f j := by
 apply List.ext_getElem
 ·simp [rowOf]
 ·intro i h1 h2
  rw [List.getElem_set]
  simp only [rowOf, List.getElem_map, List.getElem_range]
  by_cases h : i = k
  ·subst h; simp
  ·rw [if_neg (fun e => h e.symm), if_neg h]
theorem cell_new_row2 (W : World) (cs : Array Value) (E : TypeId) (g : Nat) (hg : g = W.heap.size) : ∀ j u, cs.toList[j]? = some u → (W.alloc (.cells cs E)).cell? ⟨g, j, none⟩ = some u := by
 intro j u hu
 have := cell_new_row W cs E g hg j u hu
 rwa [Go.WideShapes.add_plain, Nat.zero_add] at this
theorem rd_new (W : World) (cs : Array Value) (E : TypeId) (g : Nat) (hg : g = W.heap.size) (B : Nat) (hB : g < B) : Rd (W.alloc (.cells cs E)) B (some ⟨g, 0, none⟩) cs.toList := fun _ =>
 ⟨g, 0, rfl, hB, fun j u hu => by rw [Nat.zero_add]; exact cell_new_row2 W cs E g hg j u hu⟩
end
section
open Go.RowKit Go.WideShapes Go.ChangeShapes
set_option maxRecDepth 100000
structure Ev where
 frame : Int
 emitter : Int
 kind : Int
 ord : Int
 asset : Int
 gain : Int
 pan : Int
 prio : Int
 len : Int
def Ev.cells (e : Ev) : List Value := [.int .i64 e.frame, .int .i64 e.emitter, .int .i64 e.kind, .int .i64 e.ord, .int .i64 e.asset, .int .i64 e.gain, .int .i64 e.pan, .int .i64 e.prio, .int .i64 e.len]
theorem Ev.cells_length (e : Ev) : e.cells.length = 9 := rfl
def EvAt (w : World) (b o : Nat) (e : Ev) : Prop :=
 w.cell? ⟨b, o, none⟩ = some (.int .i64 e.frame) ∧ w.cell? ⟨b, o + 1, none⟩ = some (.int .i64 e.emitter) ∧ w.cell? ⟨b, o + 2, none⟩ = some (.int .i64 e.kind) ∧ w.cell? ⟨b, o + 3, none⟩ = some (.int .i64 e.ord) ∧
 w.cell? ⟨b, o + 4, none⟩ = some (.int .i64 e.asset) ∧ w.cell? ⟨b, o + 5, none⟩ = some (.int .i64 e.gain) ∧ w.cell? ⟨b, o + 6, none⟩ = some (.int .i64 e.pan) ∧ w.cell? ⟨b, o + 7, none⟩ = some (.int .i64 e.prio) ∧
 w.cell? ⟨b, o + 8, none⟩ = some (.int .i64 e.len)
theorem Rd.ev {w : World} {B : Nat} {A : Option Addr} {l : List Ev} (h : Rd w B A (l.flatMap Ev.cells)) {k : Nat} (hk : k < l.length) :
  ∃ b off, A = some ⟨b, off, none⟩ ∧ b < B ∧ EvAt w b (off + k * 9) l[k] := by
 obtain ⟨b, off, hA, hb, hat⟩ := h.at_ Ev.cells_length (by omega) hk
 exact ⟨b, off, hA, hb, hat 0 _ rfl, hat 1 _ rfl, hat 2 _ rfl, hat 3 _ rfl, hat 4 _ rfl, hat 5 _ rfl, hat 6 _ rfl, hat 7 _ rfl, hat 8 _ rfl⟩
end
section
structure Key4 where
 frame : Int
 emitter : Int
 kind : Int
 ord : Int
def Key4.cells (k : Key4) : List Value := [.int .i64 k.frame, .int .i64 k.emitter, .int .i64 k.kind, .int .i64 k.ord]
def Key4.val (k : Key4) : Value := .agg #[.int .i64 k.frame, .int .i64 k.emitter, .int .i64 k.kind, .int .i64 k.ord]
def Ev.key (e : Ev) : Key4 := ⟨e.frame, e.emitter, e.kind, e.ord⟩
def Ev.val (e : Ev) : Value := .agg #[.int .i64 e.frame, .int .i64 e.emitter, .int .i64 e.kind, .int .i64 e.ord, .int .i64 e.asset, .int .i64 e.gain, .int .i64 e.pan, .int .i64 e.prio, .int .i64 e.len]
def cmpI (a b : Int) : Int := if a < b then -1 else if b < a then 1 else 0
def orI : List Int → Int
 | [] => 0
 | x :: l => if x = 0 then orI l else x
def cmpK (a b : Key4) : Int := orI [cmpI a.frame b.frame, cmpI a.emitter b.emitter, cmpI a.kind b.kind, cmpI a.ord b.ord]
def inB (n lo hi : Int) : Bool := decide (lo ≤ n ∧ n ≤ hi)
def keyOk (k : Key4) : Bool := inB k.frame 0 1073741824 && inB k.emitter 0 2 && inB k.kind 1 9 && inB k.ord 0 15
def evOk (e : Ev) : Bool := keyOk e.key && inB e.asset 0 31 && inB e.gain 0 32768 && inB e.pan (-32768) 32768 && inB e.prio 0 15 && inB e.len 0 600
theorem cmpI_bd (a b : Int) : -1 ≤ cmpI a b ∧ cmpI a b ≤ 1 := by unfold cmpI; repeat' split; all_goals omega
theorem orI_bd : ∀ l : List Int, (∀ x ∈ l, -1 ≤ x ∧ x ≤ 1) → -1 ≤ orI l ∧ orI l ≤ 1
 | [], _ => by simp [orI]
 | x :: l, h => by
  have h1 := h x (by simp)
  have h2 := orI_bd l fun y hy => h y (by simp [hy])
  rw [orI]; split <;> omega
theorem cmpK_bd (a b : Key4) : -1 ≤ cmpK a b ∧ cmpK a b ≤ 1 := by
 refine orI_bd _ fun x hx => ?_
 simp only [List.mem_cons, List.not_mem_nil, or_false] at hx
 rcases hx with rfl | rfl | rfl | rfl <;> exact cmpI_bd _ _
def Key4.Lt (a b : Key4) : Prop := a.frame < b.frame ∨ a.frame = b.frame ∧ (a.emitter < b.emitter ∨ a.emitter = b.emitter ∧ (a.kind < b.kind ∨ a.kind = b.kind ∧ a.ord < b.ord))
theorem cmpK_neg (a b : Key4) : cmpK a b < 0 ↔ a.Lt b := by
 unfold cmpK Key4.Lt
 simp only [orI, cmpI]
 repeat' split
 all_goals omega
theorem cmpK_pos (a b : Key4) : 0 < cmpK a b ↔ b.Lt a := by
 unfold cmpK Key4.Lt
 simp only [orI, cmpI]
 repeat' split
 all_goals omega
theorem cmpK_zero (a b : Key4) : cmpK a b = 0 ↔ a = b := by
 unfold cmpK
 cases a; cases b
 simp only [orI, cmpI, Key4.mk.injEq]
 repeat' split
 all_goals omega
theorem Key4.Lt.trans {a b c : Key4} (h : a.Lt b) (k : b.Lt c) : a.Lt c := by
 unfold Key4.Lt at *; omega
end
end Go.Proofs.YtibeihcpehikoaaGreat
