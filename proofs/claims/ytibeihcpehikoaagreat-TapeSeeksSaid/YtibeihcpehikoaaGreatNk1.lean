/-
  The walks beneath: Base, Own, Ev0, Ev, EventPlain, EvLf, EvRt, EventLeaf, InsP.
-/
import Derived.WalkKit
import Derived.WalkSpells
import Derived.WalkLawsBesides
import Derived.Deep.QuietTactic
import Derived.BigQuiet
import Derived.Lib.Hide
import Derived.ProofKit
import Derived.OpenShut
import Derived.Deep.Slices
import Derived.Maps.AppendAt
import Derived.Deep.AppendLies
import Derived.BigRegion
import Derived.Deep.RegionHeld3
import Derived.Deep.RegionWith
import Derived.StillTactics
import Derived.Test.YtibeihcpehikoaaGreatRows
namespace Go.Proofs.YtibeihcpehikoaaGreat
open Go.RowKit
set_option maxRecDepth 100000
set_option maxHeartbeats 1000000
section
open Go.RowKit Go.WideShapes Go.ChangeShapes
section
variable {α : Type _}
theorem zA {l : List α} {i : Nat} : l.toArray[i]? = l[i]? := List.getElem?_toArray
theorem zB {a : α} {l : List α} : (a :: l)[0]? = some a := List.getElem?_cons_zero
theorem zC {a : α} {l : List α} {i : Nat} : (a :: l)[i + 1]? = l[i]? := List.getElem?_cons_succ
theorem zD (l : List α) (i : Nat) (a : α) : l.toArray.setIfInBounds i a = (l.set i a).toArray := List.setIfInBounds_toArray l i a
theorem zE {a b : α} {l : List α} : (a :: l).set 0 b = b :: l := List.set_cons_zero
theorem zF {a b : α} {l : List α} {n : Nat} : (a :: l).set (n + 1) b = a :: l.set n b := List.set_cons_succ
theorem zG {l m : List α} : (l ++ m).length = l.length + m.length := List.length_append
theorem zH {a : α} {l : List α} : (a :: l).length = l.length + 1 := List.length_cons
theorem zI : ([] : List α).length = 0 := List.length_nil
theorem zJ {a : Array α} : a.toList.toArray = a := Array.toArray_toList
theorem zK {a : Array α} : a.toList.length = a.size := Array.length_toList
theorem zL (n : Nat) : n ≤ n := Nat.le_refl n
theorem zM {l : List α} : l.toArray.size = l.length := List.size_toArray
end
theorem zz {p : Prop} (h : p) : Go.RowKit.Hid p := Lib.hid h
def Rd (w : World) (B : Nat) (A : Option Addr) (xs : List Value) : Prop :=
 xs ≠ [] → ∃ b off, A = some ⟨b, off, none⟩ ∧ b < B ∧ ∀ j u, xs[j]? = some u → w.cell? ⟨b, off + j, none⟩ = some u
theorem bAlloc {a w : World} (h : Below a.heap.size a w) (o : Obj) : Below a.heap.size a (w.alloc o) := h.alloc h.size o
theorem bTrans {a w w' : World} (h : Below a.heap.size a w) (k : Below w.heap.size w w') : Below a.heap.size a w' := h.trans (k.mono h.size)
theorem bSetG {a w : World} (h : Below a.heap.size a w) {g : Nat} (hp : a.heap.size ≤ g) (o : Nat) (u : Value) : Below a.heap.size a (w.setCell ⟨g, o, none⟩ u) := h.setCell (p := ⟨g, o, none⟩) hp u
theorem below_drewN {B : Nat} {a w : World} (h : Below B a w) (n : Nat) : Below B a (w.drewN n) := ⟨h.os, h.tape, h.output, h.size, h.block⟩
theorem Rd.nil (w : World) (B : Nat) (A : Option Addr) : Rd w B A [] := fun h => absurd rfl h
theorem Rd.below {w w' : World} {B B' : Nat} {A : Option Addr} {xs : List Value} (h : Rd w B A xs) (hb : Below B' w w') (hB : B ≤ B') : Rd w' B A xs := fun hn => by
 obtain ⟨b, off, e, hlt, hc⟩ := h hn
 exact ⟨b, off, e, hlt, fun j u hu => (hb.cell (p := ⟨b, off + j, none⟩) (Nat.lt_of_lt_of_le hlt hB)).trans (hc j u hu)⟩
theorem Rd.more {w : World} {B B' : Nat} {A : Option Addr} {xs : List Value} (h : Rd w B A xs) (hB : B ≤ B') : Rd w B' A xs := fun hn => by
 obtain ⟨b, off, e, hlt, hc⟩ := h hn
 exact ⟨b, off, e, Nat.lt_of_lt_of_le hlt hB, hc⟩
theorem Rd.drew {w : World} {B : Nat} {A : Option Addr} {xs : List Value} (h : Rd w B A xs) : Rd w.drew B A xs := h
theorem Rd.of_own {w : World} {base : Nat} {e : TypeId} {size n c : Nat} {A : Option Addr} {xs : List Value} (h : w.ownsRow base e size (.slice A n c) n xs) : Rd w w.heap.size A xs := fun hne => by
 rcases h.2 with ⟨_, h0⟩ | ⟨g, cap, cur, hv, _, hg, _⟩
 ·subst h0; exact absurd (List.eq_nil_of_length_eq_zero (by simpa using h.1)) hne
 ·simp only [Value.slice.injEq] at hv
  obtain ⟨rfl, -, rfl⟩ := hv
  refine ⟨g, 0, rfl, ?_, fun j u hu => ?_⟩
  ·rcases Nat.lt_or_ge g w.heap.size with hlt | hge
   ·exact hlt
   ·rw [Array.getElem?_eq_none hge] at hg; cases hg
  ·have hj : j < n * size := by rw [← h.1]; exact (List.getElem?_eq_some_iff.1 hu).1
   rw [Nat.zero_add, h.cellAt j hj, hu]
theorem getElem?_flatMap {α β : Type} (f : α → List β) (m : Nat) (hf : ∀ a, (f a).length = m) : ∀ (l : List α) (k j : Nat) (a : α), l[k]? = some a → j < m → (l.flatMap f)[k * m + j]? = (f a)[j]?
 | x :: l, 0, j, a, h, hj => by
  simp only [zB, Option.some.injEq] at h; subst h
  simp [List.flatMap_cons, List.getElem?_append, hf, hj]
 | x :: l, k + 1, j, a, h, hj => by
  simp only [zC] at h
  rw [List.flatMap_cons, List.getElem?_append_right (by rw [hf, Nat.add_mul]; omega), hf, ← getElem?_flatMap f m hf l k j a h hj]
  congr 1
  rw [Nat.add_mul]; omega
theorem length_flatMap_const {α β : Type} (f : α → List β) (m : Nat) (hf : ∀ a, (f a).length = m) (l : List α) : (l.flatMap f).length = l.length * m := by
 induction l with
 | nil => simp
 | cons x l ih => rw [List.flatMap_cons, zG, ih, hf, zH, Nat.add_mul]; omega
theorem Rd.at_ {α : Type} {f : α → List Value} {m : Nat} (hf : ∀ a, (f a).length = m) (hm : 0 < m) {w : World} {B : Nat} {A : Option Addr} {l : List α} (h : Rd w B A (l.flatMap f)) {k : Nat} (hk : k < l.length) :
  ∃ b off, A = some ⟨b, off, none⟩ ∧ b < B ∧ ∀ j u, (f l[k])[j]? = some u → w.cell? ⟨b, off + k * m + j, none⟩ = some u := by
 have hne : l.flatMap f ≠ [] := by
  intro h0
  have := length_flatMap_const f m hf l
  rw [h0] at this
  have h1 : 1 ≤ l.length * m := Nat.mul_pos (by omega) hm
  simp at this; omega
 obtain ⟨b, off, hA, hb, hc⟩ := h hne
 refine ⟨b, off, hA, hb, fun j u hu => ?_⟩
 have hj : j < m := by rw [← hf l[k]]; exact (List.getElem?_eq_some_iff.1 hu).1
 rw [Nat.add_assoc]
 exact hc _ u ((getElem?_flatMap f m hf l k j _ (List.getElem?_eq_getElem hk) hj).trans hu)
theorem Rd.sub {α : Type} {f : α → List Value} {m : Nat} (hf : ∀ a, (f a).length = m) {w : World} {B b off : Nat} {l : List α} (h : Rd w B (some ⟨b, off, none⟩) (l.flatMap f)) {k i : Nat} (hki : k ≤ i) (hi : i ≤ l.length) :
  Rd w B (some ⟨b, off + k * m, none⟩) (((l.take i).drop k).flatMap f) := by
 have hl : l = l.take k ++ ((l.take i).drop k ++ l.drop i) := by
  have h1 : l.take k = (l.take i).take k := by rw [List.take_take, Nat.min_eq_left hki]
  rw [h1, ← List.append_assoc, List.take_append_drop, List.take_append_drop]
 intro hne
 have hne' : l.flatMap f ≠ [] := by
  intro h0
  rw [hl, List.flatMap_append, List.flatMap_append] at h0
  simp only [List.append_eq_nil_iff] at h0
  exact hne h0.2.1
 obtain ⟨b', off', e, hb, hc⟩ := h hne'
 simp only [Option.some.injEq, Addr.mk.injEq, and_true] at e
 obtain ⟨rfl, rfl⟩ := e
 refine ⟨b, off + k * m, rfl, hb, fun j u hu => ?_⟩
 rw [Nat.add_assoc]
 refine hc _ u ?_
 rw [hl, List.flatMap_append, List.flatMap_append, List.getElem?_append_right (by rw [length_flatMap_const f m hf, List.length_take]; exact Nat.le_trans (Nat.mul_le_mul_right _ (Nat.min_le_left _ _)) (Nat.le_add_right _ _)),
  length_flatMap_const f m hf, List.length_take, Nat.min_eq_left (by omega), Nat.add_sub_cancel_left, List.getElem?_append_left (List.getElem?_eq_some_iff.1 hu).1]
 exact hu
theorem Rd.one {w : World} {B : Nat} {A : Option Addr} {xs : List Value} (h : Rd w B A xs) {k : Nat} (hk : k < xs.length) :
  ∃ b off, A = some ⟨b, off, none⟩ ∧ b < B ∧ w.cell? ⟨b, off + k, none⟩ = some xs[k] := by
 obtain ⟨b, off, hA, hb, hc⟩ := h (fun h0 => by rw [h0] at hk; simp at hk)
 exact ⟨b, off, hA, hb, hc k _ (List.getElem?_eq_getElem hk)⟩
theorem ret_bool {a b : Bool} (h : a = b) : Ending.returned (.bool a) = .returned (.bool b) := by rw [h]
theorem ret_int {k : IntKind} {a b : Int} (h : a = b) : Ending.returned (.int k a) = .returned (.int k b) := by rw [h]
theorem list_of_forms {α β : Type} {f : β → α} {p : β → Prop} : ∀ {l : List α}, (∀ a ∈ l, ∃ b, a = f b ∧ p b) → ∃ m : List β, l = m.map f ∧ ∀ b ∈ m, p b
 | [], _ => ⟨[], rfl, by simp⟩
 | a :: l, h => by
  obtain ⟨b, hb, hp⟩ := h a (by simp)
  obtain ⟨m, hm, hq⟩ := list_of_forms (l := l) (fun a' ha' => h a' (by simp [ha']))
  exact ⟨b :: m, by rw [hb, hm]; rfl, by simpa using ⟨hp, hq⟩⟩
section
variable {H : Type} {enc : TypeId × Value → H} {P : Program} {w : World} {spare : Nat → Bool} {held : Bool}
theorem block_lt_of_cell {w : World} {a : Addr} {v : Value} (h : w.cell? a = some v) : a.block < w.heap.size := by
 rcases Nat.lt_or_ge a.block w.heap.size with hlt | hge
 ·exact hlt
 ·unfold World.cell? at h; rw [Array.getElem?_eq_none hge] at h; simp at h
theorem rows_of_trod {t e : TypeId} {m fuel : Nat} {cs : List Value} {x : DataW H × List MemPlace} (ht : P.underlying t = some (.slice e)) (hC : P.cellsOf e = m) (hm : 0 < m)
  (hf : DataW.trod enc P w 0 (fun _ => true) held fuel t cs = some x) :
  ∃ (A : Option Addr) (n c : Nat) (css : List (List Value)), cs = [.slice A n c] ∧ css.length = n ∧ n ≤ c ∧ c ≤ maxLen ∧ Rd w w.heap.size A css.flatten ∧
   ∀ cs ∈ css, cs.length = m ∧ ∃ fuel y, DataW.trod enc P w 0 (fun _ => true) held fuel e cs = some y := by
 rcases Go.Deep.open_slice ht hf with ⟨rfl, -⟩ | ⟨ad, len, cap, m', n', D, Pl, rfl, -, hl, hmx, hmm, -, hx⟩
 ·exact ⟨none, 0, 0, [], rfl, rfl, zL _, by omega, Rd.nil _ _ _, by simp⟩
 ·simp only [if_true] at hmm
  obtain rfl : cap = m' := hmm.symm
  rw [hC] at hx
  have hall : ∀ i, i < len → ∃ cs', (cs'.length = m ∧ (∀ j, j < m → w.cell? (ad.add (i * m + j)) = cs'[j]?)) ∧ ∃ y, DataW.trod enc P w 0 (fun _ => true) held n' e cs' = some y := by
   intro i hi
   obtain ⟨cs', h1, h2⟩ := hx i (by omega)
   obtain ⟨-, h3, h4⟩ := World.cells?_some h1
   exact ⟨cs', ⟨h3, fun j hj => by rw [← Go.Deep.add_add]; exact h4 j hj⟩, _, h2⟩
  obtain ⟨css, hlen, hat⟩ : ∃ css : List (List Value), css.length = len ∧ ∀ i (hi : i < css.length), (css[i].length = m ∧ (∀ j, j < m → w.cell? (ad.add (i * m + j)) = css[i][j]?)) ∧ ∃ y, DataW.trod enc P w 0 (fun _ => true) held n' e css[i] = some y := by
   clear hf hx hl
   induction len with
   | zero => exact ⟨[], rfl, fun i hi => by simp at hi⟩
   | succ n ih =>
    obtain ⟨css, hl, hc⟩ := ih (fun i hi => hall i (by omega))
    obtain ⟨cs', h1, h2⟩ := hall n (by omega)
    refine ⟨css ++ [cs'], by simp [hl], fun i hi => ?_⟩
    rcases Nat.lt_or_ge i css.length with hlt | hge
    ·rw [List.getElem_append_left hlt]; exact hc i hlt
    ·have hin : i = css.length := by simp at hi; omega
     subst hin
     rw [List.getElem_append_right (zL _)]
     simp only [Nat.sub_self, List.getElem_singleton]
     rw [hl]; exact ⟨h1, h2⟩
  refine ⟨some ad, len, cap, css, rfl, hlen, hl, hmx, ?_, fun cs hcs => ?_⟩
  ·intro hne
   have h0 : 0 < css.length := by
    rcases Nat.eq_zero_or_pos css.length with h | h
    ·rw [List.eq_nil_of_length_eq_zero h] at hne; simp at hne
    ·exact h
   obtain ⟨⟨hl0, hc0⟩, -⟩ := hat 0 h0
   have hfst := hc0 0 hm
   rw [Nat.zero_mul, Nat.zero_add, List.getElem?_eq_getElem (by omega)] at hfst
   obtain ⟨b, off, spot⟩ := ad
   have hspot : spot = none := by simpa [Addr.add] using World.cell?_spot hfst
   subst hspot
   refine ⟨b, off, rfl, ?_, fun j u hu => ?_⟩
   ·have := block_lt_of_cell hfst
    simpa [Addr.add] using this
   ·have hcl : ∀ a : Fin css.length, css[a].length = m := fun a => (hat a.1 a.2).1.1
    have hj : j < css.length * m := by
     have h1 := (List.getElem?_eq_some_iff.1 hu).1
     have h2 : ∀ (l : List (List Value)), (∀ x ∈ l, x.length = m) → l.flatten.length = l.length * m := fun l hl => by
      induction l with
      | nil => simp
      | cons x l ih => rw [List.flatten_cons, zG, ih (fun y hy => hl y (by simp [hy])), hl x (by simp), zH, Nat.add_mul]; omega
     rw [h2 css (fun x hx => by
      obtain ⟨i, hi, rfl⟩ := List.mem_iff_getElem.1 hx
      exact (hat i hi).1.1)] at h1
     exact h1
    have hd : j / m < css.length := Nat.div_lt_of_lt_mul (by rw [Nat.mul_comm]; exact hj)
    have hsplit : j = j / m * m + j % m := by rw [Nat.mul_comm]; exact (Nat.div_add_mod j m).symm
    have hmod : j % m < m := Nat.mod_lt _ hm
    have hkey : ∀ (l : List (List Value)) (k i : Nat) (cs : List Value), (∀ x ∈ l, x.length = m) → l[k]? = some cs → i < m → l.flatten[k * m + i]? = cs[i]? := fun l => by
     induction l with
     | nil => intro k i cs _ h; simp at h
     | cons x l ih =>
      intro k i cs hl h hi
      cases k with
      | zero =>
       simp only [zB, Option.some.injEq] at h; subst h
       rw [Nat.zero_mul, Nat.zero_add, List.flatten_cons, List.getElem?_append_left (by rw [hl x (by simp)]; exact hi)]
      | succ k =>
       simp only [zC] at h
       rw [List.flatten_cons, List.getElem?_append_right (by rw [hl x (by simp), Nat.add_mul]; omega), hl x (by simp), ← ih k i cs (fun y hy => hl y (by simp [hy])) h hi]
       congr 1
       rw [Nat.add_mul]; omega
    have h2 := (hat (j / m) hd).1.2 (j % m) hmod
    rw [← hsplit, Go.WideShapes.add_plain] at h2
    rw [h2]
    rw [hsplit, hkey css (j / m) (j % m) _ (fun x hx => by
      obtain ⟨i, hi, rfl⟩ := List.mem_iff_getElem.1 hx
      exact (hat i hi).1.1) (List.getElem?_eq_getElem hd) hmod] at hu
    exact hu
  ·obtain ⟨i, hi, rfl⟩ := List.mem_iff_getElem.1 hcs
   obtain ⟨h1, y, h2⟩ := hat i hi
   exact ⟨h1.1, n', y, h2⟩
theorem open_rows {r : Reach} {b0 : Nat} {t e : TypeId} {m : Nat} {v : Value} {d : DataW H} {p : List MemPlace} (ht : P.underlying t = some (.slice e)) (hC : P.cellsOf e = m) (hm : 0 < m)
  (hv : Value.okWide P w r b0 t v) (h : DataW.Trod enc P w 0 (fun _ => true) held t v d p) :
  ∃ (A : Option Addr) (n c : Nat) (css : List (List Value)), v = .slice A n c ∧ css.length = n ∧ n ≤ c ∧ c ≤ maxLen ∧ Rd w w.heap.size A css.flatten ∧
   ∀ cs ∈ css, cs.length = m ∧ ∃ fuel y, DataW.trod enc P w 0 (fun _ => true) held fuel e cs = some y := by
 obtain ⟨a, len, cap, rfl⟩ := okWide_slice ht hv
 obtain ⟨fuel, hf⟩ := h
 obtain ⟨A, n, c, css, hcs, r⟩ := rows_of_trod ht hC hm hf
 simp only [Value.cells, List.cons.injEq, and_true] at hcs
 exact ⟨A, n, c, css, hcs, r⟩
theorem law_post {fn : Func} {s : ChangeSpec} {W W' : World} {args : Array Value} {ds gs : List (DataW H)} {before : List MemPlace} {tb : TypeId}
  (hl : laidOutB P = true) (hr : (fn.params.toList.all fun t => P.readableRec t && decide (t < P.types.size)) = true) (hrt : fn.resultTypes = #[tb]) (hb : P.underlying tb = some .bool) (hvars : s.vars = [])
  (hs : s.fn H (ds ++ gs) = { results := [.lit (.bool true)], args := ds })
  (hW : DataW.Whole enc P fn.params.toList s.vars false W args.toList ds gs before) (hbl : Below W.heap.size W W') : s.post enc P fn false true false false W args (.bool true) W' := by
 have hlt : ∀ p ∈ before, p.block < W.heap.size := fun p hp => hW.lt p hp
 have hW0 := hW
 obtain ⟨p, q, hA, hV, rfl, -, -⟩ := hW
 rw [hvars] at hV
 obtain ⟨rfl, rfl⟩ : gs = [] ∧ q = [] := by
  cases gs with
  | nil => exact ⟨rfl, by simpa [DataW.TrodVars] using hV⟩
  | cons g gs => simp [DataW.TrodVars] at hV
 have hmap : ∀ (ts : List TypeId) (vs : List Value) (ds : List (DataW H)) (ps : List MemPlace), (ts.all fun t => P.readableRec t && decide (t < P.types.size)) = true → (∀ x ∈ ps, x.block < W.heap.size) →
   DataW.TrodAll enc P W 0 (fun _ => true) true ts vs ds ps → DataW.TrodAll enc P W' 0 (fun b => decide (b < W.heap.size)) true ts vs ds ps := by
  intro ts
  induction ts with
  | nil => intro vs ds ps _ _ h; obtain ⟨rfl, rfl, rfl⟩ := trodAll_nil h; exact trodAll_mk0
  | cons t ts ih =>
   intro vs ds ps hrr hps h
   obtain ⟨v, vs', d, ds', p, q, rfl, rfl, rfl, h1, h2⟩ := trodAll_cons h
   simp only [List.all_cons, Bool.and_eq_true, decide_eq_true_eq] at hrr
   exact trodAll_cons_mk (Below.trod hl hrr.1.1 hrr.1.2 h1 hbl (fun x hx => hps x (by simp [hx]))) (ih _ _ _ hrr.2 (fun x hx => hps x (by simp [hx])) h2)
 refine ⟨ds, [], p ++ [], [], p, [], hW0, ?_, ?_, ?_, World.keptBut_mono (fun x hx => ⟨hx, ?_⟩) (hbl.frame (· ∈ p ++ [])), fun h => by cases h⟩
 ·rw [hs, hrt]
  exact trodAll_cons_mk (shut_bool hb true) trodAll_mk0
 ·rw [hs]
  exact hmap _ _ _ _ hr (fun x hx => hlt x (by simp [hx])) hA
 ·rw [hs, hvars]; rfl
 ·exact Or.inr (Or.inl (by simpa using hx))
end
end
section
def OwnL {α : Type} (w : World) (base : Nat) (E : TypeId) (m : Nat) (v : Value) (f : α → List Value) (l : List α) : Prop := w.ownsRow base E m v l.length (l.flatMap f)
section
variable {α : Type} {w w' : World} {base : Nat} {E : TypeId} {m : Nat} {v : Value} {f : α → List Value} {l : List α}
theorem OwnL.nil : OwnL w base E m (.slice none 0 0) f [] := World.ownsRow_nil _ _ _ _
theorem OwnL.shape (h : OwnL w base E m v f l) : ∃ A c, v = .slice A l.length c := by
 rcases h.2 with ⟨rfl, h0⟩ | ⟨g, cap, cur, rfl, _⟩
 ·rw [h0]; exact ⟨_, _, rfl⟩
 ·exact ⟨_, _, rfl⟩
theorem OwnL.form (h : OwnL w base E m v f l) (hl : 0 < l.length) : ∃ g cap, v = .slice (some ⟨g, 0, none⟩) l.length cap ∧ base ≤ g ∧ g < w.heap.size := by
 rcases h.2 with ⟨rfl, h0⟩ | ⟨g, cap, cur, rfl, hb, hg, _⟩
 ·omega
 ·refine ⟨g, cap, rfl, hb, ?_⟩
  rcases Nat.lt_or_ge g w.heap.size with hlt | hge
  ·exact hlt
  ·rw [Array.getElem?_eq_none hge] at hg; cases hg
theorem OwnL.formA {A : Option Addr} {n c : Nat} (h : OwnL w base E m (.slice A n c) f l) (hl : 0 < l.length) : ∃ g, A = some ⟨g, 0, none⟩ ∧ n = l.length ∧ base ≤ g ∧ g < w.heap.size := by
 obtain ⟨g, cap, hv, hb, hlt⟩ := h.form hl
 simp only [Value.slice.injEq] at hv
 exact ⟨g, hv.1, hv.2.1, hb, hlt⟩
theorem OwnL.len {A : Option Addr} {n c : Nat} (h : OwnL w base E m (.slice A n c) f l) : n = l.length := by
 obtain ⟨A', c', e⟩ := h.shape
 simp only [Value.slice.injEq] at e
 exact e.2.1
theorem OwnL.cell {g n cap : Nat} (hf : ∀ a, (f a).length = m) (h : OwnL w base E m (.slice (some ⟨g, 0, none⟩) n cap) f l) {k j : Nat} {u : Value} (hk : k < l.length) (hu : (f l[k])[j]? = some u) :
  w.cell? ⟨g, k * m + j, none⟩ = some u := by
 obtain rfl := h.len
 have hj : j < m := by rw [← hf l[k]]; exact (List.getElem?_eq_some_iff.1 hu).1
 have hlt : k * m + j < l.length * m := by
  have : (k + 1) * m ≤ l.length * m := Nat.mul_le_mul_right _ hk
  rw [Nat.add_mul] at this; omega
 rw [World.ownsRow.cellAt h _ hlt, getElem?_flatMap f m hf l k j _ (List.getElem?_eq_getElem hk) hj, hu]
theorem OwnL.frozen {g n cap : Nat} (h : OwnL w base E m (.slice (some ⟨g, 0, none⟩) n cap) f l) (j : Nat) : w.frozen? ⟨g, j, none⟩ = false := by
 obtain rfl := h.len
 exact World.ownsRow.frozenAt h j
theorem set_flatMap (hf : ∀ a, (f a).length = m) : ∀ (l : List α) (k j : Nat) (u : Value) (a : α) (hk : k < l.length), j < m → f a = (f l[k]).set j u → (l.flatMap f).set (k * m + j) u = (l.set k a).flatMap f
 | x :: l, 0, j, u, a, _, hj, ha => by
  simp only [List.getElem_cons_zero] at ha
  rw [Nat.zero_mul, Nat.zero_add, List.flatMap_cons, List.set_append_left _ _ (by rw [hf]; exact hj), zE, List.flatMap_cons, ha]
 | x :: l, k + 1, j, u, a, hk, hj, ha => by
  simp only [List.getElem_cons_succ] at ha
  rw [List.flatMap_cons, List.set_append_right _ _ (by rw [hf, Nat.add_mul]; omega), hf, zF, List.flatMap_cons, ← set_flatMap hf l k j u a (by simpa using hk) hj ha]
  congr 2
  rw [Nat.add_mul]; omega
theorem OwnL.set {g n cap : Nat} (hf : ∀ a, (f a).length = m) (h : OwnL w base E m (.slice (some ⟨g, 0, none⟩) n cap) f l) {k j : Nat} {u : Value} {a : α} (hk : k < l.length) (hj : j < m) (ha : f a = (f l[k]).set j u) :
  OwnL (w.setCell ⟨g, k * m + j, none⟩ u) base E m (.slice (some ⟨g, 0, none⟩) n cap) f (l.set k a) := by
 obtain rfl := h.len
 unfold OwnL
 rw [List.length_set, ← set_flatMap hf l k j u a hk hj ha]
 exact (World.ownsRow.stored h (k * m + j) u).1
theorem OwnL.kept (h : OwnL w base E m v f l) {row : Option Nat} (hg : w.grownBy w' row) (hne : v.ownBlock = none ∨ v.ownBlock ≠ row) : OwnL w' base E m v f l := World.ownsRow.kept h hg hne
theorem OwnL.alloc (h : OwnL w base E m v f l) (o : Obj) : OwnL (w.alloc o) base E m v f l := World.ownsRow.alloc h o
theorem OwnL.drew (h : OwnL w base E m v f l) : OwnL w.drew base E m v f l := h
theorem OwnL.below (h : OwnL w base E m v f l) (hb : Below w.heap.size w w') : OwnL w' base E m v f l :=
 h.kept (row := none) ⟨hb.os, hb.tape, hb.output, hb.size, fun k hk _ => hb.block k hk⟩ (by
  cases hv : v.ownBlock with
  | none => exact .inl rfl
  | some g => exact .inr (by simp))
theorem OwnL.base_le (h : OwnL w base E m v f l) : ∀ k, v.ownBlock = some k → base ≤ k := fun k hk => (World.ownsRow.lt h k hk).1
theorem OwnL.block_lt (h : OwnL w base E m v f l) : ∀ k, v.ownBlock = some k → k < w.heap.size := fun k hk => (World.ownsRow.lt h k hk).2
theorem OwnL.far (h : OwnL w base E m v f l) {p : Addr} (hp : v.ownBlock ≠ some p.block) (u : Value) : OwnL (w.setCell p u) base E m v f l :=
 h.kept (row := some p.block) ⟨rfl, rfl, rfl, by simp [World.setCell], fun k _ hk => Below.heap_setCell w p u k (fun e => hk (by rw [e]))⟩ (.inr hp)
theorem OwnL.farG (h : OwnL w base E m v f l) {g : Nat} (hp : v.ownBlock ≠ some g) (o : Nat) (u : Value) : OwnL (w.setCell ⟨g, o, none⟩ u) base E m v f l := h.far (p := ⟨g, o, none⟩) hp u
theorem OwnL.rd {A : Option Addr} {n c : Nat} (h : OwnL w base E m (.slice A n c) f l) : Rd w w.heap.size A (l.flatMap f) := by
 obtain rfl := h.len
 exact Rd.of_own h
theorem OwnL.more {base' : Nat} (h : OwnL w base E m v f l) (hb : base' ≤ base) : OwnL w base' E m v f l := by
 refine ⟨h.1, ?_⟩
 rcases h.2 with h0 | ⟨g, cap, cur, hv, hbg, hr⟩
 ·exact .inl h0
 ·exact .inr ⟨g, cap, cur, hv, Nat.le_trans hb hbg, hr⟩
theorem OwnL.apart {β : Type} {base' : Nat} {E' : TypeId} {m' : Nat} {v' : Value} {f' : β → List Value} {l' : List β} (h : OwnL w base E m v f l) (h' : OwnL w base' E' m' v' f' l') (hne : E ≠ E') {g : Nat} (hg : v'.ownBlock = some g) : v.ownBlock ≠ some g := by
 rcases h.2 with ⟨rfl, _⟩ | ⟨g1, cap, cur, rfl, _, h1, _⟩
 ·simp [Value.ownBlock]
 ·rcases h'.2 with ⟨rfl, _⟩ | ⟨g2, cap2, cur2, rfl, _, h2, _⟩
  ·simp [Value.ownBlock] at hg
  ·simp only [Value.ownBlock, Option.some.injEq] at hg ⊢
   subst hg
   intro e
   injection e with e
   subst e
   rw [h1] at h2
   injection h2 with h2
   injection h2 with _ ht
   exact hne ht
theorem OwnL.lit {w : World} {base : Nat} {E : TypeId} {m : Nat} {f : α → List Value} (l : List α) (cs : Array Value) (hb : base ≤ w.heap.size) (hl : l.length ≤ maxLen) (hf : ∀ a, (f a).length = m) (hcs : cs.toList = l.flatMap f) {n c : Nat} (hn : n = l.length) (hc : c = l.length) :
  OwnL (w.alloc (.cells cs E)) base E m (.slice (some ⟨w.heap.size, 0, none⟩) n c) f l := by
 subst hn; subst hc
 unfold OwnL
 rw [← hcs]
 exact World.ownsRow_lit w cs l.length hb hl (by rw [← zK, hcs, length_flatMap_const f m hf])
end
theorem heap_new_at (W : World) (o : Obj) (g : Nat) (hg : g = W.heap.size) : (W.alloc o).heap[g]? = some o := by subst hg; exact heap_alloc_new W o
theorem cell_new_row (W : World) (cs : Array Value) (E : TypeId) (g : Nat) (hg : g = W.heap.size) : ∀ j u, cs.toList[j]? = some u → (W.alloc (.cells cs E)).cell? ((⟨g, 0, none⟩ : Addr).add j) = some u := by
 intro j u hu
 subst hg
 have := cell_of_row (W.alloc (.cells cs E)) W.heap.size j cs E (0, 0) (heap_alloc_new W _)
 rw [Go.WideShapes.add_plain, Nat.zero_add, this, ← hu]
 simp
section
variable {α : Type} {w w' : World} {base : Nat} {E : TypeId} {v : Value} {f : α → List Value} {l : List α}
theorem OwnL.one {g n cap : Nat} {h : α → Value} (hf : ∀ a, f a = [h a]) (ho : OwnL w base E 1 (.slice (some ⟨g, 0, none⟩) n cap) f l) {k : Nat} (hk : k < l.length) : w.cell? ⟨g, k, none⟩ = some (h l[k]) := by
 have := ho.cell (fun a => by rw [hf]; rfl) (k := k) (j := 0) (u := h l[k]) hk (by rw [hf]; rfl)
 simpa using this
theorem OwnL.set1 {g n cap : Nat} {h : α → Value} (hf : ∀ a, f a = [h a]) (ho : OwnL w base E 1 (.slice (some ⟨g, 0, none⟩) n cap) f l) {k : Nat} (hk : k < l.length) (a : α) :
  OwnL (w.setCell ⟨g, k, none⟩ (h a)) base E 1 (.slice (some ⟨g, 0, none⟩) n cap) f (l.set k a) := by
 have := ho.set (fun a => by rw [hf]; rfl) (k := k) (j := 0) (u := h a) (a := a) hk (by omega) (by rw [hf, hf]; rfl)
 simpa using this
end
def Blk (w : World) (g : Nat) (E : TypeId) (cs : Array Value) : Prop := w.heap[g]? = some (.cells cs E (0, 0))
section
variable {w w' : World} {g : Nat} {E : TypeId} {cs : Array Value}
theorem Blk.lt (h : Blk w g E cs) : g < w.heap.size := by
 rcases Nat.lt_or_ge g w.heap.size with hlt | hge
 ·exact hlt
 ·unfold Blk at h; rw [Array.getElem?_eq_none hge] at h; cases h
theorem Blk.cell (h : Blk w g E cs) (i : Nat) : w.cell? ⟨g, i, none⟩ = cs[i]? := cell_of_row w g i cs E (0, 0) h
theorem Blk.frozen (h : Blk w g E cs) (i : Nat) : w.frozen? ⟨g, i, none⟩ = false := frozen_of_row w g i cs E h
theorem Blk.new (w : World) (E : TypeId) (cs : Array Value) : Blk (w.alloc (.cells cs E)) w.heap.size E cs := heap_alloc_new w _
theorem Blk.drew (h : Blk w g E cs) : Blk w.drew g E cs := h
theorem Blk.drewN (h : Blk w g E cs) (n : Nat) : Blk (w.drewN n) g E cs := h
theorem Blk.alloc (h : Blk w g E cs) (o : Obj) : Blk (w.alloc o) g E cs := (Below.heap_alloc w o g h.lt).trans h
theorem Blk.set (h : Blk w g E cs) (i : Nat) (u : Value) : Blk (w.setCell ⟨g, i, none⟩ u) g E (cs.setIfInBounds i u) := heap_setCell_same w g i cs E u h
theorem Blk.far (h : Blk w g E cs) {p : Addr} (hp : g ≠ p.block) (u : Value) : Blk (w.setCell p u) g E cs := (Below.heap_setCell w p u g hp).trans h
theorem Blk.farG (h : Blk w g E cs) {k : Nat} (hp : g ≠ k) (o : Nat) (u : Value) : Blk (w.setCell ⟨k, o, none⟩ u) g E cs := h.far (p := ⟨k, o, none⟩) hp u
theorem Blk.below {B : Nat} (h : Blk w g E cs) (hb : Below B w w') (hg : g < B) : Blk w' g E cs := (hb.block g hg).trans h
theorem Blk.on (h : Blk w g E cs) (hb : Below w.heap.size w w') : Blk w' g E cs := h.below hb h.lt
theorem Blk.grown {row : Option Nat} (h : Blk w g E cs) (hb : w.grownBy w' row) (hg : row ≠ some g) : Blk w' g E cs := (hb.block g h.lt (fun e => hg e.symm)).trans h
theorem Blk.apart {α : Type} {base : Nat} {E' : TypeId} {m : Nat} {v : Value} {f : α → List Value} {l : List α} (h : Blk w g E cs) (h' : OwnL w base E' m v f l) (hne : E ≠ E') : v.ownBlock ≠ some g := by
 rcases h'.2 with ⟨rfl, _⟩ | ⟨g2, cap2, cur2, rfl, _, h2, _⟩
 ·simp [Value.ownBlock]
 ·intro e
  simp only [Value.ownBlock, Option.some.injEq] at e
  subst e
  unfold Blk at h
  rw [h] at h2
  injection h2 with h2
  injection h2 with _ ht
  exact hne ht
end
def rowOf {α : Type} (n : Nat) (f : Nat → α) : List α := (List.range n).map f
theorem rowOf_length {α : Type} (n : Nat) (f : Nat → α) : (rowOf n f).length = n := by simp [rowOf]
theorem rowOf_congr {α : Type} {n : Nat} {f g : Nat → α} (h : ∀ j, j < n → f j = g j) : rowOf n f = rowOf n g := by
 unfold rowOf
 exact List.map_congr_left fun j hj => h j (by simpa using hj)
theorem rowOf_set {α : Type} (n : Nat) (f : Nat → α) (k : Nat) (a : α) : (rowOf n f).set k a = rowOf n fun j => if j = k then a else f j := by
 apply List.ext_getElem
 ·simp [rowOf]
 ·intro i h1 h2
  rw [List.getElem_set]
  simp only [rowOf, List.getElem_map, List.getElem_range]
  by_cases h : i = k
  ·subst h; simp
  ·rw [if_neg (fun e => h e.symm), if_neg h]
theorem cell_new_row2 (W : World) (cs : Array Value) (E : TypeId) (g : Nat) (hg : g = W.heap.size) : ∀ j u, cs.toList[j]? = some u → (W.alloc (.cells cs E)).cell? ⟨g, j, none⟩ = some u := by
 intro j u hu
 have := cell_new_row W cs E g hg j u hu
 rwa [Go.WideShapes.add_plain, Nat.zero_add] at this
theorem rd_new (W : World) (cs : Array Value) (E : TypeId) (g : Nat) (hg : g = W.heap.size) (B : Nat) (hB : g < B) : Rd (W.alloc (.cells cs E)) B (some ⟨g, 0, none⟩) cs.toList := fun _ =>
 ⟨g, 0, rfl, hB, fun j u hu => by rw [Nat.zero_add]; exact cell_new_row2 W cs E g hg j u hu⟩
end
section
open Go.RowKit Go.WideShapes Go.ChangeShapes
structure Ev where
 frame : Int
 emitter : Int
 kind : Int
 ord : Int
 asset : Int
 gain : Int
 pan : Int
 prio : Int
 len : Int
def Ev.cells (e : Ev) : List Value := [.int .i64 e.frame, .int .i64 e.emitter, .int .i64 e.kind, .int .i64 e.ord, .int .i64 e.asset, .int .i64 e.gain, .int .i64 e.pan, .int .i64 e.prio, .int .i64 e.len]
theorem Ev.cells_length (e : Ev) : e.cells.length = 9 := rfl
def I64 (n : Int) : Prop := -9223372036854775808 ≤ n ∧ n ≤ 9223372036854775807
def EvAt (w : World) (b o : Nat) (e : Ev) : Prop :=
 w.cell? ⟨b, o, none⟩ = some (.int .i64 e.frame) ∧ w.cell? ⟨b, o + 1, none⟩ = some (.int .i64 e.emitter) ∧ w.cell? ⟨b, o + 2, none⟩ = some (.int .i64 e.kind) ∧ w.cell? ⟨b, o + 3, none⟩ = some (.int .i64 e.ord) ∧
 w.cell? ⟨b, o + 4, none⟩ = some (.int .i64 e.asset) ∧ w.cell? ⟨b, o + 5, none⟩ = some (.int .i64 e.gain) ∧ w.cell? ⟨b, o + 6, none⟩ = some (.int .i64 e.pan) ∧ w.cell? ⟨b, o + 7, none⟩ = some (.int .i64 e.prio) ∧
 w.cell? ⟨b, o + 8, none⟩ = some (.int .i64 e.len)
theorem Rd.ev {w : World} {B : Nat} {A : Option Addr} {l : List Ev} (h : Rd w B A (l.flatMap Ev.cells)) {k : Nat} (hk : k < l.length) :
  ∃ b off, A = some ⟨b, off, none⟩ ∧ b < B ∧ EvAt w b (off + k * 9) l[k] := by
 obtain ⟨b, off, hA, hb, hat⟩ := h.at_ Ev.cells_length (by omega) hk
 exact ⟨b, off, hA, hb, hat 0 _ rfl, hat 1 _ rfl, hat 2 _ rfl, hat 3 _ rfl, hat 4 _ rfl, hat 5 _ rfl, hat 6 _ rfl, hat 7 _ rfl, hat 8 _ rfl⟩
end
section
structure Key4 where
 frame : Int
 emitter : Int
 kind : Int
 ord : Int
def Key4.cells (k : Key4) : List Value := [.int .i64 k.frame, .int .i64 k.emitter, .int .i64 k.kind, .int .i64 k.ord]
def Key4.val (k : Key4) : Value := .agg #[.int .i64 k.frame, .int .i64 k.emitter, .int .i64 k.kind, .int .i64 k.ord]
def Ev.key (e : Ev) : Key4 := ⟨e.frame, e.emitter, e.kind, e.ord⟩
def Ev.val (e : Ev) : Value := .agg #[.int .i64 e.frame, .int .i64 e.emitter, .int .i64 e.kind, .int .i64 e.ord, .int .i64 e.asset, .int .i64 e.gain, .int .i64 e.pan, .int .i64 e.prio, .int .i64 e.len]
def cmpI (a b : Int) : Int := if a < b then -1 else if b < a then 1 else 0
def orI : List Int → Int
 | [] => 0
 | x :: l => if x = 0 then orI l else x
def cmpK (a b : Key4) : Int := orI [cmpI a.frame b.frame, cmpI a.emitter b.emitter, cmpI a.kind b.kind, cmpI a.ord b.ord]
def inB (n lo hi : Int) : Bool := decide (lo ≤ n ∧ n ≤ hi)
def keyOk (k : Key4) : Bool := inB k.frame 0 1073741824 && inB k.emitter 0 2 && inB k.kind 1 9 && inB k.ord 0 15
def evOk (e : Ev) : Bool := keyOk e.key && inB e.asset 0 31 && inB e.gain 0 32768 && inB e.pan (-32768) 32768 && inB e.prio 0 15 && inB e.len 0 600
theorem cmpI_bd (a b : Int) : -1 ≤ cmpI a b ∧ cmpI a b ≤ 1 := by unfold cmpI; repeat' split; all_goals omega
theorem orI_bd : ∀ l : List Int, (∀ x ∈ l, -1 ≤ x ∧ x ≤ 1) → -1 ≤ orI l ∧ orI l ≤ 1
 | [], _ => by simp [orI]
 | x :: l, h => by
  have h1 := h x (by simp)
  have h2 := orI_bd l fun y hy => h y (by simp [hy])
  rw [orI]; split <;> omega
theorem cmpK_bd (a b : Key4) : -1 ≤ cmpK a b ∧ cmpK a b ≤ 1 := by
 refine orI_bd _ fun x hx => ?_
 simp only [List.mem_cons, List.not_mem_nil, or_false] at hx
 rcases hx with rfl | rfl | rfl | rfl <;> exact cmpI_bd _ _
def Key4.Lt (a b : Key4) : Prop := a.frame < b.frame ∨ a.frame = b.frame ∧ (a.emitter < b.emitter ∨ a.emitter = b.emitter ∧ (a.kind < b.kind ∨ a.kind = b.kind ∧ a.ord < b.ord))
theorem cmpK_neg (a b : Key4) : cmpK a b < 0 ↔ a.Lt b := by
 unfold cmpK Key4.Lt
 simp only [orI, cmpI]
 repeat' split
 all_goals omega
theorem cmpK_pos (a b : Key4) : 0 < cmpK a b ↔ b.Lt a := by
 unfold cmpK Key4.Lt
 simp only [orI, cmpI]
 repeat' split
 all_goals omega
theorem cmpK_zero (a b : Key4) : cmpK a b = 0 ↔ a = b := by
 unfold cmpK
 cases a; cases b
 simp only [orI, cmpI, Key4.mk.injEq]
 repeat' split
 all_goals omega
theorem Key4.Lt.trans {a b c : Key4} (h : a.Lt b) (k : b.Lt c) : a.Lt c := by
 unfold Key4.Lt at *; omega
end
section
theorem Blk.ev {w : World} {g : Nat} {E : TypeId} {v0 v1 v2 v3 v4 v5 v6 v7 v8 : Value} (h : Blk w g E #[v0, v1, v2, v3, v4, v5, v6, v7, v8]) :
  w.cell? ⟨g, 0, none⟩ = some v0 ∧ w.cell? ⟨g, 1, none⟩ = some v1 ∧ w.cell? ⟨g, 2, none⟩ = some v2 ∧ w.cell? ⟨g, 3, none⟩ = some v3 ∧ w.cell? ⟨g, 4, none⟩ = some v4 ∧ w.cell? ⟨g, 5, none⟩ = some v5 ∧ w.cell? ⟨g, 6, none⟩ = some v6 ∧ w.cell? ⟨g, 7, none⟩ = some v7 ∧ w.cell? ⟨g, 8, none⟩ = some v8 :=
 ⟨h.cell 0, h.cell 1, h.cell 2, h.cell 3, h.cell 4, h.cell 5, h.cell 6, h.cell 7, h.cell 8⟩
theorem Blk.key {w : World} {g : Nat} {E : TypeId} {v0 v1 v2 v3 : Value} (h : Blk w g E #[v0, v1, v2, v3]) :
  w.cell? ⟨g, 0, none⟩ = some v0 ∧ w.cell? ⟨g, 1, none⟩ = some v1 ∧ w.cell? ⟨g, 2, none⟩ = some v2 ∧ w.cell? ⟨g, 3, none⟩ = some v3 :=
 ⟨h.cell 0, h.cell 1, h.cell 2, h.cell 3⟩
theorem Blk.set9 {w : World} {g : Nat} {E : TypeId} {v0 v1 v2 v3 v4 v5 v6 v7 v8 u0 u1 u2 u3 u4 u5 u6 u7 u8 : Value} (h : Blk w g E #[v0, v1, v2, v3, v4, v5, v6, v7, v8]) :
  Blk (((((((((w.setCell ⟨g, 0, none⟩ u0).setCell ⟨g, 1, none⟩ u1).setCell ⟨g, 2, none⟩ u2).setCell ⟨g, 3, none⟩ u3).setCell ⟨g, 4, none⟩ u4).setCell ⟨g, 5, none⟩ u5).setCell ⟨g, 6, none⟩ u6).setCell ⟨g, 7, none⟩ u7).setCell ⟨g, 8, none⟩ u8) g E #[u0, u1, u2, u3, u4, u5, u6, u7, u8] := by
 have h0 : Blk (w.setCell ⟨g, 0, none⟩ u0) g E #[u0, v1, v2, v3, v4, v5, v6, v7, v8] := h.set 0 u0
 have h1 : Blk (World.setCell _ ⟨g, 1, none⟩ u1) g E #[u0, u1, v2, v3, v4, v5, v6, v7, v8] := h0.set 1 u1
 have h2 : Blk (World.setCell _ ⟨g, 2, none⟩ u2) g E #[u0, u1, u2, v3, v4, v5, v6, v7, v8] := h1.set 2 u2
 have h3 : Blk (World.setCell _ ⟨g, 3, none⟩ u3) g E #[u0, u1, u2, u3, v4, v5, v6, v7, v8] := h2.set 3 u3
 have h4 : Blk (World.setCell _ ⟨g, 4, none⟩ u4) g E #[u0, u1, u2, u3, u4, v5, v6, v7, v8] := h3.set 4 u4
 have h5 : Blk (World.setCell _ ⟨g, 5, none⟩ u5) g E #[u0, u1, u2, u3, u4, u5, v6, v7, v8] := h4.set 5 u5
 have h6 : Blk (World.setCell _ ⟨g, 6, none⟩ u6) g E #[u0, u1, u2, u3, u4, u5, u6, v7, v8] := h5.set 6 u6
 have h7 : Blk (World.setCell _ ⟨g, 7, none⟩ u7) g E #[u0, u1, u2, u3, u4, u5, u6, u7, v8] := h6.set 7 u7
 have h8 : Blk (World.setCell _ ⟨g, 8, none⟩ u8) g E #[u0, u1, u2, u3, u4, u5, u6, u7, u8] := h7.set 8 u8
 exact h8
theorem Blk.set4 {w : World} {g : Nat} {E : TypeId} {v0 v1 v2 v3 u0 u1 u2 u3 : Value} (h : Blk w g E #[v0, v1, v2, v3]) :
  Blk ((((w.setCell ⟨g, 0, none⟩ u0).setCell ⟨g, 1, none⟩ u1).setCell ⟨g, 2, none⟩ u2).setCell ⟨g, 3, none⟩ u3) g E #[u0, u1, u2, u3] :=
 ((((h.set 0 u0).set 1 u1).set 2 u2).set 3 u3)
theorem within_any (n lo hi : Int) (w : World) : Calls Tryz.prog 186 #[.int .i64 n, .int .i64 lo, .int .i64 hi] w fun e w' => e = .returned (.bool (inB n lo hi)) ∧ w = w' := by
 have hz : inB n lo hi = decide (lo ≤ n ∧ n ≤ hi) := rfl
 by_cases h0 : lo ≤ n <;> by_cases h1 : n ≤ hi
 all_goals
  simp only [h0, h1, and_self, and_true, and_false, decide_true, decide_false] at hz
  have HZ := zz hz
  clear hz
  go_enter Tryz.func186, Tryz.ntmps186
  go_wp2
  go_ret
  exact ⟨ret_bool HZ.out.symm, rfl⟩
theorem cmp_any (a b : Int) (w : World) : Calls Tryz.prog 158 #[.int .i64 a, .int .i64 b] w fun e w' => e = .returned (.int .i64 (cmpI a b)) ∧ w = w' := by
 rcases Int.lt_trichotomy a b with h | h | h
 ·have HZ := zz (show cmpI a b = -1 by unfold cmpI; rw [if_pos h])
  go_enter Tryz.func158, Tryz.ntmps158
  go_wp2
  go_ret
  exact ⟨ret_int HZ.out.symm, rfl⟩
 ·subst h
  have HZ := zz (show cmpI a a = 0 by unfold cmpI; rw [if_neg (by omega), if_neg (by omega)])
  go_enter Tryz.func158, Tryz.ntmps158
  go_wp2
  go_ret
  exact ⟨ret_int HZ.out.symm, rfl⟩
 ·have HZ := zz (show cmpI a b = 1 by unfold cmpI; rw [if_neg (by omega), if_pos h])
  go_enter Tryz.func158, Tryz.ntmps158
  go_wp2
  go_ret
  exact ⟨ret_int HZ.out.symm, rfl⟩
theorem or_any (A : Option Addr) (c : Nat) (l : List Int) (w : World) (hn : l.length ≤ 1000) (hr : Rd w w.heap.size A (l.map (Value.int .i64))) : Calls Tryz.prog 157 #[.slice A l.length c] w fun e w' => e = .returned (.int .i64 (orI l)) ∧ w = w' := by
 have HR := zz hr
 clear hr
 go_enter Tryz.func157, Tryz.ntmps157
 go_wp2
 go_loopw [8] (fun i wr => ∃ k : Nat, k ≤ l.length ∧ i = .int .i64 k ∧ Hid (orI l = orI (l.drop k)) ∧ wr = w) (fun i _ => l.length - (intOf i).toNat)
 case atStart => exact ⟨0, Nat.zero_le _, rfl, rfl, rfl⟩
 case round =>
  obtain ⟨k, hk, rfl, hz, rfl⟩ := hrel
  by_cases hlt : k < l.length
  ·obtain ⟨b, off, rfl, hB, hc⟩ := HR.out.one (k := k) (by simpa using hlt)
   simp only [List.getElem_map] at hc
   have hst : orI (l.drop k) = if l[k] = 0 then orI (l.drop (k + 1)) else l[k] := by rw [List.drop_eq_getElem_cons hlt, orI]
   have HS := zz hst
   clear hst
   by_cases h0 : l[k] = 0
   ·have H0 := zz h0
    have hb : (l[k] != 0) = false := by simpa using h0
    clear h0
    go_wp2
    go_roundw
    case rel => exact ⟨k + 1, by omega, by go_num, (show _ = _ by rw [hz.out, HS.out, if_pos H0.out]), trivial⟩
    case measure => simp [intOf]; omega
   ·have H0 := zz h0
    have hb : (l[k] != 0) = true := by simpa using h0
    clear h0
    go_wp2
    go_ret
    exact ⟨ret_int (by rw [hz.out, HS.out, if_neg H0.out]), rfl⟩
  ·have e1 : orI l = 0 := by rw [hz.out, List.drop_of_length_le (by omega), orI]
   have E1 := zz e1
   clear e1
   go_wp2
   go_ret
   exact ⟨ret_int E1.out.symm, rfl⟩
set_option maxRecDepth 100000 in
theorem compare_any (a b : Key4) (w : World) : Calls Tryz.prog 80 #[a.val, b.val] w fun e w' => e = .returned (.int .i64 (cmpK a b)) ∧ Below w.heap.size w w' := by
 unfold Key4.val
 go_enter Tryz.func80, Tryz.ntmps80
 go_wp2_with fail
 obtain ⟨W1, hW1⟩ : ∃ W1, W1 = (w.alloc (.cells #[.int .i64 a.frame, .int .i64 a.emitter, .int .i64 a.kind, .int .i64 a.ord] 60)).alloc (.cells #[.int .i64 b.frame, .int .i64 b.emitter, .int .i64 b.kind, .int .i64 b.ord] 60) := ⟨_, rfl⟩
 have hba : Blk W1 w.heap.size 60 #[.int .i64 a.frame, .int .i64 a.emitter, .int .i64 a.kind, .int .i64 a.ord] := by rw [hW1]; exact (Blk.new _ _ _).alloc _
 have hbb : Blk W1 (w.heap.size + 1) 60 #[.int .i64 b.frame, .int .i64 b.emitter, .int .i64 b.kind, .int .i64 b.ord] := by
  rw [hW1]
  have := Blk.new (w.alloc (.cells #[.int .i64 a.frame, .int .i64 a.emitter, .int .i64 a.kind, .int .i64 a.ord] 60)) 60 #[.int .i64 b.frame, .int .i64 b.emitter, .int .i64 b.kind, .int .i64 b.ord]
  simpa using this
 have hsz : W1.heap.size = w.heap.size + 2 := by rw [hW1]; simp
 have hbw : Below w.heap.size w W1 := by rw [hW1]; exact bAlloc (bAlloc (Below.refl _ _) _) _
 have a0 := hba.cell 0
 have a1 := hba.cell 1
 have a2 := hba.cell 2
 have a3 := hba.cell 3
 have b0 := hbb.cell 0
 have b1 := hbb.cell 1
 have b2 := hbb.cell 2
 have b3 := hbb.cell 3
 simp only [zA, zB, zC] at a0 a1 a2 a3 b0 b1 b2 b3
 rw [← hW1]
 have hs1 : w.heap.size < W1.heap.size := by omega
 have hs2 : w.heap.size + 1 < W1.heap.size := by omega
 clear hW1 hba hbb hsz
 go_region_held3 (fun w' => w'.cell? ⟨w.heap.size, 0, none⟩ = some (.int .i64 a.frame) ∧ w'.cell? ⟨w.heap.size, 1, none⟩ = some (.int .i64 a.emitter) ∧ w'.cell? ⟨w.heap.size, 2, none⟩ = some (.int .i64 a.kind) ∧ w'.cell? ⟨w.heap.size, 3, none⟩ = some (.int .i64 a.ord) ∧
   w'.cell? ⟨w.heap.size + 1, 0, none⟩ = some (.int .i64 b.frame) ∧ w'.cell? ⟨w.heap.size + 1, 1, none⟩ = some (.int .i64 b.emitter) ∧ w'.cell? ⟨w.heap.size + 1, 2, none⟩ = some (.int .i64 b.kind) ∧ w'.cell? ⟨w.heap.size + 1, 3, none⟩ = some (.int .i64 b.ord))
  (first | go_keep)
  (first
   | (go_at_call 158; refine (cmp_any _ _ _).mono ?_; rintro e w4 ⟨rfl, rfl⟩)
   | (go_at_call 157; refine (or_any _ _ [cmpI a.frame b.frame, cmpI a.emitter b.emitter, cmpI a.kind b.kind, cmpI a.ord b.ord] _ (by simp) (by exact rd_new W1 _ 3 _ rfl _ (by simp))).mono ?_; rintro e w4 ⟨rfl, rfl⟩))
 go_wp2
 go_ret
 exact ⟨rfl, (bAlloc hbw _).drew⟩
end
section
set_option maxRecDepth 100000 in
theorem key_any (k : Key4) (w : World) : Calls Tryz.prog 306 #[k.val] w fun e w' => e = .returned (.bool (keyOk k)) ∧ Below w.heap.size w w' := by
 unfold Key4.val
 go_enter Tryz.func306, Tryz.ntmps306
 go_wp2_with (go_at_call 186; refine (within_any _ _ _ _).mono ?_; rintro e w' ⟨rfl, rfl⟩)
 all_goals
  go_ret
  refine ⟨ret_bool ?_, (by repeat (first | exact Below.refl _ _ | (with_reducible assumption) | apply bAlloc | apply below_drewN | apply Below.drew))⟩
  simp [keyOk, *]
set_option maxRecDepth 100000 in
theorem right_any (x : Ev) (w : World) : Calls Tryz.prog 291 #[x.val] w fun e w' => e = .returned (.bool (evOk x)) ∧ Below w.heap.size w w' := by
 unfold Ev.val
 go_enter Tryz.func291, Tryz.ntmps291
 go_wp2_with fail
 refine (key_any x.key _).mono ?_
 rintro e w1 ⟨rfl, hb1⟩
 have hbk := (Blk.new w 62 #[.int .i64 x.frame, .int .i64 x.emitter, .int .i64 x.kind, .int .i64 x.ord, .int .i64 x.asset, .int .i64 x.gain, .int .i64 x.pan, .int .i64 x.prio, .int .i64 x.len]).on hb1
 have c4 := hbk.cell 4
 have c5 := hbk.cell 5
 have c6 := hbk.cell 6
 have c7 := hbk.cell 7
 have c8 := hbk.cell 8
 simp only [zA, zB, zC] at c4 c5 c6 c7 c8
 have hbw := bTrans (bAlloc (Below.refl w.heap.size w) (.cells #[.int .i64 x.frame, .int .i64 x.emitter, .int .i64 x.kind, .int .i64 x.ord, .int .i64 x.asset, .int .i64 x.gain, .int .i64 x.pan, .int .i64 x.prio, .int .i64 x.len] 62)) hb1
 clear hbk hb1
 cases hk : keyOk x.key
 all_goals
  have HK := zz hk
  clear hk
  go_wp2_with (go_at_call 186; refine (within_any _ _ _ _).mono ?_; rintro e w' ⟨rfl, rfl⟩)
  all_goals
   go_ret
   refine ⟨ret_bool ?_, hbw⟩
   simp [evOk, HK.out, *]
end
section
set_option maxRecDepth 100000 in
theorem findC_any (x : Ev) (k : Key4) (w : World) : Calls Tryz.prog 320 #[x.val, k.val] w fun e w' => e = .returned (.int .i64 (cmpK x.key k)) ∧ Below w.heap.size w w' := by
 unfold Ev.val Key4.val
 go_enter Tryz.func320, Tryz.ntmps320
 go_wp2_with fail
 refine (compare_any x.key k _).mono ?_
 rintro e w1 ⟨rfl, hb1⟩
 go_wp2
 go_ret
 exact ⟨rfl, bTrans (bAlloc (bAlloc (Below.refl _ _) _) _) hb1⟩
set_option maxRecDepth 100000 in
theorem order_any (x y : Ev) (w : World) : Calls Tryz.prog 294 #[x.val, y.val] w fun e w' => e = .returned (.int .i64 (cmpK x.key y.key)) ∧ Below w.heap.size w w' := by
 unfold Ev.val
 go_enter Tryz.func294, Tryz.ntmps294
 go_wp2_with fail
 refine (compare_any x.key y.key _).mono ?_
 rintro e w1 ⟨rfl, hb1⟩
 go_wp2
 go_ret
 exact ⟨rfl, bTrans (bAlloc (bAlloc (Below.refl _ _) _) _) hb1⟩
end
section
def insL {α : Type} (L : List α) (i : Nat) (x : α) : List α := L.take i ++ x :: L.drop i
theorem insL_length {α : Type} (L : List α) (i : Nat) (x : α) : (insL L i x).length = L.length + 1 := by
 unfold insL; rw [zG, zH, List.length_take, List.length_drop]; omega
theorem insL_end {α : Type} (L : List α) (x : α) : insL L L.length x = L ++ [x] := by unfold insL; simp
theorem mem_insL {α : Type} {L : List α} {i : Nat} {x e : α} : e ∈ insL L i x ↔ e = x ∨ e ∈ L := by
 unfold insL
 rw [List.mem_append, List.mem_cons]
 constructor
 ·rintro (h | h | h)
  ·exact .inr (List.mem_of_mem_take h)
  ·exact .inl h
  ·exact .inr (List.mem_of_mem_drop h)
 ·rintro (h | h)
  ·exact .inr (.inl h)
  ·rw [← List.take_append_drop i L, List.mem_append] at h
   rcases h with h | h
   ·exact .inl h
   ·exact .inr (.inr h)
def SortedE (L : List Ev) : Prop := L.Pairwise fun x y => x.key.Lt y.key
theorem Tryz.infoEv : (Tryz.prog.info? 62).map (fun i => (i.zero, i.size, i.bytes)) = some (some (.agg #[.int .i64 0, .int .i64 0, .int .i64 0, .int .i64 0, .int .i64 0, .int .i64 0, .int .i64 0, .int .i64 0, .int .i64 0]), 9, 72) := by kernel_rfl
end
end Go.Proofs.YtibeihcpehikoaaGreat
