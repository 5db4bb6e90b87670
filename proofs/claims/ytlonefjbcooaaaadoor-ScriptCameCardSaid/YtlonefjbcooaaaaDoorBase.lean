/-
  What every law of this seat shares: how a slice of cells reads, how an argument is opened to plain data, and that a call which
  writes nothing below the blocks that were there gives the law's own 'post'. No program is named here.
-/
import Derived.WalkKit
import Derived.WalkSpells
import Derived.WalkLawsBesides
import Derived.Deep.QuietTactic
import Derived.BigQuiet
import Derived.Lib.Hide
import Derived.ProofKit
import Derived.OpenShut
import Derived.Deep.Slices
namespace Go.Proofs.YtlonefjbcooaaaaDoor
open Go.RowKit Go.WideShapes Go.ChangeShapes

/-- The cells of a slice, wherever it lies below block B; of an empty one nothing is said. -/
def Rd (w : World) (B : Nat) (A : Option Addr) (xs : List Value) : Prop :=
  xs ≠ [] → ∃ b off, A = some ⟨b, off, none⟩ ∧ b < B ∧ ∀ j u, xs[j]? = some u → w.cell? ⟨b, off + j, none⟩ = some u

theorem bAlloc {a w : World} (h : Below a.heap.size a w) (o : Obj) : Below a.heap.size a (w.alloc o) := h.alloc h.size o
theorem bTrans {a w w' : World} (h : Below a.heap.size a w) (k : Below w.heap.size w w') : Below a.heap.size a w' := h.trans (k.mono h.size)
theorem bSet {a w : World} (h : Below a.heap.size a w) {p : Addr} (hp : a.heap.size ≤ p.block) (u : Value) : Below a.heap.size a (w.setCell p u) := h.setCell hp u
theorem bSetG {a w : World} (h : Below a.heap.size a w) {g : Nat} (hp : a.heap.size ≤ g) (o : Nat) (u : Value) : Below a.heap.size a (w.setCell ⟨g, o, none⟩ u) := h.setCell (p := ⟨g, o, none⟩) hp u
theorem below_drewN {B : Nat} {a w : World} (h : Below B a w) (n : Nat) : Below B a (w.drewN n) := ⟨h.os, h.tape, h.output, h.size, h.block⟩

theorem Rd.nil (w : World) (B : Nat) (A : Option Addr) : Rd w B A [] := fun h => absurd rfl h
theorem Rd.below {w w' : World} {B B' : Nat} {A : Option Addr} {xs : List Value} (h : Rd w B A xs) (hb : Below B' w w') (hB : B ≤ B') : Rd w' B A xs := fun hn => by
  obtain ⟨b, off, e, hlt, hc⟩ := h hn
  exact ⟨b, off, e, hlt, fun j u hu => (hb.cell (p := ⟨b, off + j, none⟩) (Nat.lt_of_lt_of_le hlt hB)).trans (hc j u hu)⟩
theorem Rd.more {w : World} {B B' : Nat} {A : Option Addr} {xs : List Value} (h : Rd w B A xs) (hB : B ≤ B') : Rd w B' A xs := fun hn => by
  obtain ⟨b, off, e, hlt, hc⟩ := h hn
  exact ⟨b, off, e, Nat.lt_of_lt_of_le hlt hB, hc⟩
theorem Rd.drew {w : World} {B : Nat} {A : Option Addr} {xs : List Value} (h : Rd w B A xs) : Rd w.drew B A xs := h
theorem Rd.drewN {w : World} {B : Nat} {A : Option Addr} {xs : List Value} (h : Rd w B A xs) (n : Nat) : Rd (w.drewN n) B A xs := h
/-- A row of the call's own reads as a slice. -/
theorem Rd.of_own {w : World} {base : Nat} {e : TypeId} {size n c : Nat} {A : Option Addr} {xs : List Value} (h : w.ownsRow base e size (.slice A n c) n xs) : Rd w w.heap.size A xs := fun hne => by
  rcases h.2 with ⟨_, h0⟩ | ⟨g, cap, cur, hv, _, hg, _⟩
  · subst h0; exact absurd (List.eq_nil_of_length_eq_zero (by simpa using h.1)) hne
  · simp only [Value.slice.injEq] at hv
    obtain ⟨rfl, -, rfl⟩ := hv
    refine ⟨g, 0, rfl, ?_, fun j u hu => ?_⟩
    · rcases Nat.lt_or_ge g w.heap.size with hlt | hge
      · exact hlt
      · rw [Array.getElem?_eq_none hge] at hg; cases hg
    · have hj : j < n * size := by rw [← h.1]; exact (List.getElem?_eq_some_iff.1 hu).1
      rw [Nat.zero_add, h.cellAt j hj, hu]

theorem getElem?_flatMap {α β : Type} (f : α → List β) (m : Nat) (hf : ∀ a, (f a).length = m) : ∀ (l : List α) (k j : Nat) (a : α), l[k]? = some a → j < m → (l.flatMap f)[k * m + j]? = (f a)[j]?
  | x :: l, 0, j, a, h, hj => by
    simp only [List.getElem?_cons_zero, Option.some.injEq] at h; subst h
    simp [List.flatMap_cons, List.getElem?_append, hf, hj]
  | x :: l, k + 1, j, a, h, hj => by
    simp only [List.getElem?_cons_succ] at h
    rw [List.flatMap_cons, List.getElem?_append_right (by rw [hf, Nat.add_mul]; omega), hf, ← getElem?_flatMap f m hf l k j a h hj]
    congr 1
    rw [Nat.add_mul]; omega
theorem length_flatMap_const {α β : Type} (f : α → List β) (m : Nat) (hf : ∀ a, (f a).length = m) (l : List α) : (l.flatMap f).length = l.length * m := by
  induction l with
  | nil => simp
  | cons x l ih => rw [List.flatMap_cons, List.length_append, ih, hf, List.length_cons, Nat.add_mul]; omega

/-- The k-th element's cells. -/
theorem Rd.at_ {α : Type} {f : α → List Value} {m : Nat} (hf : ∀ a, (f a).length = m) (hm : 0 < m) {w : World} {B : Nat} {A : Option Addr} {l : List α} (h : Rd w B A (l.flatMap f)) {k : Nat} (hk : k < l.length) :
    ∃ b off, A = some ⟨b, off, none⟩ ∧ b < B ∧ ∀ j u, (f l[k])[j]? = some u → w.cell? ⟨b, off + k * m + j, none⟩ = some u := by
  have hne : l.flatMap f ≠ [] := by
    intro h0
    have := length_flatMap_const f m hf l
    rw [h0] at this
    have h1 : 1 ≤ l.length * m := Nat.mul_pos (by omega) hm
    simp at this; omega
  obtain ⟨b, off, hA, hb, hc⟩ := h hne
  refine ⟨b, off, hA, hb, fun j u hu => ?_⟩
  have hj : j < m := by rw [← hf l[k]]; exact (List.getElem?_eq_some_iff.1 hu).1
  rw [Nat.add_assoc]
  exact hc _ u ((getElem?_flatMap f m hf l k j _ (List.getElem?_eq_getElem hk) hj).trans hu)
/-- A part of a slice. -/
theorem Rd.sub {α : Type} {f : α → List Value} {m : Nat} (hf : ∀ a, (f a).length = m) {w : World} {B b off : Nat} {l : List α} (h : Rd w B (some ⟨b, off, none⟩) (l.flatMap f)) {k i : Nat} (hki : k ≤ i) (hi : i ≤ l.length) :
    Rd w B (some ⟨b, off + k * m, none⟩) (((l.take i).drop k).flatMap f) := by
  have hl : l = l.take k ++ ((l.take i).drop k ++ l.drop i) := by
    have h1 : l.take k = (l.take i).take k := by rw [List.take_take, Nat.min_eq_left hki]
    rw [h1, ← List.append_assoc, List.take_append_drop, List.take_append_drop]
  intro hne
  have hne' : l.flatMap f ≠ [] := by
    intro h0
    rw [hl, List.flatMap_append, List.flatMap_append] at h0
    simp only [List.append_eq_nil_iff] at h0
    exact hne h0.2.1
  obtain ⟨b', off', e, hb, hc⟩ := h hne'
  simp only [Option.some.injEq, Addr.mk.injEq, and_true] at e
  obtain ⟨rfl, rfl⟩ := e
  refine ⟨b, off + k * m, rfl, hb, fun j u hu => ?_⟩
  rw [Nat.add_assoc]
  refine hc _ u ?_
  rw [hl, List.flatMap_append, List.flatMap_append, List.getElem?_append_right (by rw [length_flatMap_const f m hf, List.length_take]; exact Nat.le_trans (Nat.mul_le_mul_right _ (Nat.min_le_left _ _)) (Nat.le_add_right _ _)),
    length_flatMap_const f m hf, List.length_take, Nat.min_eq_left (by omega), Nat.add_sub_cancel_left, List.getElem?_append_left (List.getElem?_eq_some_iff.1 hu).1]
  exact hu
theorem Rd.tail {α : Type} {f : α → List Value} {m : Nat} (hf : ∀ a, (f a).length = m) {w : World} {B : Nat} {A : Option Addr} {l : List α} (h : Rd w B A (l.flatMap f)) {k : Nat} (hk : k ≤ l.length) :
    Rd w B (Option.map (fun x => x.add (k * m)) A) ((l.drop k).flatMap f) := by
  intro hne
  have hne' : l.flatMap f ≠ [] := by
    intro h0
    rw [← List.take_append_drop k l, List.flatMap_append] at h0
    simp only [List.append_eq_nil_iff] at h0
    exact hne h0.2
  obtain ⟨b, off, rfl, -, -⟩ := h hne'
  have := h.sub hf hk (Nat.le_refl _)
  rw [List.take_length] at this
  have e : Option.map (fun x : Addr => x.add (k * m)) (some ⟨b, off, none⟩) = some ⟨b, off + k * m, none⟩ := by
    simp [Go.WideShapes.add_plain]
  rw [e]
  exact this hne
/-- Elements of one cell. -/
theorem Rd.one {w : World} {B : Nat} {A : Option Addr} {xs : List Value} (h : Rd w B A xs) {k : Nat} (hk : k < xs.length) :
    ∃ b off, A = some ⟨b, off, none⟩ ∧ b < B ∧ w.cell? ⟨b, off + k, none⟩ = some xs[k] := by
  obtain ⟨b, off, hA, hb, hc⟩ := h (fun h0 => by rw [h0] at hk; simp at hk)
  exact ⟨b, off, hA, hb, hc k _ (List.getElem?_eq_getElem hk)⟩

theorem ret_bool {a b : Bool} (h : a = b) : Ending.returned (.bool a) = .returned (.bool b) := by rw [h]
theorem ret_int {k : IntKind} {a b : Int} (h : a = b) : Ending.returned (.int k a) = .returned (.int k b) := by rw [h]

/-- A list whose members all are of a form is a list of that form. -/
theorem list_of_forms {α β : Type} {f : β → α} {p : β → Prop} : ∀ {l : List α}, (∀ a ∈ l, ∃ b, a = f b ∧ p b) → ∃ m : List β, l = m.map f ∧ ∀ b ∈ m, p b
  | [], _ => ⟨[], rfl, by simp⟩
  | a :: l, h => by
    obtain ⟨b, hb, hp⟩ := h a (by simp)
    obtain ⟨m, hm, hq⟩ := list_of_forms (l := l) (fun a' ha' => h a' (by simp [ha']))
    exact ⟨b :: m, by rw [hb, hm]; rfl, by simpa using ⟨hp, hq⟩⟩

section
variable {H : Type} {enc : TypeId × Value → H} {P : Program} {w : World} {spare : Nat → Bool} {held : Bool}

theorem block_lt_of_cell {w : World} {a : Addr} {v : Value} (h : w.cell? a = some v) : a.block < w.heap.size := by
  rcases Nat.lt_or_ge a.block w.heap.size with hlt | hge
  · exact hlt
  · unfold World.cell? at h; rw [Array.getElem?_eq_none hge] at h; simp at h

/-- A slice as it reads: its elements' cells, each element with its own reading. -/
theorem rows_of_trod {t e : TypeId} {m fuel : Nat} {cs : List Value} {x : DataW H × List MemPlace} (ht : P.underlying t = some (.slice e)) (hC : P.cellsOf e = m) (hm : 0 < m)
    (hf : DataW.trod enc P w 0 (fun _ => true) held fuel t cs = some x) :
    ∃ (A : Option Addr) (n c : Nat) (css : List (List Value)), cs = [.slice A n c] ∧ css.length = n ∧ n ≤ c ∧ c ≤ maxLen ∧ Rd w w.heap.size A css.flatten ∧
      ∀ cs ∈ css, cs.length = m ∧ ∃ fuel y, DataW.trod enc P w 0 (fun _ => true) held fuel e cs = some y := by
  rcases Go.Deep.open_slice ht hf with ⟨rfl, -⟩ | ⟨ad, len, cap, m', n', D, Pl, rfl, -, hl, hmx, hmm, -, hx⟩
  · exact ⟨none, 0, 0, [], rfl, rfl, Nat.le_refl _, by omega, Rd.nil _ _ _, by simp⟩
  · simp only [if_true] at hmm
    obtain rfl : cap = m' := hmm.symm
    rw [hC] at hx
    have hall : ∀ i, i < len → ∃ cs', (cs'.length = m ∧ (∀ j, j < m → w.cell? (ad.add (i * m + j)) = cs'[j]?)) ∧ ∃ y, DataW.trod enc P w 0 (fun _ => true) held n' e cs' = some y := by
      intro i hi
      obtain ⟨cs', h1, h2⟩ := hx i (by omega)
      obtain ⟨-, h3, h4⟩ := World.cells?_some h1
      exact ⟨cs', ⟨h3, fun j hj => by rw [← Go.Deep.add_add]; exact h4 j hj⟩, _, h2⟩
    obtain ⟨css, hlen, hat⟩ : ∃ css : List (List Value), css.length = len ∧ ∀ i (hi : i < css.length), (css[i].length = m ∧ (∀ j, j < m → w.cell? (ad.add (i * m + j)) = css[i][j]?)) ∧ ∃ y, DataW.trod enc P w 0 (fun _ => true) held n' e css[i] = some y := by
      clear hf hx hl
      induction len with
      | zero => exact ⟨[], rfl, fun i hi => by simp at hi⟩
      | succ n ih =>
        obtain ⟨css, hl, hc⟩ := ih (fun i hi => hall i (by omega))
        obtain ⟨cs', h1, h2⟩ := hall n (by omega)
        refine ⟨css ++ [cs'], by simp [hl], fun i hi => ?_⟩
        rcases Nat.lt_or_ge i css.length with hlt | hge
        · rw [List.getElem_append_left hlt]; exact hc i hlt
        · have hin : i = css.length := by simp at hi; omega
          subst hin
          rw [List.getElem_append_right (Nat.le_refl _)]
          simp only [Nat.sub_self, List.getElem_singleton]
          rw [hl]; exact ⟨h1, h2⟩
    refine ⟨some ad, len, cap, css, rfl, hlen, hl, hmx, ?_, fun cs hcs => ?_⟩
    · intro hne
      have h0 : 0 < css.length := by
        rcases Nat.eq_zero_or_pos css.length with h | h
        · rw [List.eq_nil_of_length_eq_zero h] at hne; simp at hne
        · exact h
      obtain ⟨⟨hl0, hc0⟩, -⟩ := hat 0 h0
      have hfst := hc0 0 hm
      rw [Nat.zero_mul, Nat.zero_add, List.getElem?_eq_getElem (by omega)] at hfst
      obtain ⟨b, off, spot⟩ := ad
      have hspot : spot = none := by simpa [Addr.add] using World.cell?_spot hfst
      subst hspot
      refine ⟨b, off, rfl, ?_, fun j u hu => ?_⟩
      · have := block_lt_of_cell hfst
        simpa [Addr.add] using this
      · have hcl : ∀ a : Fin css.length, css[a].length = m := fun a => (hat a.1 a.2).1.1
        have hj : j < css.length * m := by
          have h1 := (List.getElem?_eq_some_iff.1 hu).1
          have h2 : ∀ (l : List (List Value)), (∀ x ∈ l, x.length = m) → l.flatten.length = l.length * m := fun l hl => by
            induction l with
            | nil => simp
            | cons x l ih => rw [List.flatten_cons, List.length_append, ih (fun y hy => hl y (by simp [hy])), hl x (by simp), List.length_cons, Nat.add_mul]; omega
          rw [h2 css (fun x hx => by
            obtain ⟨i, hi, rfl⟩ := List.mem_iff_getElem.1 hx
            exact (hat i hi).1.1)] at h1
          exact h1
        have hd : j / m < css.length := Nat.div_lt_of_lt_mul (by rw [Nat.mul_comm]; exact hj)
        have hsplit : j = j / m * m + j % m := by rw [Nat.mul_comm]; exact (Nat.div_add_mod j m).symm
        have hmod : j % m < m := Nat.mod_lt _ hm
        have hkey : ∀ (l : List (List Value)) (k i : Nat) (cs : List Value), (∀ x ∈ l, x.length = m) → l[k]? = some cs → i < m → l.flatten[k * m + i]? = cs[i]? := fun l => by
          induction l with
          | nil => intro k i cs _ h; simp at h
          | cons x l ih =>
            intro k i cs hl h hi
            cases k with
            | zero =>
              simp only [List.getElem?_cons_zero, Option.some.injEq] at h; subst h
              rw [Nat.zero_mul, Nat.zero_add, List.flatten_cons, List.getElem?_append_left (by rw [hl x (by simp)]; exact hi)]
            | succ k =>
              simp only [List.getElem?_cons_succ] at h
              rw [List.flatten_cons, List.getElem?_append_right (by rw [hl x (by simp), Nat.add_mul]; omega), hl x (by simp), ← ih k i cs (fun y hy => hl y (by simp [hy])) h hi]
              congr 1
              rw [Nat.add_mul]; omega
        have h2 := (hat (j / m) hd).1.2 (j % m) hmod
        rw [← hsplit, Go.WideShapes.add_plain] at h2
        rw [h2]
        rw [hsplit, hkey css (j / m) (j % m) _ (fun x hx => by
            obtain ⟨i, hi, rfl⟩ := List.mem_iff_getElem.1 hx
            exact (hat i hi).1.1) (List.getElem?_eq_getElem hd) hmod] at hu
        exact hu
    · obtain ⟨i, hi, rfl⟩ := List.mem_iff_getElem.1 hcs
      obtain ⟨h1, y, h2⟩ := hat i hi
      exact ⟨h1.1, n', y, h2⟩

/-- A slice that came in: its elements' cells, each element with its own reading. -/
theorem open_rows {r : Reach} {b0 : Nat} {t e : TypeId} {m : Nat} {v : Value} {d : DataW H} {p : List MemPlace} (ht : P.underlying t = some (.slice e)) (hC : P.cellsOf e = m) (hm : 0 < m)
    (hv : Value.okWide P w r b0 t v) (h : DataW.Trod enc P w 0 (fun _ => true) held t v d p) :
    ∃ (A : Option Addr) (n c : Nat) (css : List (List Value)), v = .slice A n c ∧ css.length = n ∧ n ≤ c ∧ c ≤ maxLen ∧ Rd w w.heap.size A css.flatten ∧
      ∀ cs ∈ css, cs.length = m ∧ ∃ fuel y, DataW.trod enc P w 0 (fun _ => true) held fuel e cs = some y := by
  obtain ⟨a, len, cap, rfl⟩ := okWide_slice ht hv
  obtain ⟨fuel, hf⟩ := h
  obtain ⟨A, n, c, css, hcs, r⟩ := rows_of_trod ht hC hm hf
  simp only [Value.cells, List.cons.injEq, and_true] at hcs
  exact ⟨A, n, c, css, hcs, r⟩

/-- A law's 'post', of a call that answers true and turns nothing that was there. -/
theorem law_post {fn : Func} {s : ChangeSpec} {W W' : World} {args : Array Value} {ds gs : List (DataW H)} {before : List MemPlace} {tb : TypeId}
    (hl : laidOutB P = true) (hr : (fn.params.toList.all fun t => P.readableRec t && decide (t < P.types.size)) = true) (hrt : fn.resultTypes = #[tb]) (hb : P.underlying tb = some .bool) (hvars : s.vars = [])
    (hs : s.fn H (ds ++ gs) = { results := [.lit (.bool true)], args := ds })
    (hW : DataW.Whole enc P fn.params.toList s.vars false W args.toList ds gs before) (hbl : Below W.heap.size W W') : s.post enc P fn false true false false W args (.bool true) W' := by
  have hlt : ∀ p ∈ before, p.block < W.heap.size := fun p hp => hW.lt p hp
  have hW0 := hW
  obtain ⟨p, q, hA, hV, rfl, -, -⟩ := hW
  rw [hvars] at hV
  obtain ⟨rfl, rfl⟩ : gs = [] ∧ q = [] := by
    cases gs with
    | nil => exact ⟨rfl, by simpa [DataW.TrodVars] using hV⟩
    | cons g gs => simp [DataW.TrodVars] at hV
  have hmap : ∀ (ts : List TypeId) (vs : List Value) (ds : List (DataW H)) (ps : List MemPlace), (ts.all fun t => P.readableRec t && decide (t < P.types.size)) = true → (∀ x ∈ ps, x.block < W.heap.size) →
      DataW.TrodAll enc P W 0 (fun _ => true) true ts vs ds ps → DataW.TrodAll enc P W' 0 (fun b => decide (b < W.heap.size)) true ts vs ds ps := by
    intro ts
    induction ts with
    | nil => intro vs ds ps _ _ h; obtain ⟨rfl, rfl, rfl⟩ := trodAll_nil h; exact trodAll_mk0
    | cons t ts ih =>
      intro vs ds ps hrr hps h
      obtain ⟨v, vs', d, ds', p, q, rfl, rfl, rfl, h1, h2⟩ := trodAll_cons h
      simp only [List.all_cons, Bool.and_eq_true, decide_eq_true_eq] at hrr
      exact trodAll_cons_mk (Below.trod hl hrr.1.1 hrr.1.2 h1 hbl (fun x hx => hps x (by simp [hx]))) (ih _ _ _ hrr.2 (fun x hx => hps x (by simp [hx])) h2)
  refine ⟨ds, [], p ++ [], [], p, [], hW0, ?_, ?_, ?_, World.keptBut_mono (fun x hx => ⟨hx, ?_⟩) (hbl.frame (· ∈ p ++ [])), fun h => by cases h⟩
  · rw [hs, hrt]
    exact trodAll_cons_mk (shut_bool hb true) trodAll_mk0
  · rw [hs]
    exact hmap _ _ _ _ hr (fun x hx => hlt x (by simp [hx])) hA
  · rw [hs, hvars]; rfl
  · exact Or.inr (Or.inl (by simpa using hx))
end
end Go.Proofs.YtlonefjbcooaaaaDoor
