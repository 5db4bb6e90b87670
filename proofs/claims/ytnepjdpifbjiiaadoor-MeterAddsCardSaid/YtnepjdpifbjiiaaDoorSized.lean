/-
  A slice that came in, its elements' readings within its own reach.
-/
import Derived.Test.YtnepjdpifbjiiaaDoorBase
import Derived.SizedLaws
namespace Go.Proofs.YtnepjdpifbjiiaaDoor
open Go.RowKit Go.WideShapes Go.ChangeShapes
set_option maxRecDepth 100000
section
variable {H : Type} {enc : TypeId × Value → H} {P : Program} {w : World} {held : Bool}
theorem weightsAll_mem {e : TypeId} : ∀ {l : List (DataW H)} {d : DataW H}, d ∈ l → ∀ n ∈ d.weights P e, n ∈ DataW.weightsAll P e l
  | d' :: r, d, hd, n, hn => by
    simp only [DataW.weightsAll, List.mem_append]
    rcases List.mem_cons.1 hd with rfl | h
    · exact Or.inl hn
    · exact Or.inr (weightsAll_mem h n hn)
/-- A slice as it reads: its elements' cells, each element with its own reading. -/
theorem rows_sized {t e : TypeId} {m fuel : Nat} {cs : List Value} {x : DataW H × List MemPlace} (ht : P.underlying t = some (.slice e)) (hC : P.cellsOf e = m) (hm : 0 < m)
    (hf : DataW.trod enc P w 0 (fun _ => true) held fuel t cs = some x) :
    ∃ (A : Option Addr) (n c : Nat) (css : List (List Value)), cs = [.slice A n c] ∧ css.length = n ∧ n ≤ c ∧ c ≤ maxLen ∧ Rd w w.heap.size A css.flatten ∧
      ∀ cs ∈ css, cs.length = m ∧ ∃ fuel y, DataW.trod enc P w 0 (fun _ => true) held fuel e cs = some y ∧ ∀ n ∈ y.1.weights P e, n ∈ x.1.weights P t := by
  rcases Go.Deep.open_slice ht hf with ⟨rfl, -⟩ | ⟨ad, len, cap, m', n', D, Pl, rfl, -, hl, hmx, hmm, hxe, hx⟩
  · exact ⟨none, 0, 0, [], rfl, rfl, Nat.le_refl _, by omega, Rd.nil _ _ _, by simp⟩
  · simp only [if_true] at hmm
    obtain rfl : cap = m' := hmm.symm
    rw [hC] at hx
    have hall : ∀ i, i < len → ∃ cs', (cs'.length = m ∧ (∀ j, j < m → w.cell? (ad.add (i * m + j)) = cs'[j]?)) ∧ ∃ y, DataW.trod enc P w 0 (fun _ => true) held n' e cs' = some y ∧ ∀ n ∈ y.1.weights P e, n ∈ x.1.weights P t := by
      intro i hi
      obtain ⟨cs', h1, h2⟩ := hx i (by omega)
      obtain ⟨-, h3, h4⟩ := World.cells?_some h1
      refine ⟨cs', ⟨h3, fun j hj => by rw [← Go.Deep.add_add]; exact h4 j hj⟩, _, h2, fun n hn => ?_⟩
      rw [hxe]
      simp only [DataW.weights, ht, List.mem_cons, List.mem_append]
      exact .inr (.inl (weightsAll_mem (List.mem_map.2 ⟨i, List.mem_range.2 hi, rfl⟩) n hn))
    obtain ⟨css, hlen, hat⟩ : ∃ css : List (List Value), css.length = len ∧ ∀ i (hi : i < css.length), (css[i].length = m ∧ (∀ j, j < m → w.cell? (ad.add (i * m + j)) = css[i][j]?)) ∧ ∃ y, DataW.trod enc P w 0 (fun _ => true) held n' e css[i] = some y ∧ ∀ n ∈ y.1.weights P e, n ∈ x.1.weights P t := by
      clear hf hx hl hxe
      induction len with
      | zero => exact ⟨[], rfl, fun i hi => by simp at hi⟩
      | succ n ih =>
        obtain ⟨css, hl, hc⟩ := ih (fun i hi => hall i (by omega))
        obtain ⟨cs', h1, h2⟩ := hall n (by omega)
        refine ⟨css ++ [cs'], by simp [hl], fun i hi => ?_⟩
        rcases Nat.lt_or_ge i css.length with hlt | hge
        · rw [List.getElem_append_left hlt]; exact hc i hlt
        · have hin : i = css.length := by simp at hi; omega
          subst hin
          rw [List.getElem_append_right (Nat.le_refl _)]
          simp only [Nat.sub_self, List.getElem_singleton]
          rw [hl]; exact ⟨h1, h2⟩
    refine ⟨some ad, len, cap, css, rfl, hlen, hl, hmx, ?_, fun cs hcs => ?_⟩
    · intro hne
      have h0 : 0 < css.length := by
        rcases Nat.eq_zero_or_pos css.length with h | h
        · rw [List.eq_nil_of_length_eq_zero h] at hne; simp at hne
        · exact h
      obtain ⟨⟨hl0, hc0⟩, -⟩ := hat 0 h0
      have hfst := hc0 0 hm
      rw [Nat.zero_mul, Nat.zero_add, List.getElem?_eq_getElem (by omega)] at hfst
      obtain ⟨b, off, spot⟩ := ad
      have hspot : spot = none := by simpa [Addr.add] using World.cell?_spot hfst
      subst hspot
      refine ⟨b, off, rfl, ?_, fun j u hu => ?_⟩
      · have := block_lt_of_cell hfst
        simpa [Addr.add] using this
      · have hcl : ∀ a : Fin css.length, css[a].length = m := fun a => (hat a.1 a.2).1.1
        have hj : j < css.length * m := by
          have h1 := (List.getElem?_eq_some_iff.1 hu).1
          have h2 : ∀ (l : List (List Value)), (∀ x ∈ l, x.length = m) → l.flatten.length = l.length * m := fun l hl => by
            induction l with
            | nil => simp
            | cons x l ih => rw [List.flatten_cons, List.length_append, ih (fun y hy => hl y (by simp [hy])), hl x (by simp), List.length_cons, Nat.add_mul]; omega
          rw [h2 css (fun x hx => by
            obtain ⟨i, hi, rfl⟩ := List.mem_iff_getElem.1 hx
            exact (hat i hi).1.1)] at h1
          exact h1
        have hd : j / m < css.length := Nat.div_lt_of_lt_mul (by rw [Nat.mul_comm]; exact hj)
        have hsplit : j = j / m * m + j % m := by rw [Nat.mul_comm]; exact (Nat.div_add_mod j m).symm
        have hmod : j % m < m := Nat.mod_lt _ hm
        have hkey : ∀ (l : List (List Value)) (k i : Nat) (cs : List Value), (∀ x ∈ l, x.length = m) → l[k]? = some cs → i < m → l.flatten[k * m + i]? = cs[i]? := fun l => by
          induction l with
          | nil => intro k i cs _ h; simp at h
          | cons x l ih =>
            intro k i cs hl h hi
            cases k with
            | zero =>
              simp only [List.getElem?_cons_zero, Option.some.injEq] at h; subst h
              rw [Nat.zero_mul, Nat.zero_add, List.flatten_cons, List.getElem?_append_left (by rw [hl x (by simp)]; exact hi)]
            | succ k =>
              simp only [List.getElem?_cons_succ] at h
              rw [List.flatten_cons, List.getElem?_append_right (by rw [hl x (by simp), Nat.add_mul]; omega), hl x (by simp), ← ih k i cs (fun y hy => hl y (by simp [hy])) h hi]
              congr 1
              rw [Nat.add_mul]; omega
        have h2 := (hat (j / m) hd).1.2 (j % m) hmod
        rw [← hsplit, Go.WideShapes.add_plain] at h2
        rw [h2]
        rw [hsplit, hkey css (j / m) (j % m) _ (fun x hx => by
            obtain ⟨i, hi, rfl⟩ := List.mem_iff_getElem.1 hx
            exact (hat i hi).1.1) (List.getElem?_eq_getElem hd) hmod] at hu
        exact hu
    · obtain ⟨i, hi, rfl⟩ := List.mem_iff_getElem.1 hcs
      obtain ⟨h1, y, h2, h3⟩ := hat i hi
      exact ⟨h1.1, n', y, h2, h3⟩

/-- A slice that came in: its elements' cells, each element with its own reading. -/
theorem open_sized {r : Reach} {b0 : Nat} {t e : TypeId} {m : Nat} {v : Value} {d : DataW H} {p : List MemPlace} (ht : P.underlying t = some (.slice e)) (hC : P.cellsOf e = m) (hm : 0 < m)
    (hv : Value.okWide P w r b0 t v) (h : DataW.Trod enc P w 0 (fun _ => true) held t v d p) :
    ∃ (A : Option Addr) (n c : Nat) (css : List (List Value)), v = .slice A n c ∧ css.length = n ∧ n ≤ c ∧ c ≤ maxLen ∧ Rd w w.heap.size A css.flatten ∧
      ∀ cs ∈ css, cs.length = m ∧ ∃ fuel y, DataW.trod enc P w 0 (fun _ => true) held fuel e cs = some y ∧ ∀ n ∈ y.1.weights P e, n ∈ d.weights P t := by
  obtain ⟨a, len, cap, rfl⟩ := okWide_slice ht hv
  obtain ⟨fuel, hf⟩ := h
  obtain ⟨A, n, c, css, hcs, r⟩ := rows_sized ht hC hm hf
  simp only [Value.cells, List.cons.injEq, and_true] at hcs
  exact ⟨A, n, c, css, hcs, r⟩

end
end Go.Proofs.YtnepjdpifbjiiaaDoor
