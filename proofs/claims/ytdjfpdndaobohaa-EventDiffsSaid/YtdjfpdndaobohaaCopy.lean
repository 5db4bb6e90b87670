/-
  'copy' between rows of elements of several cells; a row into which an element is put.
-/
import Derived.Test.YtdjfpdndaobohaaRow
import Derived.Test.YtdjfpdndaobohaaOwn
import Derived.Lib.Overlaps
import Derived.Laws.Externs
import Derived.Deep.RegionLaw
import Derived.Laws.IdiomCopy
namespace Go.Proofs.Ytdjfpdndaobohaa
open Go.RowKit

section
variable {P : Program}
theorem run_copyN (w : World) (dT sT ty elem : TypeId) (b o dLen dCap : Nat) (a : Addr) (sLen sCap sz n : Nat) (cs : List Value)
    (hu : P.underlying dT = some (.slice elem)) (hs : (P.info? elem).map (·.size) = some sz) (hn : Nat.min sLen dLen = n) (hl : cs.length = n * sz)
    (hsrc : ∀ j v, cs[j]? = some v → w.cell? (a.add j) = some v) (hc : ∀ j, j < cs.length → (w.cell? ⟨b, o + j, none⟩).isSome = true) (hf : ∀ j, j < cs.length → w.frozen? ⟨b, o + j, none⟩ = false) (h1 : ∀ v ∈ cs, v.oneCell' = true) :
    (Builtin.copy_ #[dT, sT] ty #[.slice (some ⟨b, o, none⟩) dLen dCap, .slice (some a) sLen sCap]).run P w = .ok (goInt n) (w.setCells b o cs) := by
  have hld := run_loadCells_list (P := P) w a cs hsrc
  have hst := run_storeCells_cells (P := P) b o cs 0 w (by simpa using hc) (by simpa using hf) h1
  cases hq : P.info? elem with
  | none => simp [hq] at hs
  | some i =>
    have hi : i.size = sz := by simpa [hq] using hs
    rw [hl] at hld
    simp [Builtin.copy_, run_underlying hu, Builtin.lenOf, Builtin.firstCells, sizeOf, typeInfo, hq, hi, hn, hld, hst]
variable {w : World} {ops : Array Oper} {o : Oper} {a : Act} {Q : Exit → Act → World → Prop}
theorem wpList_copy_run {rest : List Oper} (hgd : o.guard = none) (d s : Operand) (t t' : TypeId) (ho : o.op = .call { callee := .builtin .copy, args := #[d, s], argTypes := #[t, t'] }) (v u : Value) (hd : a.eval d = v) (hs : a.eval s = u) {v' : Value} {w' : World}
    (hr : (Builtin.copy_ #[t, t'] o.type #[v, u]).run P w = .ok v' w') (h : wpList P ops Q rest (a.put o.dst v') w') : wpList P ops Q (o :: rest) a w :=
  wpList_plain hgd fun _ hK => by
    unfold Oper.wp execOp
    simp only [ho, resolve, invoke, builtin, Sem.run_bind, Sem.run_pure, Result.andThen_ok, List.map_toArray, List.map_cons, List.map_nil, hd, hs, hr]
    exact hK _ _ h
theorem step_copy_run {K : Act → World → Prop} {E : Prop} (hg : o.guard = none) (d x : Operand) (dT sT : TypeId) (hop : o.op = Op.call { callee := Callee.builtin Builtin.copy, args := #[d, x], argTypes := #[dT, sT] })
    (v u : Value) (hd : a.eval d = v) (hx : a.eval x = u) {v' : Value} {w' : World} (hr : (Builtin.copy_ #[dT, sT] o.type #[v, u]).run P w = .ok v' w') (hK : K (a.put o.dst v') w') :
    if Region.wanted o (yielded ops a.tmps) = true then Oper.wp P o a w K Q else E := by
  have hw : Region.wanted o (yielded ops a.tmps) = true := by simp [Region.wanted, hg]
  rw [if_pos hw]
  unfold Oper.wp
  simp [execOp, hop, resolve, invoke, builtin, hd, hx, hr, Result.andThen]
  exact hK
end

/-- An element put in ahead of the i-th. -/
def insL {α : Type} (L : List α) (i : Nat) (x : α) : List α := L.take i ++ x :: L.drop i
theorem insL_length {α : Type} (L : List α) (i : Nat) (x : α) : (insL L i x).length = L.length + 1 := by
  unfold insL; rw [List.length_append, List.length_cons, List.length_take, List.length_drop]; omega
theorem insL_end {α : Type} (L : List α) (x : α) : insL L L.length x = L ++ [x] := by unfold insL; simp
section
variable {α : Type} {w : World} {base : Nat} {E : TypeId} {m : Nat} {f : α → List Value} {l : List α}
/-- A row with room into whose middle an element is put, the elements behind it moved on. -/
theorem OwnL.put {g n cap i : Nat} {x : α} (hf : ∀ a, (f a).length = m) (h : OwnL w base E m (.slice (some ⟨g, 0, none⟩) n cap) f l) (hi : i ≤ n) (hroom : n + 1 ≤ cap) :
    OwnL ((w.setCells g ((i + 1) * m) ((l.drop i).flatMap f)).setCells g (i * m) (f x)) base E m (.slice (some ⟨g, 0, none⟩) (n + 1) cap) f (insL l i x) := by
  obtain rfl := h.len
  have hl1 := length_flatMap_const f m hf l
  rcases h.2 with ⟨e, -⟩ | ⟨g', cap', cur, hv, hb, hg, hn, hc, hs, ht⟩
  · cases e
  · simp only [Value.slice.injEq, Option.some.injEq, Addr.mk.injEq, and_true] at hv
    obtain ⟨rfl, -, rfl⟩ := hv
    have hB : Blk w g E cur := hg
    have h2 := (hB.setCells ((l.drop i).flatMap f) ((i + 1) * m)).setCells (f x) (i * m)
    refine ⟨by rw [length_flatMap_const f m hf], .inr ⟨g, cap, _, by rw [insL_length], hb, h2, by rw [insL_length]; exact hroom, hc, by rw [putAt_size, putAt_size]; exact hs, ?_⟩⟩
    rw [insL_length]
    have hdl : ((l.drop i).flatMap f).length = (l.length - i) * m := by rw [length_flatMap_const f m hf, List.length_drop]
    have htl : ((l.take i).flatMap f).length = i * m := by rw [length_flatMap_const f m hf, List.length_take, Nat.min_eq_left hi]
    have hmul : (l.length + 1) * m ≤ cap * m := Nat.mul_le_mul_right _ hroom
    have hsplit : l.flatMap f = (l.take i).flatMap f ++ (l.drop i).flatMap f := by rw [← List.flatMap_append, List.take_append_drop]
    have him : (i + 1) * m = i * m + m := Nat.succ_mul _ _
    have hlm : (l.length + 1) * m = l.length * m + m := Nat.succ_mul _ _
    have hli : l.length * m = i * m + (l.length - i) * m := by rw [← Nat.add_mul]; congr 1; omega
    apply List.ext_getElem?
    intro j
    rw [List.getElem?_take, Array.getElem?_toList]
    unfold insL
    rw [List.flatMap_append, List.flatMap_cons]
    by_cases hj : j < (l.length + 1) * m
    · rw [if_pos hj, putAt_get, putAt_size, hf]
      by_cases h1 : j < i * m
      · rw [if_neg (by omega), putAt_get, if_neg (by omega), List.getElem?_append_left (by omega)]
        have e1 : cur[j]? = (l.flatMap f)[j]? := by
          rw [← ht, List.getElem?_take, if_pos (by omega), Array.getElem?_toList]
        rw [e1, hsplit, List.getElem?_append_left (by omega)]
      · by_cases h3 : j < i * m + m
        · rw [if_pos (by omega), List.getElem?_append_right (by omega), htl, List.getElem?_append_left (by rw [hf]; omega)]
        · rw [if_neg (by omega), putAt_get, if_pos (by omega), List.getElem?_append_right (by omega), htl, List.getElem?_append_right (by rw [hf]; omega), hf]
          congr 1
          omega
    · rw [if_neg hj, List.getElem?_eq_none]
      rw [List.length_append, List.length_append, htl, hf, hdl]
      omega
/-- A new row whose head is what stood ahead of the i-th: the element is put in, and what stood from the i-th on behind it. -/
theorem OwnL.fresh {g cap i : Nat} {x : α} {ROW : Array Value} (hf : ∀ a, (f a).length = m) (hB : Blk w g E ROW) (hg : base ≤ g) (hi : i ≤ l.length) (hroom : l.length + 1 ≤ cap) (hc : cap ≤ maxLen) (hs : ROW.size = cap * m) (hr : ∀ j, j < i * m → ROW[j]? = (l.flatMap f)[j]?) :
    OwnL ((w.setCells g (i * m) (f x)).setCells g ((i + 1) * m) ((l.drop i).flatMap f)) base E m (.slice (some ⟨g, 0, none⟩) (l.length + 1) cap) f (insL l i x) := by
  have h2 := (hB.setCells (f x) (i * m)).setCells ((l.drop i).flatMap f) ((i + 1) * m)
  refine ⟨by rw [length_flatMap_const f m hf], .inr ⟨g, cap, _, by rw [insL_length], hg, h2, by rw [insL_length]; exact hroom, hc, by rw [putAt_size, putAt_size]; exact hs, ?_⟩⟩
  rw [insL_length]
  have hdl : ((l.drop i).flatMap f).length = (l.length - i) * m := by rw [length_flatMap_const f m hf, List.length_drop]
  have htl : ((l.take i).flatMap f).length = i * m := by rw [length_flatMap_const f m hf, List.length_take, Nat.min_eq_left hi]
  have hmul : (l.length + 1) * m ≤ cap * m := Nat.mul_le_mul_right _ hroom
  have hsplit : l.flatMap f = (l.take i).flatMap f ++ (l.drop i).flatMap f := by rw [← List.flatMap_append, List.take_append_drop]
  have him : (i + 1) * m = i * m + m := Nat.succ_mul _ _
  have hlm : (l.length + 1) * m = l.length * m + m := Nat.succ_mul _ _
  have hli : l.length * m = i * m + (l.length - i) * m := by rw [← Nat.add_mul]; congr 1; omega
  apply List.ext_getElem?
  intro j
  rw [List.getElem?_take, Array.getElem?_toList]
  unfold insL
  rw [List.flatMap_append, List.flatMap_cons]
  by_cases hj : j < (l.length + 1) * m
  · rw [if_pos hj, putAt_get, putAt_size]
    by_cases h1 : j < i * m
    · rw [if_neg (by omega), putAt_get, hf, if_neg (by omega), List.getElem?_append_left (by omega), hr j h1, hsplit, List.getElem?_append_left (by omega)]
    · by_cases h3 : j < i * m + m
      · rw [if_neg (by omega), putAt_get, hf, if_pos (by omega), List.getElem?_append_right (by omega), htl, List.getElem?_append_left (by rw [hf]; omega)]
      · rw [if_pos (by omega), List.getElem?_append_right (by omega), htl, List.getElem?_append_right (by rw [hf]; omega), hf]
        congr 1
        omega
  · rw [if_neg hj, List.getElem?_eq_none]
    rw [List.length_append, List.length_append, htl, hf, hdl]
    omega
end
end Go.Proofs.Ytdjfpdndaobohaa
