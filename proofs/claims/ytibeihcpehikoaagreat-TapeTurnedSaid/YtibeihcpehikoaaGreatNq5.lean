/-
  The walks beneath: Ints, Row, Copy.
-/
import Derived.Deep.MidRow
import Derived.Lib.Overlaps
import Derived.Laws.Externs
import Derived.Deep.RegionLaw
import Derived.Laws.IdiomCopy
import Derived.Test.YtibeihcpehikoaaGreatNq1
import Derived.Test.YtibeihcpehikoaaGreatNq2
namespace Go.Proofs.YtibeihcpehikoaaGreat
open Go.RowKit

def upd (f : Nat → Int) (i : Nat) (v : Int) : Nat → Int := fun j => if j = i then v else f j
theorem upd_same (f : Nat → Int) (i : Nat) (v : Int) : upd f i v i = v := if_pos rfl
theorem upd_other (f : Nat → Int) (i j : Nat) (v : Int) (h : j ≠ i) : upd f i v j = f j := if_neg h
def IBlk (w : World) (g : Nat) (E : TypeId) (n : Nat) (f : Nat → Int) : Prop := Blk w g E (rowOf n fun i => Value.int .i64 (f i)).toArray
section
variable {w w' : World} {g n : Nat} {E : TypeId} {f : Nat → Int}
theorem IBlk.lt (h : IBlk w g E n f) : g < w.heap.size := Blk.lt h
theorem IBlk.cell (h : IBlk w g E n f) (i : Nat) (hi : i < n) : w.cell? ⟨g, i, none⟩ = some (.int .i64 (f i)) := by
  rw [Blk.cell h i]
  simp [rowOf, hi]
theorem IBlk.frozen (h : IBlk w g E n f) (i : Nat) : w.frozen? ⟨g, i, none⟩ = false := Blk.frozen h i
theorem IBlk.set (h : IBlk w g E n f) (i : Nat) (v : Int) : IBlk (w.setCell ⟨g, i, none⟩ (.int .i64 v)) g E n (upd f i v) := by
  have := Blk.set h i (.int .i64 v)
  unfold IBlk
  have e : (rowOf n fun j => Value.int .i64 (upd f i v j)).toArray = ((rowOf n fun j => Value.int .i64 (f j)).toArray).setIfInBounds i (.int .i64 v) := by
    apply Array.ext'
    simp only [Array.toList_setIfInBounds]
    rw [rowOf_set]
    refine rowOf_congr fun j _ => ?_
    unfold upd
    split <;> rfl
  rw [e]
  exact this
theorem IBlk.drew (h : IBlk w g E n f) : IBlk w.drew g E n f := h
theorem IBlk.drewN (h : IBlk w g E n f) (k : Nat) : IBlk (w.drewN k) g E n f := h
theorem IBlk.alloc (h : IBlk w g E n f) (o : Obj) : IBlk (w.alloc o) g E n f := Blk.alloc h o
theorem IBlk.farG (h : IBlk w g E n f) {k : Nat} (hp : g ≠ k) (o : Nat) (u : Value) : IBlk (w.setCell ⟨k, o, none⟩ u) g E n f := Blk.farG h hp o u
theorem IBlk.on (h : IBlk w g E n f) (hb : Below w.heap.size w w') : IBlk w' g E n f := Blk.on h hb
theorem IBlk.grown {row : Option Nat} (h : IBlk w g E n f) (hb : w.grownBy w' row) (hg : row ≠ some g) : IBlk w' g E n f := Blk.grown h hb hg
theorem IBlk.congr {f' : Nat → Int} (h : IBlk w g E n f) (he : ∀ i, i < n → f i = f' i) : IBlk w g E n f' := by
  unfold IBlk at h ⊢
  rw [← show (rowOf n fun i => Value.int .i64 (f i)) = rowOf n fun i => Value.int .i64 (f' i) from rowOf_congr fun i hi => by rw [he i hi]]
  exact h
end
section
variable {w w' w2 : World} {g : Nat}
theorem oRefl (w : World) (row : Option Nat) : w.grownBy w row := ⟨rfl, rfl, rfl, Nat.le_refl _, fun _ _ _ => rfl⟩
theorem oDrew {row : Option Nat} (h : w.grownBy w' row) : w.grownBy w'.drew row := ⟨h.os, h.tape, h.output, h.size, h.block⟩
theorem bOnly {B : Nat} {row : Option Nat} (h : w.grownBy w' row) (hB : B ≤ w.heap.size) (hr : ∀ k, row = some k → B ≤ k) : Below B w w' :=
  ⟨h.os, h.tape, h.output, h.size, fun k hk => h.block k (Nat.lt_of_lt_of_le hk hB) (fun e => by have := hr k e.symm; omega)⟩
theorem Rd.only {B : Nat} {A : Option Addr} {xs : List Value} {row : Option Nat} (hr : Rd w B A xs) (h : w.grownBy w' row) (hB : B ≤ w.heap.size) (hg : ∀ k, row = some k → B ≤ k) : Rd w' B A xs := hr.below (bOnly h hB hg) (Nat.le_refl _)
end
/-- What a slice holds, wherever but in block g. -/
def RdN (w : World) (g : Nat) (A : Option Addr) (xs : List Value) : Prop := Rd w w.heap.size A xs ∧ ∀ a, A = some a → xs ≠ [] → a.block ≠ g
theorem RdN.only {w w' : World} {g : Nat} {A : Option Addr} {xs : List Value} (h : RdN w g A xs) (k : w.grownBy w' (some g)) : RdN w' g A xs := by
  refine ⟨fun hne => ?_, h.2⟩
  obtain ⟨b, off, rfl, hb, hc⟩ := h.1 hne
  have hbg : b ≠ g := h.2 _ rfl hne
  exact ⟨b, off, rfl, Nat.lt_of_lt_of_le hb k.size, fun j u hu => by
    rw [← hc j u hu]
    unfold World.cell?
    simp only [k.block b hb (fun e => hbg (by first | (injection e with e; exact e.symm) | (cases e; rfl)))]⟩
theorem RdN.nil (w : World) (g : Nat) (A : Option Addr) : RdN w g A [] := ⟨Rd.nil _ _ _, fun _ _ h => absurd rfl h⟩
theorem RdN.new {w : World} {g : Nat} {cs : Array Value} {E : TypeId} (hg : g ≠ w.heap.size) : RdN (w.alloc (.cells cs E)) g (some ⟨w.heap.size, 0, none⟩) cs.toList :=
  ⟨rd_new w cs E _ rfl _ (by simp), fun a ha _ => by cases ha; exact fun e => hg e.symm⟩
end Go.Proofs.YtibeihcpehikoaaGreat

namespace Go.Proofs.YtibeihcpehikoaaGreat
open Go.RowKit

def putAt (cs : Array Value) : Nat → List Value → Array Value
  | _, [] => cs
  | o, v :: r => putAt (cs.setIfInBounds o v) (o + 1) r
theorem putAt_size (vs : List Value) : ∀ (cs : Array Value) (o : Nat), (putAt cs o vs).size = cs.size := by
  induction vs with
  | nil => intro cs o; rfl
  | cons v r ih => intro cs o; rw [putAt, ih]; simp
theorem putAt_get (vs : List Value) : ∀ (cs : Array Value) (o j : Nat), (putAt cs o vs)[j]? = if o ≤ j ∧ j < o + vs.length ∧ j < cs.size then vs[j - o]? else cs[j]? := by
  induction vs with
  | nil => intro cs o j; rw [putAt, if_neg (by simp; omega)]
  | cons v r ih =>
    intro cs o j
    rw [putAt, ih]
    simp only [Array.size_setIfInBounds, List.length_cons]
    by_cases h : o + 1 ≤ j ∧ j < o + 1 + r.length ∧ j < cs.size
    · rw [if_pos h, if_pos (by omega)]
      have : j - o = (j - (o + 1)) + 1 := by omega
      rw [this, List.getElem?_cons_succ]
    · rw [if_neg h]
      by_cases h2 : j = o
      · subst h2
        by_cases h3 : j < cs.size
        · rw [if_pos (by omega)]; simp [h3]
        · rw [if_neg (by omega)]
          simp [h3]
      · rw [if_neg (by omega), Array.getElem?_setIfInBounds, if_neg (fun e => h2 e.symm)]
section
variable {w w' : World} {g : Nat} {E : TypeId} {cs : Array Value}
theorem Blk.setCells (h : Blk w g E cs) (vs : List Value) : ∀ o, Blk (w.setCells g o vs) g E (putAt cs o vs) := by
  induction vs generalizing w cs with
  | nil => intro o; exact h
  | cons v r ih => intro o; exact ih (h.set o v) (o + 1)
theorem setCells_block (w : World) (g : Nat) (vs : List Value) : ∀ (o k : Nat), k ≠ g → (w.setCells g o vs).heap[k]? = w.heap[k]? := by
  induction vs generalizing w with
  | nil => intro o k _; rfl
  | cons v r ih => intro o k hk; rw [World.setCells, ih _ _ _ hk]; exact Below.heap_setCell w ⟨g, o, none⟩ v k hk
theorem setCells_size (w : World) (g : Nat) (vs : List Value) : ∀ o, (w.setCells g o vs).heap.size = w.heap.size := by
  induction vs generalizing w with
  | nil => intro o; rfl
  | cons v r ih => intro o; rw [World.setCells, ih]; simp
theorem setCells_rest (w : World) (g : Nat) (vs : List Value) : ∀ o, (w.setCells g o vs).os = w.os ∧ (w.setCells g o vs).tape = w.tape ∧ (w.setCells g o vs).output = w.output := by
  induction vs generalizing w with
  | nil => intro o; exact ⟨rfl, rfl, rfl⟩
  | cons v r ih => intro o; rw [World.setCells]; exact ih _ _
theorem oSetCells (h : w.grownBy w' (some g)) (o : Nat) (vs : List Value) : w.grownBy (w'.setCells g o vs) (some g) :=
  ⟨(setCells_rest w' g vs o).1.trans h.os, (setCells_rest w' g vs o).2.1.trans h.tape, (setCells_rest w' g vs o).2.2.trans h.output, by rw [setCells_size]; exact h.size,
    fun k hk hr => (setCells_block w' g vs o k (fun e => hr (by rw [e]))).trans (h.block k hk hr)⟩
theorem bSetCells {B : Nat} (h : Below B w w') (hg : B ≤ g) (o : Nat) (vs : List Value) : Below B w (w'.setCells g o vs) :=
  ⟨(setCells_rest w' g vs o).1.trans h.os, (setCells_rest w' g vs o).2.1.trans h.tape, (setCells_rest w' g vs o).2.2.trans h.output, by rw [setCells_size]; exact h.size,
    fun k hk => (setCells_block w' g vs o k (by omega)).trans (h.block k hk)⟩
theorem Blk.farC {k : Nat} (h : Blk w g E cs) (hp : g ≠ k) (o : Nat) (vs : List Value) : Blk (w.setCells k o vs) g E cs := (setCells_block w k vs o g hp).trans h
theorem Blk.there (h : Blk w g E cs) {o n : Nat} (hn : o + n ≤ cs.size) : w.there g o n := fun j hj => ⟨by rw [h.cell]; simp; omega, h.frozen _⟩
/-- A whole block stored anew. -/
theorem Blk.whole (h : Blk w g E cs) (vs : List Value) (hn : vs.length = cs.size) : Blk (w.setCells g 0 vs) g E vs.toArray := by
  have := h.setCells vs 0
  have e : putAt cs 0 vs = vs.toArray := by
    apply Array.ext_getElem?
    intro j
    rw [putAt_get]
    by_cases hj : j < cs.size
    · rw [if_pos (by omega)]; simp
    · rw [if_neg (by omega), Array.getElem?_eq_none (by omega), Array.getElem?_eq_none (by simp; omega)]
  rw [← e]; exact this
end
end Go.Proofs.YtibeihcpehikoaaGreat

namespace Go.Proofs.YtibeihcpehikoaaGreat
open Go.RowKit

section
variable {P : Program}
theorem run_copyN (w : World) (dT sT ty elem : TypeId) (b o dLen dCap : Nat) (a : Addr) (sLen sCap sz n : Nat) (cs : List Value)
    (hu : P.underlying dT = some (.slice elem)) (hs : (P.info? elem).map (·.size) = some sz) (hn : Nat.min sLen dLen = n) (hl : cs.length = n * sz)
    (hsrc : ∀ j v, cs[j]? = some v → w.cell? (a.add j) = some v) (hc : ∀ j, j < cs.length → (w.cell? ⟨b, o + j, none⟩).isSome = true) (hf : ∀ j, j < cs.length → w.frozen? ⟨b, o + j, none⟩ = false) (h1 : ∀ v ∈ cs, v.oneCell' = true) :
    (Builtin.copy_ #[dT, sT] ty #[.slice (some ⟨b, o, none⟩) dLen dCap, .slice (some a) sLen sCap]).run P w = .ok (goInt n) (w.setCells b o cs) := by
  have hld := run_loadCells_list (P := P) w a cs hsrc
  have hst := run_storeCells_cells (P := P) b o cs 0 w (by simpa using hc) (by simpa using hf) h1
  cases hq : P.info? elem with
  | none => simp [hq] at hs
  | some i =>
    have hi : i.size = sz := by simpa [hq] using hs
    rw [hl] at hld
    simp [Builtin.copy_, run_underlying hu, Builtin.lenOf, Builtin.firstCells, sizeOf, typeInfo, hq, hi, hn, hld, hst]
variable {w : World} {ops : Array Oper} {o : Oper} {a : Act} {Q : Exit → Act → World → Prop}
theorem wpList_copy_run {rest : List Oper} (hgd : o.guard = none) (d s : Operand) (t t' : TypeId) (ho : o.op = .call { callee := .builtin .copy, args := #[d, s], argTypes := #[t, t'] }) (v u : Value) (hd : a.eval d = v) (hs : a.eval s = u) {v' : Value} {w' : World}
    (hr : (Builtin.copy_ #[t, t'] o.type #[v, u]).run P w = .ok v' w') (h : wpList P ops Q rest (a.put o.dst v') w') : wpList P ops Q (o :: rest) a w :=
  wpList_plain hgd fun _ hK => by
    unfold Oper.wp execOp
    simp only [ho, resolve, invoke, builtin, Sem.run_bind, Sem.run_pure, Result.andThen_ok, List.map_toArray, List.map_cons, List.map_nil, hd, hs, hr]
    exact hK _ _ h
theorem step_copy_run {K : Act → World → Prop} {E : Prop} (hg : o.guard = none) (d x : Operand) (dT sT : TypeId) (hop : o.op = Op.call { callee := Callee.builtin Builtin.copy, args := #[d, x], argTypes := #[dT, sT] })
    (v u : Value) (hd : a.eval d = v) (hx : a.eval x = u) {v' : Value} {w' : World} (hr : (Builtin.copy_ #[dT, sT] o.type #[v, u]).run P w = .ok v' w') (hK : K (a.put o.dst v') w') :
    if Region.wanted o (yielded ops a.tmps) = true then Oper.wp P o a w K Q else E := by
  have hw : Region.wanted o (yielded ops a.tmps) = true := by simp [Region.wanted, hg]
  rw [if_pos hw]
  unfold Oper.wp
  simp [execOp, hop, resolve, invoke, builtin, hd, hx, hr, Result.andThen]
  exact hK
end

section
variable {α : Type} {w : World} {base : Nat} {E : TypeId} {m : Nat} {f : α → List Value} {l : List α}
/-- A row with room into whose middle an element is put, the elements behind it moved on. -/
theorem OwnL.put {g n cap i : Nat} {x : α} (hf : ∀ a, (f a).length = m) (h : OwnL w base E m (.slice (some ⟨g, 0, none⟩) n cap) f l) (hi : i ≤ n) (hroom : n + 1 ≤ cap) :
    OwnL ((w.setCells g ((i + 1) * m) ((l.drop i).flatMap f)).setCells g (i * m) (f x)) base E m (.slice (some ⟨g, 0, none⟩) (n + 1) cap) f (insL l i x) := by
  obtain rfl := h.len
  have hl1 := length_flatMap_const f m hf l
  rcases h.2 with ⟨e, -⟩ | ⟨g', cap', cur, hv, hb, hg, hn, hc, hs, ht⟩
  · cases e
  · simp only [Value.slice.injEq, Option.some.injEq, Addr.mk.injEq, and_true] at hv
    obtain ⟨rfl, -, rfl⟩ := hv
    have hB : Blk w g E cur := hg
    have h2 := (hB.setCells ((l.drop i).flatMap f) ((i + 1) * m)).setCells (f x) (i * m)
    refine ⟨by rw [length_flatMap_const f m hf], .inr ⟨g, cap, _, by rw [insL_length], hb, h2, by rw [insL_length]; exact hroom, hc, by rw [putAt_size, putAt_size]; exact hs, ?_⟩⟩
    rw [insL_length]
    have hdl : ((l.drop i).flatMap f).length = (l.length - i) * m := by rw [length_flatMap_const f m hf, List.length_drop]
    have htl : ((l.take i).flatMap f).length = i * m := by rw [length_flatMap_const f m hf, List.length_take, Nat.min_eq_left hi]
    have hmul : (l.length + 1) * m ≤ cap * m := Nat.mul_le_mul_right _ hroom
    have hsplit : l.flatMap f = (l.take i).flatMap f ++ (l.drop i).flatMap f := by rw [← List.flatMap_append, List.take_append_drop]
    have him : (i + 1) * m = i * m + m := Nat.succ_mul _ _
    have hlm : (l.length + 1) * m = l.length * m + m := Nat.succ_mul _ _
    have hli : l.length * m = i * m + (l.length - i) * m := by rw [← Nat.add_mul]; congr 1; omega
    apply List.ext_getElem?
    intro j
    rw [List.getElem?_take, Array.getElem?_toList]
    unfold insL
    rw [List.flatMap_append, List.flatMap_cons]
    by_cases hj : j < (l.length + 1) * m
    · rw [if_pos hj, putAt_get, putAt_size, hf]
      by_cases h1 : j < i * m
      · rw [if_neg (by omega), putAt_get, if_neg (by omega), List.getElem?_append_left (by omega)]
        have e1 : cur[j]? = (l.flatMap f)[j]? := by
          rw [← ht, List.getElem?_take, if_pos (by omega), Array.getElem?_toList]
        rw [e1, hsplit, List.getElem?_append_left (by omega)]
      · by_cases h3 : j < i * m + m
        · rw [if_pos (by omega), List.getElem?_append_right (by omega), htl, List.getElem?_append_left (by rw [hf]; omega)]
        · rw [if_neg (by omega), putAt_get, if_pos (by omega), List.getElem?_append_right (by omega), htl, List.getElem?_append_right (by rw [hf]; omega), hf]
          congr 1
          omega
    · rw [if_neg hj, List.getElem?_eq_none]
      rw [List.length_append, List.length_append, htl, hf, hdl]
      omega
/-- A new row whose head is what stood ahead of the i-th: the element is put in, and what stood from the i-th on behind it. -/
theorem OwnL.fresh {g cap i : Nat} {x : α} {ROW : Array Value} (hf : ∀ a, (f a).length = m) (hB : Blk w g E ROW) (hg : base ≤ g) (hi : i ≤ l.length) (hroom : l.length + 1 ≤ cap) (hc : cap ≤ maxLen) (hs : ROW.size = cap * m) (hr : ∀ j, j < i * m → ROW[j]? = (l.flatMap f)[j]?) :
    OwnL ((w.setCells g (i * m) (f x)).setCells g ((i + 1) * m) ((l.drop i).flatMap f)) base E m (.slice (some ⟨g, 0, none⟩) (l.length + 1) cap) f (insL l i x) := by
  have h2 := (hB.setCells (f x) (i * m)).setCells ((l.drop i).flatMap f) ((i + 1) * m)
  refine ⟨by rw [length_flatMap_const f m hf], .inr ⟨g, cap, _, by rw [insL_length], hg, h2, by rw [insL_length]; exact hroom, hc, by rw [putAt_size, putAt_size]; exact hs, ?_⟩⟩
  rw [insL_length]
  have hdl : ((l.drop i).flatMap f).length = (l.length - i) * m := by rw [length_flatMap_const f m hf, List.length_drop]
  have htl : ((l.take i).flatMap f).length = i * m := by rw [length_flatMap_const f m hf, List.length_take, Nat.min_eq_left hi]
  have hmul : (l.length + 1) * m ≤ cap * m := Nat.mul_le_mul_right _ hroom
  have hsplit : l.flatMap f = (l.take i).flatMap f ++ (l.drop i).flatMap f := by rw [← List.flatMap_append, List.take_append_drop]
  have him : (i + 1) * m = i * m + m := Nat.succ_mul _ _
  have hlm : (l.length + 1) * m = l.length * m + m := Nat.succ_mul _ _
  have hli : l.length * m = i * m + (l.length - i) * m := by rw [← Nat.add_mul]; congr 1; omega
  apply List.ext_getElem?
  intro j
  rw [List.getElem?_take, Array.getElem?_toList]
  unfold insL
  rw [List.flatMap_append, List.flatMap_cons]
  by_cases hj : j < (l.length + 1) * m
  · rw [if_pos hj, putAt_get, putAt_size]
    by_cases h1 : j < i * m
    · rw [if_neg (by omega), putAt_get, hf, if_neg (by omega), List.getElem?_append_left (by omega), hr j h1, hsplit, List.getElem?_append_left (by omega)]
    · by_cases h3 : j < i * m + m
      · rw [if_neg (by omega), putAt_get, hf, if_pos (by omega), List.getElem?_append_right (by omega), htl, List.getElem?_append_left (by rw [hf]; omega)]
      · rw [if_pos (by omega), List.getElem?_append_right (by omega), htl, List.getElem?_append_right (by rw [hf]; omega), hf]
        congr 1
        omega
  · rw [if_neg hj, List.getElem?_eq_none]
    rw [List.length_append, List.length_append, htl, hf, hdl]
    omega
end
end Go.Proofs.YtibeihcpehikoaaGreat
