/-
  The walks beneath: Ints, Row, Copy, EventIns.
-/
import Derived.Deep.MidRow
import Derived.Lib.Overlaps
import Derived.Laws.Externs
import Derived.Laws.IdiomCopy
import Derived.Lib.AppendZeros
import Derived.Lib.AppendZerosOnto
import Derived.Test.YtibeihcpehikoaaGreatNk3
namespace Go.Proofs.YtibeihcpehikoaaGreat
open Go.RowKit
set_option maxRecDepth 100000
set_option maxHeartbeats 4000000
section
def upd (f : Nat → Int) (i : Nat) (v : Int) : Nat → Int := fun j => if j = i then v else f j
theorem upd_same (f : Nat → Int) (i : Nat) (v : Int) : upd f i v i = v := if_pos rfl
theorem upd_other (f : Nat → Int) (i j : Nat) (v : Int) (h : j ≠ i) : upd f i v j = f j := if_neg h
section
variable {w w' w2 : World} {g : Nat}
theorem oRefl (w : World) (row : Option Nat) : w.grownBy w row := ⟨rfl, rfl, rfl, zL _, fun _ _ _ => rfl⟩
theorem oDrew {row : Option Nat} (h : w.grownBy w' row) : w.grownBy w'.drew row := ⟨h.os, h.tape, h.output, h.size, h.block⟩
theorem oSet (h : w.grownBy w' (some g)) (o : Nat) (u : Value) : w.grownBy (w'.setCell ⟨g, o, none⟩ u) (some g) :=
 ⟨h.os, h.tape, h.output, by have := h.size; simpa using this, fun k hk hr => (Below.heap_setCell w' ⟨g, o, none⟩ u k (fun e => hr (by rw [e]))).trans (h.block k hk hr)⟩
theorem oTrans {row : Option Nat} (h : w.grownBy w' row) (k : w'.grownBy w2 row) : w.grownBy w2 row :=
 ⟨k.os.trans h.os, k.tape.trans h.tape, k.output.trans h.output, Nat.le_trans h.size k.size, fun j hj hr => (k.block j (Nat.lt_of_lt_of_le hj h.size) hr).trans (h.block j hj hr)⟩
theorem oBelow {row : Option Nat} {B : Nat} (h : w.grownBy w' row) (k : Below B w' w2) (hB : w.heap.size ≤ B) : w.grownBy w2 row :=
 ⟨k.os.trans h.os, k.tape.trans h.tape, k.output.trans h.output, Nat.le_trans h.size k.size, fun j hj hr => (k.block j (Nat.lt_of_lt_of_le hj hB)).trans (h.block j hj hr)⟩
theorem oBelow' {row : Option Nat} (h : w.grownBy w' row) (k : Below w'.heap.size w' w2) : w.grownBy w2 row := oBelow h k h.size
end
end
section
def putAt (cs : Array Value) : Nat → List Value → Array Value
 | _, [] => cs
 | o, v :: r => putAt (cs.setIfInBounds o v) (o + 1) r
theorem putAt_size (vs : List Value) : ∀ (cs : Array Value) (o : Nat), (putAt cs o vs).size = cs.size := by
 induction vs with
 | nil => intro cs o; rfl
 | cons v r ih => intro cs o; rw [putAt, ih]; simp
theorem putAt_get (vs : List Value) : ∀ (cs : Array Value) (o j : Nat), (putAt cs o vs)[j]? = if o ≤ j ∧ j < o + vs.length ∧ j < cs.size then vs[j - o]? else cs[j]? := by
 induction vs with
 | nil => intro cs o j; rw [putAt, if_neg (by simp; omega)]
 | cons v r ih =>
  intro cs o j
  rw [putAt, ih]
  simp only [Array.size_setIfInBounds, zH]
  by_cases h : o + 1 ≤ j ∧ j < o + 1 + r.length ∧ j < cs.size
  ·rw [if_pos h, if_pos (by omega)]
   have : j - o = (j - (o + 1)) + 1 := by omega
   rw [this, zC]
  ·rw [if_neg h]
   by_cases h2 : j = o
   ·subst h2
    by_cases h3 : j < cs.size
    ·rw [if_pos (by omega)]; simp [h3]
    ·rw [if_neg (by omega)]
     simp [h3]
   ·rw [if_neg (by omega), Array.getElem?_setIfInBounds, if_neg (fun e => h2 e.symm)]
section
variable {w w' : World} {g : Nat} {E : TypeId} {cs : Array Value}
theorem Blk.setCells (h : Blk w g E cs) (vs : List Value) : ∀ o, Blk (w.setCells g o vs) g E (putAt cs o vs) := by
 induction vs generalizing w cs with
 | nil => intro o; exact h
 | cons v r ih => intro o; exact ih (h.set o v) (o + 1)
theorem setCells_block (w : World) (g : Nat) (vs : List Value) : ∀ (o k : Nat), k ≠ g → (w.setCells g o vs).heap[k]? = w.heap[k]? := by
 induction vs generalizing w with
 | nil => intro o k _; rfl
 | cons v r ih => intro o k hk; rw [World.setCells, ih _ _ _ hk]; exact Below.heap_setCell w ⟨g, o, none⟩ v k hk
theorem setCells_size (w : World) (g : Nat) (vs : List Value) : ∀ o, (w.setCells g o vs).heap.size = w.heap.size := by
 induction vs generalizing w with
 | nil => intro o; rfl
 | cons v r ih => intro o; rw [World.setCells, ih]; simp
theorem setCells_rest (w : World) (g : Nat) (vs : List Value) : ∀ o, (w.setCells g o vs).os = w.os ∧ (w.setCells g o vs).tape = w.tape ∧ (w.setCells g o vs).output = w.output := by
 induction vs generalizing w with
 | nil => intro o; exact ⟨rfl, rfl, rfl⟩
 | cons v r ih => intro o; rw [World.setCells]; exact ih _ _
theorem oSetCells (h : w.grownBy w' (some g)) (o : Nat) (vs : List Value) : w.grownBy (w'.setCells g o vs) (some g) :=
  ⟨(setCells_rest w' g vs o).1.trans h.os, (setCells_rest w' g vs o).2.1.trans h.tape, (setCells_rest w' g vs o).2.2.trans h.output, by rw [setCells_size]; exact h.size,
    fun k hk hr => (setCells_block w' g vs o k (fun e => hr (by rw [e]))).trans (h.block k hk hr)⟩
theorem bSetCells {B : Nat} (h : Below B w w') (hg : B ≤ g) (o : Nat) (vs : List Value) : Below B w (w'.setCells g o vs) :=
  ⟨(setCells_rest w' g vs o).1.trans h.os, (setCells_rest w' g vs o).2.1.trans h.tape, (setCells_rest w' g vs o).2.2.trans h.output, by rw [setCells_size]; exact h.size,
    fun k hk => (setCells_block w' g vs o k (by omega)).trans (h.block k hk)⟩
theorem Blk.farC {k : Nat} (h : Blk w g E cs) (hp : g ≠ k) (o : Nat) (vs : List Value) : Blk (w.setCells k o vs) g E cs := (setCells_block w k vs o g hp).trans h
theorem Blk.there (h : Blk w g E cs) {o n : Nat} (hn : o + n ≤ cs.size) : w.there g o n := fun j hj => ⟨by rw [h.cell]; simp; omega, h.frozen _⟩
theorem Blk.whole (h : Blk w g E cs) (vs : List Value) (hn : vs.length = cs.size) : Blk (w.setCells g 0 vs) g E vs.toArray := by
 have := h.setCells vs 0
 have e : putAt cs 0 vs = vs.toArray := by
  apply Array.ext_getElem?
  intro j
  rw [putAt_get]
  by_cases hj : j < cs.size
  ·rw [if_pos (by omega)]; simp
  ·rw [if_neg (by omega), Array.getElem?_eq_none (by omega), Array.getElem?_eq_none (by simp; omega)]
 rw [← e]; exact this
end
end
section
section
variable {P : Program}
theorem run_copyN (w : World) (dT sT ty elem : TypeId) (b o dLen dCap : Nat) (a : Addr) (sLen sCap sz n : Nat) (cs : List Value)
  (hu : P.underlying dT = some (.slice elem)) (hs : (P.info? elem).map (·.size) = some sz) (hn : Nat.min sLen dLen = n) (hl : cs.length = n * sz)
  (hsrc : ∀ j v, cs[j]? = some v → w.cell? (a.add j) = some v) (hc : ∀ j, j < cs.length → (w.cell? ⟨b, o + j, none⟩).isSome = true) (hf : ∀ j, j < cs.length → w.frozen? ⟨b, o + j, none⟩ = false) (h1 : ∀ v ∈ cs, v.oneCell' = true) :
  (Builtin.copy_ #[dT, sT] ty #[.slice (some ⟨b, o, none⟩) dLen dCap, .slice (some a) sLen sCap]).run P w = .ok (goInt n) (w.setCells b o cs) := by
 have hld := run_loadCells_list (P := P) w a cs hsrc
 have hst := run_storeCells_cells (P := P) b o cs 0 w (by simpa using hc) (by simpa using hf) h1
 cases hq : P.info? elem with
 | none => simp [hq] at hs
 | some i =>
  have hi : i.size = sz := by simpa [hq] using hs
  rw [hl] at hld
  simp [Builtin.copy_, run_underlying hu, Builtin.lenOf, Builtin.firstCells, sizeOf, typeInfo, hq, hi, hn, hld, hst]
variable {w : World} {ops : Array Oper} {o : Oper} {a : Act} {Q : Exit → Act → World → Prop}
theorem wpList_copy_run {rest : List Oper} (hgd : o.guard = none) (d s : Operand) (t t' : TypeId) (ho : o.op = .call { callee := .builtin .copy, args := #[d, s], argTypes := #[t, t'] }) (v u : Value) (hd : a.eval d = v) (hs : a.eval s = u) {v' : Value} {w' : World}
  (hr : (Builtin.copy_ #[t, t'] o.type #[v, u]).run P w = .ok v' w') (h : wpList P ops Q rest (a.put o.dst v') w') : wpList P ops Q (o :: rest) a w :=
 wpList_plain hgd fun _ hK => by
  unfold Oper.wp execOp
  simp only [ho, resolve, invoke, builtin, Sem.run_bind, Sem.run_pure, Result.andThen_ok, List.map_toArray, List.map_cons, List.map_nil, hd, hs, hr]
  exact hK _ _ h
theorem step_copy_run {K : Act → World → Prop} {E : Prop} (hg : o.guard = none) (d x : Operand) (dT sT : TypeId) (hop : o.op = Op.call { callee := Callee.builtin Builtin.copy, args := #[d, x], argTypes := #[dT, sT] })
  (v u : Value) (hd : a.eval d = v) (hx : a.eval x = u) {v' : Value} {w' : World} (hr : (Builtin.copy_ #[dT, sT] o.type #[v, u]).run P w = .ok v' w') (hK : K (a.put o.dst v') w') :
  if Region.wanted o (yielded ops a.tmps) = true then Oper.wp P o a w K Q else E := by
 have hw : Region.wanted o (yielded ops a.tmps) = true := by simp [Region.wanted, hg]
 rw [if_pos hw]
 unfold Oper.wp
 simp [execOp, hop, resolve, invoke, builtin, hd, hx, hr, Result.andThen]
 exact hK
end
section
variable {α : Type} {w : World} {base : Nat} {E : TypeId} {m : Nat} {f : α → List Value} {l : List α}
theorem OwnL.put {g n cap i : Nat} {x : α} (hf : ∀ a, (f a).length = m) (h : OwnL w base E m (.slice (some ⟨g, 0, none⟩) n cap) f l) (hi : i ≤ n) (hroom : n + 1 ≤ cap) :
  OwnL ((w.setCells g ((i + 1) * m) ((l.drop i).flatMap f)).setCells g (i * m) (f x)) base E m (.slice (some ⟨g, 0, none⟩) (n + 1) cap) f (insL l i x) := by
 obtain rfl := h.len
 have hl1 := length_flatMap_const f m hf l
 rcases h.2 with ⟨e, -⟩ | ⟨g', cap', cur, hv, hb, hg, hn, hc, hs, ht⟩
 ·cases e
 ·simp only [Value.slice.injEq, Option.some.injEq, Addr.mk.injEq, and_true] at hv
  obtain ⟨rfl, -, rfl⟩ := hv
  have hB : Blk w g E cur := hg
  have h2 := (hB.setCells ((l.drop i).flatMap f) ((i + 1) * m)).setCells (f x) (i * m)
  refine ⟨by rw [length_flatMap_const f m hf], .inr ⟨g, cap, _, by rw [insL_length], hb, h2, by rw [insL_length]; exact hroom, hc, by rw [putAt_size, putAt_size]; exact hs, ?_⟩⟩
  rw [insL_length]
  have hdl : ((l.drop i).flatMap f).length = (l.length - i) * m := by rw [length_flatMap_const f m hf, List.length_drop]
  have htl : ((l.take i).flatMap f).length = i * m := by rw [length_flatMap_const f m hf, List.length_take, Nat.min_eq_left hi]
  have hmul : (l.length + 1) * m ≤ cap * m := Nat.mul_le_mul_right _ hroom
  have hsplit : l.flatMap f = (l.take i).flatMap f ++ (l.drop i).flatMap f := by rw [← List.flatMap_append, List.take_append_drop]
  have him : (i + 1) * m = i * m + m := Nat.succ_mul _ _
  have hlm : (l.length + 1) * m = l.length * m + m := Nat.succ_mul _ _
  have hli : l.length * m = i * m + (l.length - i) * m := by rw [← Nat.add_mul]; congr 1; omega
  apply List.ext_getElem?
  intro j
  rw [List.getElem?_take, Array.getElem?_toList]
  unfold insL
  rw [List.flatMap_append, List.flatMap_cons]
  by_cases hj : j < (l.length + 1) * m
  ·rw [if_pos hj, putAt_get, putAt_size, hf]
   by_cases h1 : j < i * m
   ·rw [if_neg (by omega), putAt_get, if_neg (by omega), List.getElem?_append_left (by omega)]
    have e1 : cur[j]? = (l.flatMap f)[j]? := by
     rw [← ht, List.getElem?_take, if_pos (by omega), Array.getElem?_toList]
    rw [e1, hsplit, List.getElem?_append_left (by omega)]
   ·by_cases h3 : j < i * m + m
    ·rw [if_pos (by omega), List.getElem?_append_right (by omega), htl, List.getElem?_append_left (by rw [hf]; omega)]
    ·rw [if_neg (by omega), putAt_get, if_pos (by omega), List.getElem?_append_right (by omega), htl, List.getElem?_append_right (by rw [hf]; omega), hf]
     congr 1
     omega
  ·rw [if_neg hj, List.getElem?_eq_none]
   rw [zG, zG, htl, hf, hdl]
   omega
theorem OwnL.fresh {g cap i : Nat} {x : α} {ROW : Array Value} (hf : ∀ a, (f a).length = m) (hB : Blk w g E ROW) (hg : base ≤ g) (hi : i ≤ l.length) (hroom : l.length + 1 ≤ cap) (hc : cap ≤ maxLen) (hs : ROW.size = cap * m) (hr : ∀ j, j < i * m → ROW[j]? = (l.flatMap f)[j]?) :
  OwnL ((w.setCells g (i * m) (f x)).setCells g ((i + 1) * m) ((l.drop i).flatMap f)) base E m (.slice (some ⟨g, 0, none⟩) (l.length + 1) cap) f (insL l i x) := by
 have h2 := (hB.setCells (f x) (i * m)).setCells ((l.drop i).flatMap f) ((i + 1) * m)
 refine ⟨by rw [length_flatMap_const f m hf], .inr ⟨g, cap, _, by rw [insL_length], hg, h2, by rw [insL_length]; exact hroom, hc, by rw [putAt_size, putAt_size]; exact hs, ?_⟩⟩
 rw [insL_length]
 have hdl : ((l.drop i).flatMap f).length = (l.length - i) * m := by rw [length_flatMap_const f m hf, List.length_drop]
 have htl : ((l.take i).flatMap f).length = i * m := by rw [length_flatMap_const f m hf, List.length_take, Nat.min_eq_left hi]
 have hmul : (l.length + 1) * m ≤ cap * m := Nat.mul_le_mul_right _ hroom
 have hsplit : l.flatMap f = (l.take i).flatMap f ++ (l.drop i).flatMap f := by rw [← List.flatMap_append, List.take_append_drop]
 have him : (i + 1) * m = i * m + m := Nat.succ_mul _ _
 have hlm : (l.length + 1) * m = l.length * m + m := Nat.succ_mul _ _
 have hli : l.length * m = i * m + (l.length - i) * m := by rw [← Nat.add_mul]; congr 1; omega
 apply List.ext_getElem?
 intro j
 rw [List.getElem?_take, Array.getElem?_toList]
 unfold insL
 rw [List.flatMap_append, List.flatMap_cons]
 by_cases hj : j < (l.length + 1) * m
 ·rw [if_pos hj, putAt_get, putAt_size]
  by_cases h1 : j < i * m
  ·rw [if_neg (by omega), putAt_get, hf, if_neg (by omega), List.getElem?_append_left (by omega), hr j h1, hsplit, List.getElem?_append_left (by omega)]
  ·by_cases h3 : j < i * m + m
   ·rw [if_neg (by omega), putAt_get, hf, if_pos (by omega), List.getElem?_append_right (by omega), htl, List.getElem?_append_left (by rw [hf]; omega)]
   ·rw [if_pos (by omega), List.getElem?_append_right (by omega), htl, List.getElem?_append_right (by rw [hf]; omega), hf]
    congr 1
    omega
 ·rw [if_neg hj, List.getElem?_eq_none]
  rw [zG, zG, htl, hf, hdl]
  omega
end
end
section
theorem OwnL.cellAt' {α : Type} {w : World} {base : Nat} {E : TypeId} {m : Nat} {f : α → List Value} {l : List α} {g n cap j : Nat} (h : OwnL w base E m (.slice (some ⟨g, 0, none⟩) n cap) f l) (hj : j < l.length * m) :
  w.cell? ⟨g, j, none⟩ = (l.flatMap f)[j]? := by
 obtain rfl := h.len
 exact World.ownsRow.cellAt h j hj
theorem evSize : (Tryz.prog.info? 62).map (·.size) = some 9 := by kernel_rfl
theorem evSizeOf (w : World) : (Go.sizeOf 62).run Tryz.prog w = .ok 9 w := by kernel_rfl
theorem ev_oneCells (L : List Ev) : ∀ u ∈ L.flatMap Ev.cells, u.oneCell' = true := by
 intro u hu
 obtain ⟨x, -, hx⟩ := List.mem_flatMap.1 hu
 exact ev_oneCell x u hx
theorem blk_shape {w : World} {g : Nat} {E : TypeId} {cs : Array Value} (h : Blk w g E cs) : w.shape? g = some (E, cs.size) := by
 unfold Blk at h
 unfold World.shape?
 rw [h]
theorem overl_no (w : World) (gv g : Nat) (E E' : TypeId) (cs cs' : Array Value) (hx : Blk w gv E cs) (hg : Blk w g E' cs') (hne : gv ≠ g) (h0 : cs'.size ≠ 0) (o lb cb : Nat) :
  (callFunc 314 #[.slice (some ⟨gv, 0, none⟩) 1 1, .slice (some ⟨g, o, none⟩) lb cb]).run Tryz.prog w = .ok (.value (.bool false)) w := by
 rw [run_callFunc_extern Tryz.func314 (by kernel_rfl) (by kernel_rfl) (by kernel_rfl) (e := Extern.SlicesOverlaps.overlaps #[52, 52] #[4]) (by kernel_rfl),
  Lib.run_overlaps_apart w 52 4 62 Tryz.underlying52 9 evSizeOf ⟨gv, 0, none⟩ ⟨g, o, none⟩ 1 1 lb cb hne E E' cs.size cs'.size (blk_shape hx) (blk_shape hg) h0 (hx.frozen 0) (hx.frozen cs.size)]
 rfl
theorem ins_room (g n c i : Nat) (L : List Ev) (x : Ev) (gv base : Nat) (w : World) (hA : OwnL w base 62 9 (.slice (some ⟨g, 0, none⟩) n c) Ev.cells L) (hi : i < n) (hn : n ≤ 1000) (hroom : n + 1 ≤ c)
  (hx : Blk w gv 62 x.cells.toArray) (hne : gv ≠ g) :
  Calls Tryz.prog 295 #[.slice (some ⟨g, 0, none⟩) n c, .int .i64 i, .slice (some ⟨gv, 0, none⟩) 1 1] w fun e w' => e = .returned (.slice (some ⟨g, 0, none⟩) (n + 1) c) ∧ OwnL w' base 62 9 (.slice (some ⟨g, 0, none⟩) (n + 1) c) Ev.cells (insL L i x) ∧ w.grownBy w' (some g) := by
 have hln := hA.len
 obtain ⟨cur, hcur, hcs⟩ : ∃ cur, Blk w g 62 cur ∧ cur.size = c * 9 := by
  rcases hA.2 with ⟨e, -⟩ | ⟨g', cap', cur, hv, hb, hg, hn', hc, hs, ht⟩
  ·cases e
  ·simp only [Value.slice.injEq, Option.some.injEq, Addr.mk.injEq, and_true] at hv
   obtain ⟨rfl, -, rfl⟩ := hv
   exact ⟨cur, hg, hs⟩
 have hov := fun o lb cb => overl_no w gv g 62 62 _ cur hx hcur hne (by omega) o lb cb
 have hdl : ((L.drop i).flatMap Ev.cells).length = (n - i) * 9 := by rw [length_flatMap_const Ev.cells 9 Ev.cells_length, List.length_drop, hln]
 have hcp1 : ∀ ty dc sc, (Builtin.copy_ #[52, 52] ty #[.slice (some ⟨g, (i + 1) * 9, none⟩) (n - i) dc, .slice (some ⟨g, i * 9, none⟩) (n + 1 - i) sc]).run Tryz.prog w.drew = .ok (goInt ((n - i : Nat) : Int)) (w.drew.setCells g ((i + 1) * 9) ((L.drop i).flatMap Ev.cells)) := fun ty dc sc =>
  run_copyN w.drew _ _ ty 62 g ((i + 1) * 9) (n - i) dc ⟨g, i * 9, none⟩ (n + 1 - i) sc 9 (n - i) _ Tryz.underlying52 evSize (by simp only [Nat.min_def]; split <;> omega) hdl
   (fun j v hj => by
    rw [Go.WideShapes.add_plain]
    have hj9 : j < (n - i) * 9 := by rw [← hdl]; exact (List.getElem?_eq_some_iff.1 hj).1
    have hli : L.length * 9 = i * 9 + (n - i) * 9 := by rw [← Nat.add_mul]; congr 1; omega
    have h := hA.drew.cellAt' (j := i * 9 + j) (by omega)
    rw [h, ← hj, ← List.take_append_drop i L, List.flatMap_append, List.getElem?_append_right (by rw [length_flatMap_const Ev.cells 9 Ev.cells_length, List.length_take]; omega), length_flatMap_const Ev.cells 9 Ev.cells_length, List.length_take, List.take_append_drop]
    congr 1
    omega)
   (fun j hj => by
    have h := hcur.cell ((i + 1) * 9 + j)
    have hlt : (i + 1) * 9 + j < cur.size := by omega
    rw [Array.getElem?_eq_getElem hlt] at h
    exact Option.isSome_iff_exists.2 ⟨_, h⟩)
   (fun j _ => hcur.frozen _) (ev_oneCells _)
 obtain ⟨W1, hW1⟩ : ∃ W1, W1 = w.drew.setCells g ((i + 1) * 9) ((L.drop i).flatMap Ev.cells) := ⟨_, rfl⟩
 rw [← hW1] at hcp1
 have hcp2 : ∀ ty dc, (Builtin.copy_ #[52, 52] ty #[.slice (some ⟨g, i * 9, none⟩) (n + 1 - i) dc, .slice (some ⟨gv, 0, none⟩) 1 1]).run Tryz.prog W1 = .ok (goInt ((1 : Nat) : Int)) (W1.setCells g (i * 9) x.cells) := fun ty dc => by
  have hc1 : Blk W1 g 62 (putAt cur ((i + 1) * 9) ((L.drop i).flatMap Ev.cells)) := by rw [hW1]; exact hcur.drew.setCells _ _
  have hx1 : Blk W1 gv 62 x.cells.toArray := by rw [hW1]; exact hx.drew.farC hne _ _
  refine run_copyN W1 _ _ ty 62 g (i * 9) (n + 1 - i) dc ⟨gv, 0, none⟩ 1 1 9 1 _ Tryz.underlying52 evSize (by simp only [Nat.min_def]; split <;> omega) rfl ?_ ?_ (fun j _ => hc1.frozen _) (ev_oneCell x)
  ·intro j v hj
   rw [Go.WideShapes.add_plain, Nat.zero_add, hx1.cell j]
   simpa using hj
  ·intro j hj
   have hj9 : j < 9 := hj
   have h := hc1.cell (i * 9 + j)
   have hlt : i * 9 + j < (putAt cur ((i + 1) * 9) ((L.drop i).flatMap Ev.cells)).size := by rw [putAt_size]; omega
   rw [Array.getElem?_eq_getElem hlt] at h
   exact Option.isSome_iff_exists.2 ⟨_, h⟩
 have hfin : OwnL (W1.setCells g (i * 9) x.cells) base 62 9 (.slice (some ⟨g, 0, none⟩) (n + 1) c) Ev.cells (insL L i x) := by rw [hW1]; exact OwnL.put Ev.cells_length hA.drew (by omega) hroom
 have hgr : w.grownBy (W1.setCells g (i * 9) x.cells) (some g) := by rw [hW1]; exact oSetCells (oSetCells (oDrew (oRefl _ _)) _ _) _ _
 have HF := zz hfin
 have HG := zz hgr
 have HW := zz hW1
 have hb1 : ¬ c = i + 1 := by omega
 have hb2 : ¬ c = i := by omega
 have hin : i ≤ n := by omega
 have hw1 : IntKind.i64.wrap ((i : Int) + 1) = (i : Int) + 1 := by rw [IntKind.wrap_i64]; omega
 have hb3 : (0 : Int) ≤ (i : Int) + 1 := by omega
 have hb4 : (i : Int) ≤ (n : Int) + 1 := by omega
 have htn : ((i : Int) + 1).toNat = i + 1 := by omega
 have hne1 : ((i : Int) == (n : Int)) = false := by simp; omega
 clear hA hln hcur hcs hdl hx hfin hgr hW1
 go_enter Tryz.func295, Tryz.ntmps295
 go_wp2_with (simp only [hov])
 go_region_law (refine step_copy_run rfl (.tmp 73) (.tmp 76) 52 52 rfl _ _ (by simp [Act.eval, Act.put]) (by simp [Act.eval, Act.put]) (hcp1 _ _ _) ?_)
 all_goals
  go_wp2_with (refine wpList_copy_run rfl (.tmp 80) (.tmp 81) 52 52 rfl _ _ rfl rfl (hcp2 _ _) ?_)
  go_ret
  exact ⟨rfl, HF.out, HG.out⟩
theorem drew_put (b : Nat) (vs : List Value) : ∀ (w : World) (o : Nat), (w.setCells b o vs).drew = w.drew.setCells b o vs := by
 induction vs with
 | nil => intro w o; rfl
 | cons v r ih => intro w o; rw [World.setCells, World.setCells, ih]; rfl
theorem World.heap_drew' (w : World) : w.drew.heap = w.heap := rfl
def zEv : Value := .agg #[.int .i64 0, .int .i64 0, .int .i64 0, .int .i64 0, .int .i64 0, .int .i64 0, .int .i64 0, .int .i64 0, .int .i64 0]
theorem zero_size (k : Nat) : (Builtin.zeroCells zEv.cells k).size = k * 9 := by simp [Builtin.zeroCells, zEv, Value.cells]
theorem ins_grow (g n i : Nat) (L : List Ev) (x : Ev) (gv base : Nat) (w : World) (hbase : base ≤ w.heap.size) (hA : OwnL w base 62 9 (.slice (some ⟨g, 0, none⟩) n n) Ev.cells L) (hi : i < n) (hn : n ≤ 1000)
  (hx : Blk w gv 62 x.cells.toArray) :
  Calls Tryz.prog 295 #[.slice (some ⟨g, 0, none⟩) n n, .int .i64 i, .slice (some ⟨gv, 0, none⟩) 1 1] w fun e w' => ∃ c', e = .returned (.slice (some ⟨w.heap.size, 0, none⟩) (n + 1) c') ∧ OwnL w' base 62 9 (.slice (some ⟨w.heap.size, 0, none⟩) (n + 1) c') Ev.cells (insL L i x) ∧ Below w.heap.size w w' := by
 obtain ⟨i0, hi0, hz0, hzs, hzb⟩ := info_parts Tryz.infoEv
 have hln := hA.len
 have hgl : g < w.heap.size := hA.block_lt g rfl
 have hvl : gv < w.heap.size := hx.lt
 have hkk : (n : Int) + 1 - (i : Int) = ((n + 1 - i : Nat) : Int) := by omega
 have hik : i + (n + 1 - i) = n + 1 := by omega
 have hmi : ∀ a b : Nat, a ≤ b → a * 9 ≤ b * 9 := fun a b h => Nat.mul_le_mul_right _ h
 have htk : ((L.take i).flatMap Ev.cells).length = i * 9 := by rw [length_flatMap_const Ev.cells 9 Ev.cells_length, List.length_take]; congr 1; omega
 have hdl : ((L.drop i).flatMap Ev.cells).length = (n - i) * 9 := by rw [length_flatMap_const Ev.cells 9 Ev.cells_length, List.length_drop, hln]
 have hLl : (L.flatMap Ev.cells).length = n * 9 := by rw [length_flatMap_const Ev.cells 9 Ev.cells_length, hln]
 have hsp : L.flatMap Ev.cells = (L.take i).flatMap Ev.cells ++ (L.drop i).flatMap Ev.cells := by rw [← List.flatMap_append, List.take_append_drop]
 have hni : n * 9 = i * 9 + (n - i) * 9 := by rw [← Nat.add_mul]; congr 1; omega
 have hold : (Builtin.firstCells i0.size i (.slice (some ⟨g, 0, none⟩) i n)).run Tryz.prog w.drew = .ok ((L.take i).flatMap Ev.cells).toArray w.drew := by
  rw [hzs]
  refine run_firstCells_some w.drew 9 i ⟨g, 0, none⟩ i n _ htk (fun j v hj => ?_)
  have hj9 : j < i * 9 := by rw [← htk]; exact (List.getElem?_eq_some_iff.1 hj).1
  rw [Go.WideShapes.add_plain, Nat.zero_add]
  have h := hA.drew.cellAt' (j := j) (by rw [← hln]; omega)
  rw [h, hsp, List.getElem?_append_left (by omega), hj]
 obtain ⟨G, hG⟩ : ∃ G, G = grownCap w (n + 1) n 62 := ⟨_, rfl⟩
 obtain ⟨ROW, hROW⟩ : ∃ ROW : Array Value, ROW = ((L.take i).flatMap Ev.cells).toArray ++ Builtin.zeroCells zEv.cells (n + 1 - i) ++ Builtin.zeroCells zEv.cells (G - (n + 1)) := ⟨_, rfl⟩
 have hGn : n + 1 ≤ G := by rw [hG]; exact grownCap_ge w _ _ _
 have hGm : G ≤ maxLen := by rw [hG]; exact grownCap_le_maxLen w (n + 1) n 62 (by unfold maxLen; omega)
 have hRs : ROW.size = G * 9 := by
  rw [hROW, Array.size_append, Array.size_append, zero_size, zero_size, zM, htk, ← Nat.add_mul, ← Nat.add_mul]
  congr 1
  omega
 have hRh : ∀ j, j < i * 9 → ROW[j]? = (L.flatMap Ev.cells)[j]? := fun j hj => by
  rw [hROW, Array.append_assoc, Array.getElem?_append_left (by rw [zM, htk]; exact hj), zA, hsp, List.getElem?_append_left (by omega)]
 have hrz : ∀ ty, (Builtin.append_ #[52, 3] ty #[.slice (some ⟨g, 0, none⟩) i n, .int .i64 ((n : Int) + 1 - (i : Int))]).run Tryz.prog w =
   .ok (.slice (some ⟨w.heap.size, 0, none⟩) (n + 1) G) (w.drew.alloc (.cells ROW 62)) := fun ty => by
  have h := Lib.run_append_grow_zeros w 52 3 ty 62 i0 _ .i64 .i64 Tryz.underlying52 Tryz.underlying3 hi0 hz0 (some ⟨g, 0, none⟩) i n ((L.take i).flatMap Ev.cells) hold (n + 1 - i) (by omega) (by omega) (by omega) (by omega) (by rw [hzb]; omega) (by rw [hzb, hik]; exact growslice_fits (by omega) (by omega))
  rw [hik, ← hG] at h
  rw [hkk, hROW]
  exact h
 obtain ⟨W1, hW1⟩ : ∃ W1, W1 = w.drew.alloc (.cells ROW 62) := ⟨_, rfl⟩
 have hB1 : Blk W1 w.heap.size 62 ROW := by rw [hW1]; exact Blk.new w.drew 62 ROW
 have hx1 : Blk W1 gv 62 x.cells.toArray := by rw [hW1]; exact hx.drew.alloc _
 have hA1 : OwnL W1 base 62 9 (.slice (some ⟨g, 0, none⟩) n n) Ev.cells L := by rw [hW1]; exact hA.drew.alloc _
 have hb1 : Below w.heap.size w W1 := by rw [hW1]; exact bAlloc (Below.refl _ _).drew _
 have hcpA : ∀ (W : World), W.heap = W1.heap → ∀ ty dc, (Builtin.copy_ #[52, 52] ty #[.slice (some ⟨w.heap.size, i * 9, none⟩) (n + 1 - i) dc, .slice (some ⟨gv, 0, none⟩) 1 1]).run Tryz.prog W = .ok (goInt ((1 : Nat) : Int)) (W.setCells w.heap.size (i * 9) x.cells) := fun W hW ty dc => by
  have hBW : Blk W w.heap.size 62 ROW := by unfold Blk; rw [hW]; exact hB1
  have hxW : Blk W gv 62 x.cells.toArray := by unfold Blk; rw [hW]; exact hx1
  refine run_copyN W _ _ ty 62 w.heap.size (i * 9) (n + 1 - i) dc ⟨gv, 0, none⟩ 1 1 9 1 _ Tryz.underlying52 evSize (by simp only [Nat.min_def]; split <;> omega) rfl ?_ ?_ (fun j _ => hBW.frozen _) (ev_oneCell x)
  ·intro j v hj
   rw [Go.WideShapes.add_plain, Nat.zero_add, hxW.cell j]
   simpa using hj
  ·intro j hj
   have hj9 : j < 9 := hj
   have h := hBW.cell (i * 9 + j)
   have hlt : i * 9 + j < ROW.size := by have := hmi (n + 1) G hGn; omega
   rw [Array.getElem?_eq_getElem hlt] at h
   exact Option.isSome_iff_exists.2 ⟨_, h⟩
 have hcpB : ∀ (W : World), W.heap = (W1.setCells w.heap.size (i * 9) x.cells).heap → ∀ ty dc sc, (Builtin.copy_ #[52, 52] ty #[.slice (some ⟨w.heap.size, (i + 1) * 9, none⟩) (n - i) dc, .slice (some ⟨g, i * 9, none⟩) (n - i) sc]).run Tryz.prog W = .ok (goInt ((n - i : Nat) : Int)) (W.setCells w.heap.size ((i + 1) * 9) ((L.drop i).flatMap Ev.cells)) := fun W hW ty dc sc => by
  have hBW : Blk W w.heap.size 62 (putAt ROW (i * 9) x.cells) := by unfold Blk; rw [hW]; exact hB1.setCells _ _
  have hA2 : OwnL (W1.setCells w.heap.size (i * 9) x.cells) base 62 9 (.slice (some ⟨g, 0, none⟩) n n) Ev.cells L := hA1.kept (row := some w.heap.size) (oSetCells (oRefl _ _) _ _) (.inr (by simp [Value.ownBlock]; omega))
  refine run_copyN W _ _ ty 62 w.heap.size ((i + 1) * 9) (n - i) dc ⟨g, i * 9, none⟩ (n - i) sc 9 (n - i) _ Tryz.underlying52 evSize (Nat.min_self _) hdl ?_ ?_ (fun j _ => hBW.frozen _) (ev_oneCells _)
  ·intro j v hj
   rw [Go.WideShapes.add_plain]
   have hj9 : j < (n - i) * 9 := by rw [← hdl]; exact (List.getElem?_eq_some_iff.1 hj).1
   have h := hA2.cellAt' (j := i * 9 + j) (by rw [← hln]; omega)
   have e : W.cell? ⟨g, i * 9 + j, none⟩ = (W1.setCells w.heap.size (i * 9) x.cells).cell? ⟨g, i * 9 + j, none⟩ := by unfold World.cell?; rw [hW]
   rw [e, h, hsp, List.getElem?_append_right (by omega), htk, show i * 9 + j - i * 9 = j from by omega]
   exact hj
  ·intro j hj
   have hj9 : j < (n - i) * 9 := by rw [← hdl]; exact hj
   have h := hBW.cell ((i + 1) * 9 + j)
   have hlt : (i + 1) * 9 + j < (putAt ROW (i * 9) x.cells).size := by rw [putAt_size]; have := hmi (n + 1) G hGn; omega
   rw [Array.getElem?_eq_getElem hlt] at h
   exact Option.isSome_iff_exists.2 ⟨_, h⟩
 rw [← hW1] at hrz
 have hfin : ∀ W : World, Blk W w.heap.size 62 ROW → OwnL ((W.setCells w.heap.size (i * 9) x.cells).setCells w.heap.size ((i + 1) * 9) ((L.drop i).flatMap Ev.cells)) base 62 9 (.slice (some ⟨w.heap.size, 0, none⟩) (n + 1) G) Ev.cells (insL L i x) := fun W hB => by
  have := OwnL.fresh (l := L) (x := x) (cap := G) (i := i) (base := base) Ev.cells_length hB hbase (by omega) (by omega) hGm hRs hRh
  rwa [← hln] at this
 have hA9 : ∀ ty, (Builtin.copy_ #[52, 52] ty #[.slice (some ⟨w.heap.size, i * 9, none⟩) (n + 1 - i) (G - i), .slice (some ⟨gv, 0, none⟩) 1 1]).run Tryz.prog W1 = .ok (goInt ((1 : Nat) : Int)) (W1.setCells w.heap.size (i * 9) x.cells) := fun ty => hcpA W1 rfl ty _
 obtain ⟨W2, hW2⟩ : ∃ W2, W2 = W1.setCells w.heap.size (i * 9) x.cells := ⟨_, rfl⟩
 have hB9 : ∀ ty, (Builtin.copy_ #[52, 52] ty #[.slice (some ⟨w.heap.size, (i + 1) * 9, none⟩) (n - i) (G - (i + 1)), .slice (some ⟨g, i * 9, none⟩) (n - i) (n - i)]).run Tryz.prog W2.drew = .ok (goInt ((n - i : Nat) : Int)) (W2.drew.setCells w.heap.size ((i + 1) * 9) ((L.drop i).flatMap Ev.cells)) := fun ty => hcpB W2.drew (by rw [hW2, World.heap_drew']) ty _ _
 have hfin2 : OwnL (W2.drew.setCells w.heap.size ((i + 1) * 9) ((L.drop i).flatMap Ev.cells)) base 62 9 (.slice (some ⟨w.heap.size, 0, none⟩) (n + 1) G) Ev.cells (insL L i x) := by rw [hW2, drew_put]; exact hfin W1.drew hB1.drew
 have hbl2 : Below w.heap.size w (W2.drew.setCells w.heap.size ((i + 1) * 9) ((L.drop i).flatMap Ev.cells)) := by rw [hW2]; exact bSetCells (bSetCells hb1 (zL _) _ _).drew (zL _) _ _
 rw [← hW2] at hA9
 have HF2 := zz hfin2
 have HB2 := zz hbl2
 have hGi : ¬ G = i := by omega
 have hGi1 : ¬ G = i + 1 := by omega
 have hni1 : ¬ n = i := by omega
 have hw1 : IntKind.i64.wrap ((i : Int) + 1) = (i : Int) + 1 := by rw [IntKind.wrap_i64]; omega
 have hb3 : (0 : Int) ≤ (i : Int) + 1 := by omega
 have hb4 : (i : Int) ≤ (n : Int) := by omega
 have hG63 : G ≤ 9223372036854775807 := by unfold maxLen at hGm; omega
 have htn : ((i : Int) + 1).toNat = i + 1 := by omega
 have hne1 : ((i : Int) == (n : Int)) = false := by simp; omega
 have hlt1 : (n : Int) < (n : Int) + 1 := by omega
 clear hcpA hcpB hfin2 hbl2 hW2 hA hln hdl hx hfin hold hROW hG hRs hRh hi0 hz0 hzs hzb hkk hik htk hLl hsp hni hB1 hx1 hA1 hb1 hmi hGm hW1
 go_enter Tryz.func295, Tryz.ntmps295
 go_wp2_with (first
  | (at_builtin; refine Lib.wpList_append_run _ rfl (.tmp 34) (.tmp 39) 52 3 rfl _ _ rfl rfl _ _ (hrz _) ?_)
  | (refine wpList_copy_run rfl (.tmp 43) (.tmp 44) 52 52 rfl _ _ rfl rfl (hA9 _) ?_))
 go_region_law (refine step_copy_run rfl (.tmp 50) (.tmp 53) 52 52 rfl _ _ (by simp [Act.eval, Act.put]) (by simp [Act.eval, Act.put]) (hB9 _) ?_)
 all_goals
  go_wp2
  go_ret
  exact ⟨G, rfl, HF2.out, HB2.out⟩
end
end Go.Proofs.YtibeihcpehikoaaGreat
