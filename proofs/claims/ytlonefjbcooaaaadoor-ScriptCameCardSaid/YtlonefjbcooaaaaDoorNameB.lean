/-
  A world that has just got blocks of the call's own is given a name.
-/
import Derived.Test.YtlonefjbcooaaaaDoorRowB
import Derived.Laws.Tables
import Derived.RegionTactic
import Derived.OwnWalk
namespace Go.Proofs.YtlonefjbcooaaaaDoor
open Go.RowKit
section
variable {F : World → Prop} {w : World} {T0 T1 T2 : TypeId} {c0 c1 c2 : Array Value}
theorem named1 (h : ∀ W, Blk W w.heap.size T0 c0 → Below w.heap.size w W → W.heap.size = w.heap.size + 1 → F W) : F (w.alloc (.cells c0 T0)) :=
  h _ (Blk.new _ _ _) (bAlloc (Below.refl _ _) _) (by simp)
theorem named2 (h : ∀ W, Blk W w.heap.size T0 c0 → Blk W (w.heap.size + 1) T1 c1 → Below w.heap.size w W → W.heap.size = w.heap.size + 1 + 1 → F W) : F ((w.alloc (.cells c0 T0)).alloc (.cells c1 T1)) :=
  h _ ((Blk.new _ _ _).alloc _) (by have := Blk.new (w.alloc (.cells c0 T0)) T1 c1; simpa using this) (bAlloc (bAlloc (Below.refl _ _) _) _) (by simp)
theorem named3 (h : ∀ W, Blk W w.heap.size T0 c0 → Blk W (w.heap.size + 1) T1 c1 → Blk W (w.heap.size + 1 + 1) T2 c2 → Below w.heap.size w W → W.heap.size = w.heap.size + 1 + 1 + 1 → F W) : F (((w.alloc (.cells c0 T0)).alloc (.cells c1 T1)).alloc (.cells c2 T2)) :=
  h _ (((Blk.new _ _ _).alloc _).alloc _) (by have := (Blk.new (w.alloc (.cells c0 T0)) T1 c1).alloc (.cells c2 T2); simpa using this) (by have := Blk.new ((w.alloc (.cells c0 T0)).alloc (.cells c1 T1)) T2 c2; simpa using this) (bAlloc (bAlloc (bAlloc (Below.refl _ _) _) _) _) (by simp)
end
theorem there_new (w : World) (cs : Array Value) (T : TypeId) {n : Nat} (h : cs.size = n) : (w.alloc (.cells cs T)).there w.heap.size 0 n := Blk.there (Blk.new w T cs) (by omega)
/-- A variable of many cells, made and set at once. -/
theorem named_put {F : World → Prop} {w : World} {zs : Array Value} {T : TypeId} {vs : List Value} (hn : vs.length = zs.size) (h : ∀ W, Blk W w.heap.size T vs.toArray → Below w.heap.size w W → W.heap.size = w.heap.size + 1 → F W) : F ((w.alloc (.cells zs T)).setCells w.heap.size 0 vs) :=
  h _ ((Blk.new w T zs).whole vs hn) (bSetCells (bAlloc (Below.refl _ _) _) (Nat.le_refl _) 0 vs) (by rw [setCells_size]; simp)
theorem fold_put (cs : List Value) : ∀ (k off : Nat) (z : Array Value), (cs.zipIdx k).foldl (fun (z : Array Value) (p : Value × Nat) => z.setIfInBounds (off + p.2) p.1) z = putAt z (off + k) cs := by
  induction cs with
  | nil => intro k off z; rfl
  | cons c r ih =>
    intro k off z
    rw [List.zipIdx_cons, List.foldl_cons, ih, putAt]
    rfl
theorem fill_put (place : Nat → Option (Nat × Nat)) (z : Array Value) (i off : Nat) (cs : List Value) (v : Value) (rest : List (Nat × Value)) (hv : v.cells = cs.toArray) (hp : place i = some (off, cs.length)) (hz : off + cs.length ≤ z.size) :
    Instr.fill place z ((i, v) :: rest) = Instr.fill place (putAt z off cs) rest := by
  rw [Instr.fill, hp]
  simp only [hv, List.size_toArray]
  rw [if_neg (by simp; omega)]
  congr 1
  have := fold_put cs 0 off z
  rw [Nat.add_zero] at this
  rw [← this, ← Array.foldl_toList]
  simp
theorem fill_two (place : Nat → Option (Nat × Nat)) (z : Array Value) (c d : List Value) (v u : Value) (hv : v.cells = c.toArray) (hu : u.cells = d.toArray) (h0 : place 0 = some (0, c.length)) (h1 : place 1 = some (c.length, d.length)) (hz : z.size = c.length + d.length) :
    Instr.fill place z [(0, v), (1, u)] = some (c ++ d).toArray := by
  rw [fill_put place z 0 0 c v _ hv h0 (by omega), fill_put place _ 1 c.length d u _ hu h1 (by rw [putAt_size]; omega), Instr.fill]
  congr 1
  apply Array.ext_getElem?
  intro j
  rw [putAt_get, putAt_get, putAt_size]
  simp only [List.getElem?_toArray, List.getElem?_append]
  by_cases hj : j < c.length
  · rw [if_neg (by omega), if_pos (by omega), if_pos hj]; simp
  · by_cases hj2 : j < c.length + d.length
    · rw [if_pos (by omega), if_neg hj]
    · rw [if_neg (by omega), if_neg (by omega), if_neg hj, Array.getElem?_eq_none (by omega), List.getElem?_eq_none (by omega)]
theorem built_struct {P : Program} {t : TypeId} {fs : Array Field} {z : Value} {places : List (Nat × Nat)} (hu : P.underlying t = some (.struct fs)) (hz : (P.info? t).bind (·.zero) = some z) (hp : (fs.toList.mapM fun f => (P.info? f.type).map fun i => (f.offset, i.size)) = some places) (parts : List (Nat × Value)) :
    P.built t parts = Instr.fill (places.toArray[·]?) z.cells parts := by
  unfold Program.built
  cases hi : P.info? t with
  | none => rw [hi] at hz; simp at hz
  | some it =>
    rw [hi] at hz
    simp only [Option.bind_some] at hz
    simp only [hu, hz, hp]
section
variable {P : Program} {fn : Func} {tmps : Array Value} {w : World} {a x y z : Tmp} {t : TypeId} {p : Addr} {v : Value}
theorem results_c0 (hr : fn.results = #[.cell a t]) (ha : tmps.getD a undef = .pointer (some p)) (hl : (loadVar t p).run P w = .ok v w) : (results fn tmps).run P w = .ok v w := by
  unfold results
  rw [hr]
  simp only [List.mapM_toArray, List.mapM_cons, List.mapM_nil, ha, asAddr]
  simp [hl]
theorem results_c2 (hr : fn.results = #[.cell a t, .tmp x, .tmp y]) (ha : tmps.getD a undef = .pointer (some p)) (hl : (loadVar t p).run P w = .ok v w) :
    (results fn tmps).run P w = .ok (.tuple #[v, tmps.getD x undef, tmps.getD y undef]) w := by
  unfold results
  rw [hr]
  simp only [List.mapM_toArray, List.mapM_cons, List.mapM_nil, ha, asAddr]
  simp [hl]
theorem results_c3 (hr : fn.results = #[.cell a t, .tmp x, .tmp y, .tmp z]) (ha : tmps.getD a undef = .pointer (some p)) (hl : (loadVar t p).run P w = .ok v w) :
    (results fn tmps).run P w = .ok (.tuple #[v, tmps.getD x undef, tmps.getD y undef, tmps.getD z undef]) w := by
  unfold results
  rw [hr]
  simp only [List.mapM_toArray, List.mapM_cons, List.mapM_nil, ha, asAddr]
  simp [hl]
end
/-- A struct or an array put together, its cells known. -/
theorem wpList_built {P : Program} {w : World} {ops : Array Oper} {rest : List Oper} {o : Oper} {a : Act} {Q : Exit → Act → World → Prop} (hgd : o.guard = none) (t : TypeId) (parts : List (Nat × Operand)) (ho : o.op = .build t parts.toArray) (cells : Array Value)
    (vs : List (Nat × Value)) (hv : parts.map (fun (i, x) => (i, a.eval x)) = vs) (hc : P.built t vs = some cells) (h : wpList P ops Q rest (a.put o.dst (.agg cells)) w) : wpList P ops Q (o :: rest) a w :=
  wpList_plain hgd fun _ hK => by
    have e : ((parts.toArray.map fun (i, x) => (i, a.eval x)).toList) = vs := by rw [← hv]; simp
    unfold Oper.wp execOp
    simp only [ho, Sem.run_bind, run_build w t _ cells (by rw [e]; exact hc), Result.andThen_ok]
    exact hK _ _ h
end Go.Proofs.YtlonefjbcooaaaaDoor
