/-
  Bytes of the call's own whose block bears a mark behind its last cell ('[]byte(s)' lays it): a string appended to them.
-/
import Derived.Test.YtmggnadhjgadnaaWaveLeaf
import Derived.Lib.AppendStr
import Derived.Lib.UnsafeStr
namespace Go.Proofs.Ytmggnadhjgadnaa
open Go.RowKit

section
variable {P : Program}
theorem storeCells_mark (g o : Nat) (t : TypeId) (fr : Nat × Nat) : ∀ (vs : List Value) (i : Nat) (cur : Array Value) (w : World), w.heap[g]? = some (.cells cur t fr) → cur.size ≤ fr.1 → o + i + vs.length ≤ cur.size → (∀ v ∈ vs, v.oneCell' = true) →
    (storeCells ⟨g, o, none⟩ vs i).run P w = .ok () (w.setRow g (cur.toList.take (o + i) ++ vs ++ cur.toList.drop (o + i + vs.length)).toArray)
  | [], i, cur, w, hg, _, _, _ => by
    simp only [storeCells, List.append_nil, List.length_nil, Nat.add_zero, List.take_append_drop, Array.toArray_toList]
    rw [setRow_self w g cur t fr hg]
    rfl
  | v :: rest, i, cur, w, hg, hm, hl, h1 => by
    have hi : o + i < cur.size := by simp at hl; omega
    have hadd : (⟨g, o, none⟩ : Addr).add i = ⟨g, o + i, none⟩ := by unfold Addr.add; split <;> simp_all
    have hcell : w.cell? ⟨g, o + i, none⟩ = some cur[o + i] := by simp [World.cell?, hg, hi]
    have hfro : w.frozen? ⟨g, o + i, none⟩ = false := by simp [World.frozen?, hg]; omega
    have hst : (store ((⟨g, o, none⟩ : Addr).add i) v).run P w = .ok () (w.setRow g (cur.setIfInBounds (o + i) v)) := by
      rw [hadd, run_store P w _ v _ (h1 v (by simp)), hcell]
      simp [hfro, setCell_eq_setRow w g (o + i) cur t fr v hg]
    have ih := storeCells_mark g o t fr rest (i + 1) (cur.setIfInBounds (o + i) v) (w.setRow g (cur.setIfInBounds (o + i) v)) (setRow_heap w g cur _ t _ hg) (by simpa using hm) (by simp at hl ⊢; omega) (fun x hx => h1 x (by simp [hx]))
    simp only [storeCells, Sem.run_bind, hst, Result.andThen_ok, ih, setRow_setRow]
    congr 3
    have e := list_seg_step cur.toList (o + i) v rest (by simp at hl ⊢; omega)
    simpa [Array.toList_setIfInBounds, Nat.add_assoc] using e

/-- Bytes that the call owns, a mark behind the last cell or none. -/
def OwnB (w : World) (base : Nat) (e : TypeId) (v : Value) (l : List UInt8) : Prop :=
  ∃ g cap cur fr, v = .slice (some ⟨g, 0, none⟩) l.length cap ∧ base ≤ g ∧ w.heap[g]? = some (.cells cur e fr) ∧ (fr = (0, 0) ∨ cur.size ≤ fr.1) ∧ l.length ≤ cap ∧ cap ≤ maxLen ∧ cur.size = cap ∧ cur.toList.take l.length = Lib.byteCells l

variable {w : World} {base : Nat} {e : TypeId} {v : Value} {l : List UInt8}
theorem OwnB.cell {A : Option Addr} {n c : Nat} (h : OwnB w base e (.slice A n c) l) : ∃ g, A = some ⟨g, 0, none⟩ ∧ n = l.length ∧ base ≤ g ∧ g < w.heap.size ∧ ∀ k (hk : k < l.length), w.cell? ⟨g, k, none⟩ = some (.int .u8 (l[k].toNat : Int)) := by
  obtain ⟨g, cap, cur, fr, hv, hb, hg, -, -, -, -, ht⟩ := h
  simp only [Value.slice.injEq] at hv
  obtain ⟨rfl, rfl, rfl⟩ := hv
  have hlt : g < w.heap.size := (Array.getElem?_eq_some_iff.1 hg).1
  refine ⟨g, rfl, rfl, hb, hlt, fun k hk => ?_⟩
  have h1 : (Lib.byteCells l)[k]? = some (.int .u8 (l[k].toNat : Int)) := by simp [Lib.byteCells, hk]
  rw [← ht, List.getElem?_take_of_lt hk] at h1
  simp [World.cell?, hg]
  simpa using h1
theorem OwnB.below {w' : World} (h : OwnB w base e v l) (hb : Below w.heap.size w w') : OwnB w' base e v l := by
  obtain ⟨g, cap, cur, fr, hv, hbg, hg, r⟩ := h
  have hlt : g < w.heap.size := (Array.getElem?_eq_some_iff.1 hg).1
  exact ⟨g, cap, cur, fr, hv, hbg, (hb.block g hlt).trans hg, r⟩
theorem OwnB.base_le (h : OwnB w base e v l) : ∀ k, v.ownBlock = some k → base ≤ k := by
  obtain ⟨g, cap, cur, fr, rfl, hbg, _⟩ := h
  intro k hk
  simp only [Value.ownBlock, Option.some.injEq] at hk
  omega
theorem OwnB.of_string (s : ByteArray) (hb : base ≤ w.heap.size) (hs : s.size ≤ maxLen) :
    OwnB (w.drew.alloc (.cells (bytesRow s (grownCap w s.size 0 e)) e ((bytesRow s (grownCap w s.size 0 e)).size, (bytesRow s (grownCap w s.size 0 e)).size + 1))) base e (.slice (some ⟨w.heap.size, 0, none⟩) s.size (grownCap w s.size 0 e)) s.data.toList := by
  have hge := grownCap_ge w s.size 0 e
  refine ⟨w.heap.size, grownCap w s.size 0 e, _, _, rfl, hb, heap_alloc_new w.drew _, .inr (Nat.le_refl _), hge, grownCap_le_maxLen w s.size 0 e hs, ?_, ?_⟩
  · have hge' : s.data.size ≤ grownCap w s.data.size 0 e := hge
    unfold bytesRow
    rw [Array.size_append, Array.size_map, Array.size_replicate]
    show s.data.size + (grownCap w s.data.size 0 e - s.data.size) = grownCap w s.data.size 0 e
    omega
  · have h : (s.data.map (fun b => Value.int .u8 b.toNat)).toList = Lib.byteCells s.data.toList := by simp [Lib.byteCells]
    unfold bytesRow
    rw [Array.toList_append, h, ← Lib.byteCells_length s.data.toList, List.take_left]
theorem run_append_ownB (t u ty : TypeId) (i : TypeInfo) (ht : P.underlying t = some (.slice e)) (hu : P.underlying u = some .string) (hi : P.info? e = some i) (hz : i.zero = some (.int .u8 0))
    (hsize : i.size = 1) (hby : i.bytes = 1) (hown : OwnB w base e v l) (s : List UInt8) (hbytes : l.length + s.length ≤ 140737488355328) (hbase : base ≤ w.heap.size) :
    ∃ v' w', (Builtin.append_ #[t, u] ty #[v, .string ⟨s.toArray⟩]).run P w = .ok v' w' ∧ OwnB w' base e v' (l ++ s) ∧ w.grownBy w' v.ownBlock := by
  obtain ⟨g, cap, cur, fr, rfl, hbg, hg, hfr, hnc, hcm, hcs, htake⟩ := hown
  have hsz : (⟨s.toArray⟩ : ByteArray).size = s.length := by simp [ByteArray.size]
  have hsc : Lib.strCells ⟨s.toArray⟩ = Lib.byteCells s := rfl
  have hbl : ∀ x : List UInt8, (Lib.byteCells x).length = x.length := Lib.byteCells_length
  by_cases hroom : l.length + s.length ≤ cap
  · have hf := Lib.run_firstCells_string (P := P) w 1 ⟨s.toArray⟩
    rw [hsz] at hf
    have hst : (storeCells ⟨g, l.length, none⟩ (Lib.strCells ⟨s.toArray⟩) 0).run P w = .ok () (w.setRow g (cur.toList.take l.length ++ Lib.strCells ⟨s.toArray⟩ ++ cur.toList.drop (l.length + s.length)).toArray) := by
      rcases hfr with rfl | hfr
      · have := run_storeCells_at P g l.length e (Lib.strCells ⟨s.toArray⟩) 0 cur w hg (by rw [hsc, hbl]; omega) (Lib.strCells_oneCell _)
        simpa [Nat.add_zero, hsc, hbl] using this
      · have := storeCells_mark (P := P) g l.length e fr (Lib.strCells ⟨s.toArray⟩) 0 cur w hg hfr (by rw [hsc, hbl]; omega) (Lib.strCells_oneCell _)
        simpa [Nat.add_zero, hsc, hbl] using this
    have hr : (Builtin.append_ #[t, u] ty #[.slice (some ⟨g, 0, none⟩) l.length cap, .string ⟨s.toArray⟩]).run P w =
        .ok (.slice (some ⟨g, 0, none⟩) (l.length + s.length) cap) (w.setRow g (cur.toList.take l.length ++ Lib.strCells ⟨s.toArray⟩ ++ cur.toList.drop (l.length + s.length)).toArray) := by
      simp [Builtin.append_, run_underlying ht, run_underlying hu, sizeOf, typeInfo, hi, hsize, Builtin.lenOf, hsz, hroom, hf, Addr.add_lit, hst]
    refine ⟨_, _, hr, ⟨g, cap, _, fr, by rw [List.length_append], hbg, setRow_heap w g cur _ e _ hg, ?_, by rw [List.length_append]; exact hroom, hcm, ?_, ?_⟩, ⟨rfl, rfl, rfl, by simp, fun k _ hk => setRow_other w g k _ (fun e => hk (by simp [Value.ownBlock, e]))⟩⟩
    · rcases hfr with h | h
      · exact .inl h
      · right
        simp [hsc, hbl]; omega
    · simp [hsc, hbl]; omega
    · have : (Lib.byteCells l ++ Lib.byteCells s).length = (l ++ s).length := by simp [hbl]
      rw [htake, hsc, ← this, List.take_left, Lib.byteCells_append]
  · have hcell : ∀ j u, (Lib.byteCells l)[j]? = some u → w.cell? ((⟨g, 0, none⟩ : Addr).add j) = some u := by
      intro j u hu
      have hj : j < l.length := by have := (List.getElem?_eq_some_iff.1 hu).1; rwa [hbl] at this
      rw [Go.WideShapes.add_plain, Nat.zero_add]
      rw [← htake, List.getElem?_take_of_lt hj] at hu
      simp [World.cell?, hg]
      simpa using hu
    have hr := Lib.run_append_grow_string (P := P) w t u ty e i (.int .u8 0) ht hu hi hz ⟨g, 0, none⟩ l.length cap (Lib.byteCells l) (by rw [hsize, hbl, Nat.mul_one]) hcell ⟨s.toArray⟩ (by rw [hsz]; omega) (by rw [hsz]; omega) (by rw [hby, hsz]; exact growslice_fits (by omega) (by omega))
    rw [hsz] at hr
    have hge := grownCap_ge w (l.length + s.length) cap e
    have hcm2 : grownCap w (l.length + s.length) cap e ≤ maxLen := grownCap_le_maxLen w (l.length + s.length) cap e (by unfold maxLen; omega)
    refine ⟨_, _, hr, ⟨w.heap.size, _, _, _, by rw [List.length_append], hbase, heap_alloc_new w.drew _, .inl rfl, by rw [List.length_append]; exact hge, hcm2, ?_, ?_⟩, ⟨rfl, rfl, rfl, by simp, fun k hk _ => Below.heap_alloc w.drew _ k hk⟩⟩
    · have hz1 : (Value.int IntKind.u8 0).cells.size = 1 := rfl
      simp only [Array.size_append, List.size_toArray, size_zeroCells, hz1, hsc, hbl]
      omega
    · have : (Lib.byteCells l ++ Lib.byteCells s).length = (l ++ s).length := by simp [hbl]
      simp only [Array.toList_append, hsc]
      rw [← this, Lib.byteCells_append]
      exact List.take_left
theorem wpList_append_ownB {ops : Array Oper} {rest : List Oper} {o : Oper} {a : Act} {Q : Exit → Act → World → Prop} (hgd : o.guard = none) (sl x : Operand) (t u : TypeId)
    (ho : o.op = .call { callee := .builtin .append, args := #[sl, x], argTypes := #[t, u] })
    (i : TypeInfo) (ht : P.underlying t = some (.slice e)) (hu : P.underlying u = some .string) (hi : P.info? e = some i) (hz : i.zero = some (.int .u8 0))
    (hsize : i.size = 1) (hby : i.bytes = 1) (hs : a.eval sl = v) (hown : OwnB w base e v l) (s : List UInt8) (hx : a.eval x = .string ⟨s.toArray⟩) (hbytes : l.length + s.length ≤ 140737488355328) (hbase : base ≤ w.heap.size)
    (h : ∀ v' w', OwnB w' base e v' (l ++ s) → w.grownBy w' v.ownBlock → wpList P ops Q rest (a.put o.dst v') w') : wpList P ops Q (o :: rest) a w := by
  refine wpList_plain hgd fun K hK => ?_
  obtain ⟨v', w', hr, h2, h3⟩ := run_append_ownB (P := P) t u o.type i ht hu hi hz hsize hby hown s hbytes hbase
  unfold Oper.wp execOp
  simp only [ho, resolve, invoke, builtin, Sem.run_bind, Sem.run_pure, Result.andThen_ok, List.map_toArray, List.map_cons, List.map_nil, hs, hx, hr]
  exact hK _ _ (h v' w' h2 h3)
end
end Go.Proofs.Ytmggnadhjgadnaa
