/-
  A map with keys and elements of any kind, told as a list of pairs; the laws at the operations. No program is named here.
-/
import Derived.Maps.RangeWalk
namespace Go.Proofs.Yteccmklacgpodaa
open Go.RowKit Go.WideShapes
open Go.Maps (Keyed)
open Go.WideElems (Fit rg rd_key rd_mk rg_of)

/-- Every value reads as itself. -/
def tokR (v : Value) : Option (DataW Value × List MemPlace) := some (.held v, [])

section
variable {κ ν : Type} {ke : κ → Value} {ve : ν → Value}

/-- Block b holds a map with just the entries L. -/
def MapIs (ke : κ → Value) (ve : ν → Value) (P : Program) (k : TypeId) (w : World) (b : Nat) (L : List (κ × ν)) : Prop :=
  ∃ es clock, w.heap[b]? = some (.map es clock) ∧ Fit P k tokR es clock ∧ (L.map (fun p => ke p.1)).Nodup ∧ ∀ x y, (∃ e ∈ es.toList, e.key = x ∧ e.val = y) ↔ ∃ p ∈ L, ke p.1 = x ∧ ve p.2 = y

variable {P : Program} {k : TypeId} {w : World} {b : Nat} {L : List (κ × ν)}

theorem MapIs.made (w : World) : MapIs ke ve P k (w.alloc (.map #[] 0)) w.heap.size [] :=
  ⟨#[], 0, (MapKept.heap_alloc w _).1, ⟨by simp, MapKept.stamped_empty 0, by simp⟩, by simp, by simp⟩
theorem MapIs.lt (h : MapIs ke ve P k w b L) : b < w.heap.size := by
  obtain ⟨es, clock, hb, _⟩ := h
  exact (Array.getElem?_eq_some_iff.1 hb).1
theorem MapIs.perm (h : MapIs ke ve P k w b L) {L' : List (κ × ν)} (hp : L.Perm L') : MapIs ke ve P k w b L' := by
  obtain ⟨es, clock, hb, F, hn, hm⟩ := h
  refine ⟨es, clock, hb, F, (hp.map _).nodup_iff.1 hn, fun x y => (hm x y).trans ?_⟩
  constructor
  · rintro ⟨p, h1, h2⟩; exact ⟨p, hp.mem_iff.1 h1, h2⟩
  · rintro ⟨p, h1, h2⟩; exact ⟨p, hp.mem_iff.2 h1, h2⟩
theorem MapIs.same (h : MapIs ke ve P k w b L) {w' : World} (e : w'.heap[b]? = w.heap[b]?) : MapIs ke ve P k w' b L := by
  obtain ⟨es, clock, hb, r⟩ := h
  exact ⟨es, clock, e.trans hb, r⟩
theorem MapIs.nodup (h : MapIs ke ve P k w b L) : (L.map (fun p => ke p.1)).Nodup := by
  obtain ⟨_, _, _, _, hn, _⟩ := h
  exact hn
theorem keysPair {es : Array MapEntry} {clock : Nat} (F : Fit P k tokR es clock) : es.toList.Pairwise (fun x y => x.key ≠ y.key) := ((MapKept.stamped_iff es clock).1 F.stamped).2.2
theorem pairs_nodup {es : Array MapEntry} {clock : Nat} (F : Fit P k tokR es clock) : (es.toList.map fun e => (e.key, e.val)).Nodup := by
  unfold List.Nodup
  rw [List.pairwise_map]
  exact (keysPair F).imp (fun h e => h (congrArg Prod.fst e))
theorem encs_nodup {L : List (κ × ν)} (hn : (L.map (fun p => ke p.1)).Nodup) : (L.map fun p => (ke p.1, ve p.2)).Nodup := by
  unfold List.Nodup at hn ⊢
  rw [List.pairwise_map] at hn ⊢
  exact hn.imp (fun h e => h (congrArg Prod.fst e))
theorem entries_perm {es : Array MapEntry} {clock : Nat} (F : Fit P k tokR es clock) (hn : (L.map (fun p => ke p.1)).Nodup) (hm : ∀ x y, (∃ e ∈ es.toList, e.key = x ∧ e.val = y) ↔ ∃ p ∈ L, ke p.1 = x ∧ ve p.2 = y) :
    (es.toList.map fun e => (e.key, e.val)).Perm (L.map fun p => (ke p.1, ve p.2)) := by
  refine (List.perm_ext_iff_of_nodup (pairs_nodup F) (encs_nodup hn)).2 fun q => ?_
  rw [List.mem_map, List.mem_map]
  have := hm q.1 q.2
  constructor
  · rintro ⟨e, h1, rfl⟩
    obtain ⟨p, h2, h3, h4⟩ := this.1 ⟨e, h1, rfl, rfl⟩
    exact ⟨p, h2, Prod.ext h3 h4⟩
  · rintro ⟨p, h1, rfl⟩
    obtain ⟨e, h2, h3, h4⟩ := this.2 ⟨p, h1, rfl, rfl⟩
    exact ⟨e, h2, Prod.ext h3 h4⟩
theorem MapIs.size (h : MapIs ke ve P k w b L) : ∃ es clock, w.heap[b]? = some (.map es clock) ∧ es.size = L.length := by
  obtain ⟨es, clock, hb, F, hn, hm⟩ := h
  have := (entries_perm F hn hm).length_eq
  simp at this
  exact ⟨es, clock, hb, this⟩
/-- Every key of the list is a key. -/
theorem MapIs.keyed (h : MapIs ke ve P k w b L) {p : κ × ν} (hp : p ∈ L) : ∃ l, keyOf P k (ke p.1) = some l := by
  obtain ⟨es, clock, _, F, _, hm⟩ := h
  obtain ⟨e, he, e1, _⟩ := (hm _ _).2 ⟨p, hp, rfl, rfl⟩
  obtain ⟨y, hy⟩ := F.reads e he
  exact ⟨_, e1 ▸ rd_key hy⟩

/-- 'm[k]', and with the comma. -/
theorem MapIs.look {t e : TypeId} (h : MapIs ke ve P k w b L) (c : Bool) (K : Keyed P k) (ht : P.underlying t = some (.map k e)) {z : Value} (hz : (zeroValue e).run P w = .ok z w) {a : κ} {kl : Lit} (hkey : keyOf P k (ke a) = some kl) :
    ((∀ p ∈ L, ke p.1 ≠ ke a) ∧ (Instr.lookup t (.map (some b)) (ke a) c).run P w = .ok (if c then .tuple #[z, .bool false] else z) w) ∨
    ∃ p ∈ L, ke p.1 = ke a ∧ (Instr.lookup t (.map (some b)) (ke a) c).run P w = .ok (if c then .tuple #[ve p.2, .bool true] else ve p.2) w := by
  obtain ⟨es, clock, hb, F, hn, hm⟩ := h
  rcases Maps.fit_look c K ht hz hb F hkey with ⟨h1, h2, _⟩ | ⟨e0, y, h1, h2, h3, _⟩
  · refine Or.inl ⟨fun p hp e => ?_, h1⟩
    obtain ⟨x, hx, e1, _⟩ := (hm _ _).2 ⟨p, hp, rfl, rfl⟩
    exact h2 x hx (e1.trans e)
  · obtain ⟨p, hp, e1, e2⟩ := (hm _ _).1 ⟨e0, h1, rfl, rfl⟩
    exact Or.inr ⟨p, hp, e1.trans h2, by rw [e2]; exact h3⟩

/-- 'm[k] = v'. L': the entries afterwards. -/
theorem MapIs.store {t e : TypeId} (h : MapIs ke ve P k w b L) (K : Keyed P k) (ht : P.underlying t = some (.map k e)) (hL : L.length < maxLen) {a : κ} {v : ν} {kl : Lit} (hkey : keyOf P k (ke a) = some kl)
    {L' : List (κ × ν)} (hL1 : ∀ p ∈ L', p = (a, v) ∨ (p ∈ L ∧ ke p.1 ≠ ke a)) (hL2 : ∀ p ∈ L, ke p.1 ≠ ke a → p ∈ L') (hL3 : (a, v) ∈ L') (hL4 : (L'.map (fun p => ke p.1)).Nodup) :
    ∃ w', (Instr.mapUpdate t (.map (some b)) (ke a) (ve v)).run P w = .ok () w' ∧ MapIs ke ve P k w' b L' ∧ w.mapTurned w' b := by
  obtain ⟨es, clock, hb, F, hn, hm⟩ := h
  have hsz : es.size = L.length := by
    have := (entries_perm F hn hm).length_eq
    simpa using this
  obtain ⟨es', clock', hrun, F', hput, _, _, hwho⟩ := Maps.fit_store (R' := tokR) K ht hb F (by omega) (val := ve v) (fun _ _ _ _ hz => hz) hkey rfl
  refine ⟨_, hrun, ⟨es', clock', ChangeMaps.heap_setBlock_same hb _, F', hL4, fun x y => ?_⟩, ⟨es, clock, es', clock', hb, rfl⟩⟩
  -- what stands in the new block
  have back : ∀ (kx : Value) (lx : Lit) (vx : Value), keyOf P k kx = some lx → (lx, DataW.held vx) ∈ (es'.toList.map (rg P k tokR)).foldr DataW.insert [] → ∃ x ∈ es'.toList, x.key = kx ∧ x.val = vx := fun kx lx vx hk hmem => by
    obtain ⟨x, hx, ex⟩ := List.mem_map.1 (mem_sorted.1 hmem)
    obtain ⟨y, hy⟩ := F'.reads x hx
    have m1 := rd_key hy
    obtain ⟨z, hz, hz2⟩ := Go.WideElems.rd_val hy
    rw [rg_of hy] at ex
    refine ⟨x, hx, ?_, ?_⟩
    · rw [ex] at m1
      exact K.inj m1 hk
    · rw [ex] at hz2
      have hz' : some (DataW.held x.val, ([] : List MemPlace)) = some z := hz
      cases hz'
      cases hz2
      rfl
  constructor
  · rintro ⟨x', hx', rfl, rfl⟩
    rcases hwho x' hx' with ⟨h1, h2⟩ | ⟨h1, h2⟩
    · obtain ⟨p, hp, e1, e2⟩ := (hm _ _).1 ⟨x', h1, rfl, rfl⟩
      exact ⟨p, hL2 p hp (by rw [e1]; exact h2), e1, e2⟩
    · exact ⟨(a, v), hL3, h1.symm, h2.symm⟩
  · rintro ⟨p, hp, rfl, rfl⟩
    rcases hL1 p hp with rfl | ⟨h1, h2⟩
    · refine back _ _ _ hkey ?_
      rw [hput]
      unfold ChangeMaps.putKey
      exact ChangeMaps.mem_insert_iff.2 (Or.inl rfl)
    · obtain ⟨x, hx, e1, e2⟩ := (hm _ _).2 ⟨p, h1, rfl, rfl⟩
      obtain ⟨y, hy⟩ := F.reads x hx
      have m1 := rd_key hy
      refine back _ y.1 _ (by rw [← e1]; exact m1) ?_
      rw [hput]
      unfold ChangeMaps.putKey
      refine ChangeMaps.mem_insert_iff.2 (Or.inr (List.mem_filter.2 ⟨mem_sorted.2 (List.mem_map.2 ⟨x, hx, ?_⟩), ?_⟩))
      · obtain ⟨z, hz, hz2⟩ := Go.WideElems.rd_val hy
        rw [rg_of hy]
        have hz' : some (DataW.held x.val, ([] : List MemPlace)) = some z := hz
        cases hz'
        rw [← e2]
        exact Prod.ext rfl hz2
      · refine (Maps.notKey_iff (K.key hkey)).2 fun e => h2 ?_
        have e' : y.1 = kl := e
        rw [e'] at m1
        rw [← e1]
        exact K.inj m1 hkey

/-- 'delete(m, k)'. -/
theorem MapIs.drop {t e : TypeId} (h : MapIs ke ve P k w b L) (K : Keyed P k) (ht : P.underlying t = some (.map k e)) {a : κ} {kl : Lit} (hkey : keyOf P k (ke a) = some kl) (ty : TypeId)
    {L' : List (κ × ν)} (hL1 : ∀ p, p ∈ L' ↔ (p ∈ L ∧ ke p.1 ≠ ke a)) (hL4 : (L'.map (fun p => ke p.1)).Nodup) :
    ∃ w', (Builtin.delete_ #[t, k] ty #[.map (some b), ke a]).run P w = .ok (.tuple #[]) w' ∧ MapIs ke ve P k w' b L' ∧ w.mapTurned w' b := by
  obtain ⟨es, clock, hb, F, hn, hm⟩ := h
  obtain ⟨es', hrun, F', _, _, _, hwho⟩ := fit_drop_who (ty := ty) K ht hb F hkey
  refine ⟨_, hrun, ⟨es', clock, ChangeMaps.heap_setBlock_same hb _, F', hL4, fun x y => ?_⟩, ⟨es, clock, es', clock, hb, rfl⟩⟩
  constructor
  · rintro ⟨x', hx', rfl, rfl⟩
    obtain ⟨h1, h2⟩ := (hwho x').1 hx'
    obtain ⟨p, hp, e1, e2⟩ := (hm _ _).1 ⟨x', h1, rfl, rfl⟩
    exact ⟨p, (hL1 p).2 ⟨hp, by rw [e1]; exact h2⟩, e1, e2⟩
  · rintro ⟨p, hp, rfl, rfl⟩
    obtain ⟨h1, h2⟩ := (hL1 p).1 hp
    obtain ⟨x, hx, e1, e2⟩ := (hm _ _).2 ⟨p, h1, rfl, rfl⟩
    exact ⟨x, (hwho x).2 ⟨hx, by rw [e1]; exact h2⟩, e1, e2⟩

/-- 'len(m)'. -/
theorem MapIs.len {t e : TypeId} (h : MapIs ke ve P k w b L) (ht : P.underlying t = some (.map k e)) (ty : TypeId) : (Builtin.len_ #[t] ty #[.map (some b)]).run P w = .ok (.int .i64 L.length) w := by
  obtain ⟨es, clock, hb, hs⟩ := h.size
  rw [← hs]
  simp [Builtin.len_, run_underlying ht, MapKept.run_getObj_map hb, goInt, Result.andThen]

/-- 'clear(m)'. -/
theorem MapIs.clear {t e : TypeId} (h : MapIs ke ve P k w b L) (ht : P.underlying t = some (.map k e)) (ty : TypeId) :
    ∃ w', (Builtin.clear_ #[t] ty #[.map (some b)]).run P w = .ok (.tuple #[]) w' ∧ MapIs ke ve P k w' b [] ∧ w.mapTurned w' b := by
  obtain ⟨es, clock, hb, _⟩ := h
  refine ⟨ChangeMaps.setBlock w b (.map #[] clock), ?_, ⟨#[], clock, ChangeMaps.heap_setBlock_same hb _, ⟨by simp, MapKept.stamped_empty clock, by simp⟩, by simp, by simp⟩, ⟨es, clock, #[], clock, hb, rfl⟩⟩
  simp [Builtin.clear_, run_underlying ht, MapKept.run_getObj_map hb, MapKept.run_setObj_map _ hb, Result.andThen, ChangeMaps.setBlock]
end
end Go.Proofs.Yteccmklacgpodaa
