/-
  Ranging over a map that is told as a list of pairs; the laws at the operations. No program is named here.
-/
import Derived.Test.YteccmklacgpodaaMapL
namespace Go.Proofs.Yteccmklacgpodaa
open Go.RowKit Go.WideShapes
open Go.Maps (Keyed)
open Go.WideElems (Fit rg rd_key rd_mk rg_of)
section
variable {κ ν : Type} {ke : κ → Value} {ve : ν → Value}
/-- 'range m' under way: just the entries 'left' are still to come. -/
def MapGo (ke : κ → Value) (ve : ν → Value) (P : Program) (k : TypeId) (w : World) (b r : Nat) (L left : List (κ × ν)) : Prop :=
  ∃ es clock since seen c0, w.heap[b]? = some (.map es clock) ∧ Fit P k tokR es clock ∧ (L.map (fun p => ke p.1)).Nodup ∧ (∀ x y, (∃ e ∈ es.toList, e.key = x ∧ e.val = y) ↔ ∃ p ∈ L, ke p.1 = x ∧ ve p.2 = y) ∧
    w.heap[r]? = some (.mapIter (some b) since seen c0) ∧ (∀ x ∈ es.toList, x.born < since) ∧ since ≤ c0 ∧ since ≤ clock ∧
    ((leftOf es seen).toList.map fun e => (e.key, e.val)).Perm (left.map fun p => (ke p.1, ve p.2))
variable {P : Program} {k : TypeId} {w : World} {b r : Nat} {L left : List (κ × ν)}
theorem MapGo.isMap (h : MapGo ke ve P k w b r L left) : MapIs ke ve P k w b L := by
  obtain ⟨es, clock, _, _, _, hb, F, hn, hm, _⟩ := h
  exact ⟨es, clock, hb, F, hn, hm⟩
theorem MapGo.lt (h : MapGo ke ve P k w b r L left) : r < w.heap.size := by
  obtain ⟨_, _, _, _, _, _, _, _, _, hr, _⟩ := h
  exact (Array.getElem?_eq_some_iff.1 hr).1
theorem MapGo.same (h : MapGo ke ve P k w b r L left) {w' : World} (e : w'.heap[b]? = w.heap[b]?) (e' : w'.heap[r]? = w.heap[r]?) : MapGo ke ve P k w' b r L left := by
  obtain ⟨es, clock, s, q, c, hb, F, hn, hm, hr, rest⟩ := h
  exact ⟨es, clock, s, q, c, e.trans hb, F, hn, hm, e'.trans hr, rest⟩
theorem MapIs.range {t e : TypeId} (h : MapIs ke ve P k w b L) (ht : P.underlying t = some (.map k e)) :
    ∃ w', (Instr.range t (.map (some b))).run P w = .ok (.pointer (some ⟨w.heap.size, 0, none⟩)) w' ∧ MapGo ke ve P k w' b w.heap.size L L ∧ w.grownBy w' none ∧ w'.heap.size = w.heap.size + 1 := by
  have hlt := h.lt
  obtain ⟨es, clock, hb, F, hn, hm⟩ := h
  refine ⟨_, run_range_map w t k e b es clock ht hb, ⟨es, clock, clock, #[], clock, ((MapKept.heap_alloc w _).2 b hlt).trans hb, F, hn, hm, (MapKept.heap_alloc w _).1, F.stamped.1, Nat.le_refl _, Nat.le_refl _, ?_⟩, World.grownBy_alloc w _ none, by simp⟩
  have : leftOf es #[] = es := by simp [leftOf]
  rw [this]
  exact entries_perm F hn hm
theorem left_perm {es : Array MapEntry} {seen : Array Nat} {e : MapEntry} (hn : (es.toList.map (·.born)).Nodup) (he : e ∈ (leftOf es seen).toList) : (leftOf es seen).toList.Perm (e :: (leftOf es (seen.push e.born)).toList) := by
  have hnd : es.toList.Nodup := by
    unfold List.Nodup at hn ⊢
    rw [List.pairwise_map] at hn
    exact hn.imp (fun h e => h (congrArg _ e))
  have e1 : ∀ s : Array Nat, (leftOf es s).toList = es.toList.filter (fun e => !s.contains e.born) := fun s => by
    unfold leftOf
    rw [← Array.toList_filter]
  obtain ⟨hem, hes⟩ := mem_left he
  refine (List.perm_ext_iff_of_nodup ?_ ?_).2 fun x => ?_
  · rw [e1]; exact hnd.filter _
  · rw [e1]
    refine List.nodup_cons.2 ⟨fun h => ?_, hnd.filter _⟩
    have := (List.mem_filter.1 h).2
    rw [contains_push] at this
    simp at this
  · rw [e1, e1, List.mem_cons, List.mem_filter, List.mem_filter, contains_push]
    constructor
    · rintro ⟨h1, h2⟩
      by_cases hb : x.born = e.born
      · exact Or.inl (born_inj hn h1 hem hb)
      · refine Or.inr ⟨h1, ?_⟩
        simp at h2 ⊢
        exact ⟨h2, hb⟩
    · rintro (rfl | ⟨h1, h2⟩)
      · exact ⟨hem, by rw [hes]; rfl⟩
      · refine ⟨h1, ?_⟩
        simp at h2 ⊢
        exact h2.1
/-- THE STEP. -/
theorem MapGo.next (h : MapGo ke ve P k w b r L left) (ty : TypeId) :
    (left = [] ∧ (Instr.next (.pointer (some ⟨r, 0, none⟩)) false ty).run P w = .ok (.tuple #[.bool false]) w) ∨
    ∃ p left' w', left.Perm (p :: left') ∧ (Instr.next (.pointer (some ⟨r, 0, none⟩)) false ty).run P w = .ok (.tuple #[.bool true, ke p.1, ve p.2]) w' ∧
      MapGo ke ve P k w' b r L left' ∧ w.grownBy w' (some r) ∧ w'.heap.size = w.heap.size ∧ (Instr.entry (.pointer (some ⟨r, 0, none⟩))).run P w' = .ok (.tuple #[ke p.1, ve p.2]) w' := by
  have hne : r ≠ b := by
    obtain ⟨_, _, _, _, _, hb, _, _, _, hr, _⟩ := h
    intro e
    rw [e, hb] at hr
    cases hr
  obtain ⟨es, clock, since, seen, c0, hb, F, hn, hm, hr, hold, hsc, hsk, hp⟩ := h
  rcases run_next_at (P := P) w ty r b since c0 seen es clock hr hb hold hsc with ⟨h0, hrun⟩ | ⟨e, he, w1, hal, hrun⟩
  · refine Or.inl ⟨?_, hrun⟩
    have := hp.length_eq
    simp [h0] at this
    exact List.length_eq_zero_iff.1 this.symm
  · have hst := (MapKept.stamped_iff es clock).1 F.stamped
    obtain ⟨hem, hes⟩ := mem_left he
    obtain ⟨p, hpl, hpe⟩ := List.mem_map.1 (hp.mem_iff.1 (List.mem_map.2 ⟨e, he, rfl⟩))
    obtain ⟨s, t, rfl⟩ := List.append_of_mem hpl
    have e1 : ke p.1 = e.key := congrArg Prod.fst hpe
    have e2 : ve p.2 = e.val := congrArg Prod.snd hpe
    have hr1 : w1.heap[r]? = some (.mapIter (some b) since seen c0) := by rcases hal with rfl | rfl <;> exact hr
    have hb1 : w1.heap[b]? = some (.map es clock) := by rcases hal with rfl | rfl <;> exact hb
    have hset := MapKept.heap_set (o' := .mapIter (some b) since (seen.push e.born) clock) hr1
    have hb' : (ChangeMaps.setBlock w1 r (.mapIter (some b) since (seen.push e.born) clock)).heap[b]? = some (.map es clock) := (hset.2 b (fun e1 => hne e1.symm)).trans hb1
    refine Or.inr ⟨p, s ++ t, _, List.perm_middle, by rw [e1, e2]; exact hrun, ⟨es, clock, since, seen.push e.born, clock, hb', F, hn, hm, hset.1, hold, hsk, hsk, ?_⟩, ?_, ?_, ?_⟩
    · have q1 := (left_perm hst.2.1 he).map (fun e => (e.key, e.val))
      have q2 := (q1.symm.trans hp).trans ((List.perm_middle (a := p) (l₁ := s) (l₂ := t)).map _)
      rw [List.map_cons, List.map_cons, e1, e2] at q2
      exact q2.cons_inv
    · rcases hal with rfl | rfl <;> exact ⟨rfl, rfl, rfl, by simp [ChangeMaps.setBlock], fun i _ hi => hset.2 i (fun e1 => hi (by rw [e1]))⟩
    · rcases hal with rfl | rfl <;> simp [ChangeMaps.setBlock]
    · rw [e1, e2]
      exact run_entry_at _ r b since seen es clock e hset.1 hb' hem hst.2.1
end
/-! ### At the operation. -/
section
variable {κ ν : Type} {ke : κ → Value} {ve : ν → Value} {P : Program} (w : World) {ops : Array Oper} {rest : List Oper} {o : Oper} {a : Act} {Q : Exit → Act → World → Prop}
theorem wpList_lookM (hg : o.guard = none) (m x : Operand) (t : TypeId) (hop : o.op = Op.lookup t m x true) (k e : TypeId) (K : Keyed P k) (ht : P.underlying t = some (.map k e)) {z : Value} (hz : (zeroValue e).run P w = .ok z w) (b : Nat) (L : List (κ × ν))
    (hm : a.eval m = .map (some b)) (h : MapIs ke ve P k w b L) (key : κ) (kl : Lit) (hx : a.eval x = ke key) (hkey : keyOf P k (ke key) = some kl)
    (hNo : (∀ p ∈ L, ke p.1 ≠ ke key) → wpList P ops Q rest (a.put o.dst (.tuple #[z, .bool false])) w)
    (hYes : ∀ p, p ∈ L → ke p.1 = ke key → wpList P ops Q rest (a.put o.dst (.tuple #[ve p.2, .bool true])) w) : wpList P ops Q (o :: rest) a w := by
  refine wpList_plain hg fun K' hK' => ?_
  unfold Oper.wp
  rcases h.look true K ht hz hkey with ⟨h1, hrun⟩ | ⟨p, h1, h2, hrun⟩
  · simp [execOp, hop, hm, hx, hrun, Result.andThen]
    exact hK' _ _ (hNo h1)
  · simp [execOp, hop, hm, hx, hrun, Result.andThen]
    exact hK' _ _ (hYes p h1 h2)
theorem wpList_lookM1 (hg : o.guard = none) (m x : Operand) (t : TypeId) (hop : o.op = Op.lookup t m x false) (k e : TypeId) (K : Keyed P k) (ht : P.underlying t = some (.map k e)) {z : Value} (hz : (zeroValue e).run P w = .ok z w) (b : Nat) (L : List (κ × ν))
    (hm : a.eval m = .map (some b)) (h : MapIs ke ve P k w b L) (key : κ) (kl : Lit) (hx : a.eval x = ke key) (hkey : keyOf P k (ke key) = some kl)
    (hNo : (∀ p ∈ L, ke p.1 ≠ ke key) → wpList P ops Q rest (a.put o.dst z) w)
    (hYes : ∀ p, p ∈ L → ke p.1 = ke key → wpList P ops Q rest (a.put o.dst (ve p.2)) w) : wpList P ops Q (o :: rest) a w := by
  refine wpList_plain hg fun K' hK' => ?_
  unfold Oper.wp
  rcases h.look false K ht hz hkey with ⟨h1, hrun⟩ | ⟨p, h1, h2, hrun⟩
  · simp [execOp, hop, hm, hx, hrun, Result.andThen]
    exact hK' _ _ (hNo h1)
  · simp [execOp, hop, hm, hx, hrun, Result.andThen]
    exact hK' _ _ (hYes p h1 h2)
theorem wpList_storeM (hg : o.guard = none) (m x v : Operand) (t : TypeId) (hop : o.op = Op.mapUpdate t m x v) (k e : TypeId) (K : Keyed P k) (ht : P.underlying t = some (.map k e)) (b : Nat) (L L' : List (κ × ν))
    (hm : a.eval m = .map (some b)) (h : MapIs ke ve P k w b L) (hL : L.length < maxLen) (key : κ) (val : ν) (kl : Lit) (hx : a.eval x = ke key) (hv : a.eval v = ve val) (hkey : keyOf P k (ke key) = some kl)
    (hL1 : ∀ p ∈ L', p = (key, val) ∨ (p ∈ L ∧ ke p.1 ≠ ke key)) (hL2 : ∀ p ∈ L, ke p.1 ≠ ke key → p ∈ L') (hL3 : (key, val) ∈ L') (hL4 : (L'.map (fun p => ke p.1)).Nodup)
    (hK : ∀ w', MapIs ke ve P k w' b L' → w.mapTurned w' b → wpList P ops Q rest (a.put o.dst undef) w') : wpList P ops Q (o :: rest) a w := by
  refine wpList_plain hg fun K' hK' => ?_
  obtain ⟨w', hrun, r1, r2⟩ := h.store K ht hL hkey hL1 hL2 hL3 hL4
  unfold Oper.wp
  simp [execOp, hop, hm, hx, hv, hrun, Result.andThen]
  exact hK' _ _ (hK w' r1 r2)
theorem wpList_dropM (hg : o.guard = none) (m x : Operand) (t k : TypeId) (hop : o.op = Op.call { callee := Callee.builtin Builtin.delete, args := #[m, x], argTypes := #[t, k] }) (e : TypeId) (K : Keyed P k) (ht : P.underlying t = some (.map k e)) (b : Nat) (L L' : List (κ × ν))
    (hm : a.eval m = .map (some b)) (h : MapIs ke ve P k w b L) (key : κ) (kl : Lit) (hx : a.eval x = ke key) (hkey : keyOf P k (ke key) = some kl)
    (hL1 : ∀ p, p ∈ L' ↔ (p ∈ L ∧ ke p.1 ≠ ke key)) (hL4 : (L'.map (fun p => ke p.1)).Nodup)
    (hK : ∀ w', MapIs ke ve P k w' b L' → w.mapTurned w' b → wpList P ops Q rest (a.put o.dst (.tuple #[])) w') : wpList P ops Q (o :: rest) a w := by
  refine wpList_plain hg fun K' hK' => ?_
  obtain ⟨w', hrun, r1, r2⟩ := h.drop K ht hkey o.type hL1 hL4
  unfold Oper.wp
  simp [execOp, hop, resolve, invoke, builtin, hm, hx, hrun, Result.andThen]
  exact hK' _ _ (hK w' r1 r2)
theorem wpList_lenM (hg : o.guard = none) (m : Operand) (t : TypeId) (hop : o.op = Op.call { callee := Callee.builtin Builtin.len, args := #[m], argTypes := #[t] }) (k e : TypeId) (ht : P.underlying t = some (.map k e)) (b : Nat) (L : List (κ × ν))
    (hm : a.eval m = .map (some b)) (h : MapIs ke ve P k w b L) (hK : wpList P ops Q rest (a.put o.dst (.int .i64 L.length)) w) : wpList P ops Q (o :: rest) a w := by
  refine wpList_plain hg fun K' hK' => ?_
  unfold Oper.wp
  simp [execOp, hop, resolve, invoke, builtin, hm, h.len ht o.type, Result.andThen]
  exact hK' _ _ hK
theorem wpList_clearM (hg : o.guard = none) (m : Operand) (t : TypeId) (hop : o.op = Op.call { callee := Callee.builtin Builtin.clear, args := #[m], argTypes := #[t] }) (k e : TypeId) (ht : P.underlying t = some (.map k e)) (b : Nat) (L : List (κ × ν))
    (hm : a.eval m = .map (some b)) (h : MapIs ke ve P k w b L) (hK : ∀ w', MapIs ke ve P k w' b [] → w.mapTurned w' b → wpList P ops Q rest (a.put o.dst (.tuple #[])) w') : wpList P ops Q (o :: rest) a w := by
  refine wpList_plain hg fun K' hK' => ?_
  obtain ⟨w', hrun, r1, r2⟩ := h.clear ht o.type
  unfold Oper.wp
  simp [execOp, hop, resolve, invoke, builtin, hm, hrun, Result.andThen]
  exact hK' _ _ (hK w' r1 r2)
theorem wpList_rangeM (hg : o.guard = none) (m : Operand) (t : TypeId) (hop : o.op = Op.range t m) (k e : TypeId) (ht : P.underlying t = some (.map k e)) (b : Nat) (L : List (κ × ν)) (hm : a.eval m = .map (some b)) (h : MapIs ke ve P k w b L)
    (hK : ∀ w', MapGo ke ve P k w' b w.heap.size L L → w.grownBy w' none → w'.heap.size = w.heap.size + 1 → wpList P ops Q rest (a.put o.dst (.pointer (some ⟨w.heap.size, 0, none⟩))) w') : wpList P ops Q (o :: rest) a w := by
  refine wpList_plain hg fun K' hK' => ?_
  obtain ⟨w', hrun, r1, r2, r3⟩ := h.range ht
  unfold Oper.wp
  simp [execOp, hop, hm, hrun, Result.andThen]
  exact hK' _ _ (hK w' r1 r2 r3)
theorem wpList_nextM (hg : o.guard = none) (it : Operand) (hop : o.op = Op.next it false) (k : TypeId) (b r : Nat) (L left : List (κ × ν)) (hit : a.eval it = .pointer (some ⟨r, 0, none⟩)) (h : MapGo ke ve P k w b r L left)
    (hDone : left = [] → wpList P ops Q rest (a.put o.dst (.tuple #[.bool false])) w)
    (hMore : ∀ (p : κ × ν) (left' : List (κ × ν)) (w' : World), left.Perm (p :: left') → MapGo ke ve P k w' b r L left' → w.grownBy w' (some r) → w'.heap.size = w.heap.size →
      (Instr.entry (.pointer (some ⟨r, 0, none⟩))).run P w' = .ok (.tuple #[ke p.1, ve p.2]) w' → wpList P ops Q rest (a.put o.dst (.tuple #[.bool true, ke p.1, ve p.2])) w') : wpList P ops Q (o :: rest) a w := by
  refine wpList_plain hg fun K' hK' => ?_
  unfold Oper.wp
  rcases h.next o.type with ⟨h0, hrun⟩ | ⟨p, left', w', h1, hrun, h2, h3, h4, h5⟩
  · simp [execOp, hop, hit, hrun, Result.andThen]
    exact hK' _ _ (hDone h0)
  · simp [execOp, hop, hit, hrun, Result.andThen]
    exact hK' _ _ (hMore p left' w' h1 h2 h3 h4 h5)
end
end Go.Proofs.Yteccmklacgpodaa
