/-
  What Parse answers, plainly; and what lies in memory behind it.
-/
import Derived.Test.YtlonefjbcooaaaaDoorScL
import Derived.Test.YtlonefjbcooaaaaDoorGoL
namespace Go.Proofs.YtlonefjbcooaaaaDoor
open Go.RowKit
set_option maxRecDepth 100000
/-- What a text's parse is: numbers of the setup, moves, a line's number, an error's number. -/
def ResP (t : List UInt8) (ns : List Nat) (L : List (Nat × List Nat)) (k er : Nat) : Prop :=
  (200000 < t.length ∧ ns = [] ∧ L = [] ∧ k = 0 ∧ er = 5) ∨ (t.length ≤ 200000 ∧ ((parseO t = .inl k ∧ ns = [] ∧ L = [] ∧ er = 4) ∨ (parseO t = .inr (ns, L) ∧ k = 0 ∧ er = 0)))
theorem ResP.same {t : List UInt8} {ns ns' : List Nat} {L L' : List (Nat × List Nat)} {k k' er er' : Nat} (h : ResP t ns L k er) (h' : ResP t ns' L' k' er') : ns = ns' ∧ L = L' ∧ k = k' ∧ er = er' := by
  rcases h with ⟨h1, rfl, rfl, rfl, rfl⟩ | ⟨h1, ⟨e1, rfl, rfl, rfl⟩ | ⟨e1, rfl, rfl⟩⟩ <;> rcases h' with ⟨g1, rfl, rfl, rfl, rfl⟩ | ⟨g1, ⟨f1, rfl, rfl, rfl⟩ | ⟨f1, rfl, rfl⟩⟩ <;> first | omega | exact ⟨rfl, rfl, rfl, rfl⟩ | skip
  · rw [e1] at f1; cases f1; exact ⟨rfl, rfl, rfl, rfl⟩
  · rw [e1] at f1; cases f1
  · rw [e1] at f1; cases f1
  · rw [e1] at f1; cases f1; exact ⟨rfl, rfl, rfl, rfl⟩
/-- What Parse hands back. -/
def PQ (t : List UInt8) (w : World) (e : Ending) (w' : World) : Prop := ∃ ns L k er A c, e = .returned (.tuple #[.agg (setC ns).toArray, .slice A L.length c, .int .i64 (k : Nat), .int .i64 (er : Nat)]) ∧ OwnL w' w.heap.size 40 6 (.slice A L.length c) mvF L ∧ Below w.heap.size w w' ∧ ResP t ns L k er
theorem infoM : ∃ i z, Tryd.prog.info? 40 = some i ∧ i.zero = some z ∧ i.size = 6 ∧ i.bytes ≤ 140 ∧ z.cells.size = 6 ∧ 0 < 6 := by
  obtain ⟨i, h1, h2⟩ := Option.map_eq_some_iff.1 (show (Tryd.prog.info? 40).map (fun i => (i.zero, i.size, i.bytes)) = some (some (.agg mv0), 6, 40) by kernel_rfl)
  simp only [Prod.mk.injEq] at h2
  exact ⟨i, _, h1, h2.1, h2.2.1, by omega, rfl, by decide⟩
theorem appM : AppT 28 40 6 mvF := ⟨Tryd.underlying28, infoM, mvF_length, mvF_one⟩
theorem goL_bsN {α : Type} {T E : TypeId} {k : Nat} {f : α → List Value} (hT : AppT T E k f) (hk24 : k ≤ 1000) {W : World} {o : Oper} {a : Act} (y : Operand) (ho : o.op = .buildSlice T 1 #[(0, y)]) (C : Array Value) (hC : C.size = k) (hy : a.eval y = .agg C) :
    Oper.goes Tryd.prog o a W (fun v W' => v = .slice (some ⟨W.heap.size, 0, none⟩) 1 1 ∧ W' = W.alloc (.cells C E)) := by
  obtain ⟨ht, ⟨i, z, hi, hz, hk, hb, hzs, hk0⟩, -, -⟩ := hT
  refine goL_bs T E 1 _ ho C i z ht hi hz (by rw [hk]; omega) (by rw [hk]; omega) ?_
  rw [hk]
  simp only [List.map_toArray, List.map_cons, List.map_nil, hy]
  generalize hZ : Array.map _ (Array.range (1 * k)) = Z
  have hz : Z.size = k := by rw [← hZ]; simp
  clear hZ
  have hl : C.toList.length = k := by rw [Array.length_toList, hC]
  rw [fill_put _ _ 0 0 C.toList _ _ (by show C = C.toList.toArray; simp) (by simp [hl]) (by omega), Instr.fill, Option.some.injEq]
  apply Array.ext_getElem?
  intro j
  rw [putAt_get]
  by_cases hj : j < k
  · rw [if_pos (by omega)]; simp
  · rw [if_neg (by omega), Array.getElem?_eq_none (by omega), Array.getElem?_eq_none (by omega)]
/-- An operation that is told what it does. -/
theorem wpL_goes {P : Program} {ops : Array Oper} {rest : List Oper} {o : Oper} {a : Act} {w : World} {Q : Exit → Act → World → Prop} {T : Value → World → Prop} (hw : Region.wanted o (yielded ops a.tmps) = true)
    (h : Oper.goes P o a w T) (k : ∀ v w', T v w' → wpList P ops Q rest (a.put o.dst v) w') : wpList P ops Q (o :: rest) a w :=
  wpList_step fun K hK => by
    simp only [hw, if_true]
    unfold Oper.wp
    unfold Oper.goes at h
    generalize (execOp a.eval o).run P w = r at *
    cases r with
    | ok x w' =>
      cases x <;> simp only [Oper.goesUpon] at h
      case value u => exact hK _ _ (k _ _ h)
      case skip => exact hK _ _ (k _ _ h)
      case enter f args => exact h.mono fun e w'' ⟨v, he, hh⟩ => by subst he; exact hK _ _ (k _ _ hh)
    | halt x w' => simp only [Oper.goesUpon] at h
theorem rd_mv (w : World) (x : Nat × List Nat) {C : Array Value} (h : C = (mvF x).toArray) : Rd (w.alloc (.cells C 40)) (w.heap.size + 1) (some ⟨w.heap.size, 0, none⟩) ([x].flatMap mvF) := rd_one w 40 C x (by rw [h])
theorem PQ.fail {t : List UInt8} {w w' : World} {k : Nat} {e : Ending} (he : e = .returned (.tuple #[.agg (setC []).toArray, .slice none 0 0, .int .i64 (k : Nat), .int .i64 4])) (h1 : t.length ≤ 200000) (h : parseO t = .inl k) (hb : Below w.heap.size w w') : PQ t w e w' :=
  ⟨[], [], k, 4, none, 0, he, OwnL.nil, hb, .inr ⟨h1, .inl ⟨h, rfl, rfl, rfl⟩⟩⟩
theorem PQ.long {t : List UInt8} {w w' : World} {e : Ending} (he : e = .returned (.tuple #[.agg (setC []).toArray, .slice none 0 0, .int .i64 0, .int .i64 5])) (h1 : 200000 < t.length) (hb : Below w.heap.size w w') : PQ t w e w' :=
  ⟨[], [], 0, 5, none, 0, he, OwnL.nil, hb, .inl ⟨h1, rfl, rfl, rfl, rfl⟩⟩
theorem PQ.good {t : List UInt8} {w w' : World} {ns : List Nat} {L : List (Nat × List Nat)} {A : Option Addr} {n c : Nat} {e : Ending} (he : e = .returned (.tuple #[.agg (setC ns).toArray, .slice A n c, .int .i64 0, .int .i64 0])) (h1 : t.length ≤ 200000) (h : parseO t = .inr (ns, L)) (ho : OwnL w' w.heap.size 40 6 (.slice A n c) mvF L) (hb : Below w.heap.size w w') : PQ t w e w' := by
  obtain rfl := ho.len
  exact ⟨ns, L, 0, 0, A, c, he, ho, hb, .inr ⟨h1, .inr ⟨h, rfl, rfl⟩⟩⟩
theorem keptL_mem : ∀ (ps : List (List UInt8)) (n : Nat), ∀ e ∈ keptL ps n, e.1 ∈ ps ∧ e.1 ≠ []
  | [], _, e, h => by simp [keptL] at h
  | p :: r, n, e, h => by
    rw [keptL] at h
    rcases List.mem_append.1 h with h | h
    · split at h
      · simp at h
      · rename_i hc
        rw [List.mem_singleton.1 h]
        exact ⟨by simp, fun e => hc (.inl e)⟩
    · obtain ⟨h1, h2⟩ := keptL_mem r (n + 1) e h
      exact ⟨List.mem_cons_of_mem _ h1, h2⟩
/-- What a kept line's parse is, at the first line. -/
theorem parseK_none (m : Nat) : parseK m [] = .inl m := rfl
theorem parseK_bad {m : Nat} {e : List UInt8 × Nat × Bool} {r : List (List UInt8 × Nat × Bool)} (h : setO (cutL 32 e.1) = none ∨ e.2.2 = true) : parseK m (e :: r) = .inl e.2.1 := by
  rw [parseK]
  rcases h with h | h
  · rw [h]
  · rw [h]
    split
    · rename_i e1 e2; cases e2
    · rfl
theorem parseK_moves_bad {m n : Nat} {e : List UInt8 × Nat × Bool} {r : List (List UInt8 × Nat × Bool)} {ns : List Nat} (h : setO (cutL 32 e.1) = some ns) (h2 : e.2.2 = false) (h3 : movesO r = .inl n) : parseK m (e :: r) = .inl n := by
  rw [parseK, h, h2]; simp only; rw [h3]
theorem parseK_moves_ok {m : Nat} {e : List UInt8 × Nat × Bool} {r : List (List UInt8 × Nat × Bool)} {ns : List Nat} {L : List (Nat × List Nat)} (h : setO (cutL 32 e.1) = some ns) (h2 : e.2.2 = false) (h3 : movesO r = .inr L) : parseK m (e :: r) = .inr (ns, L) := by
  rw [parseK, h, h2]; simp only; rw [h3]
theorem movesO_len : ∀ (K : List (List UInt8 × Nat × Bool)) (L : List (Nat × List Nat)), movesO K = .inr L → L.length = K.length
  | [], L, h => by simp only [movesO, Sum.inr.injEq] at h; rw [← h]; rfl
  | e :: r, L, h => by
    simp only [movesO] at h
    split at h
    · split at h
      · cases h
      · rename_i l hl
        simp only [Sum.inr.injEq] at h
        rw [← h, List.length_cons, List.length_cons, movesO_len r l hl]
    · cases h
theorem OwnL.cap {α : Type} {w : World} {base : Nat} {E : TypeId} {m : Nat} {A : Option Addr} {n c : Nat} {f : α → List Value} {l : List α} (h : OwnL w base E m (.slice A n c) f l) : n ≤ c := by
  rcases h.2 with ⟨hv, h0⟩ | ⟨g, cap, cur, hv, -, -, hc, -⟩
  · simp only [Value.slice.injEq] at hv
    omega
  · simp only [Value.slice.injEq] at hv
    have := h.len
    omega
end Go.Proofs.YtlonefjbcooaaaaDoor
