/-
  A value that is made of integers alone, as it reads. No program is named here.
-/
import Derived.DeepKeys
import Derived.WalkKit
import Derived.OpenShut
/-
  Values that are made of integers alone, held against each other: equal if and only if the integers are. No program is named here.
-/
namespace Go.Proofs.YtlonefjbcooaaaaDoor
open Go.RowKit

/-- The kinds of a type's cells, if they all are integers. -/
def kindsOf (P : Program) : Nat → TypeId → Option (List IntKind)
  | 0, _ => none
  | m + 1, t => match P.underlying t with
    | some (.int k) => some [k]
    | some (.struct fs) => if P.stoodInHeld t = true then none else
        fs.toList.foldlM (fun acc f => if f.name ≠ "_" ∧ f.offset = acc.length then (kindsOf P m f.type).bind fun ks => if P.cellsOf f.type = ks.length then some (acc ++ ks) else none else none) []
    | some (.array n e) => (kindsOf P m e).bind fun ks => if P.cellsOf e = ks.length then some (List.replicate n ks).flatten else none
    | _ => none
def ivals (ks : List IntKind) (X : List Int) : List Value := List.zipWith Value.int ks X
def valOf (P : Program) (t : TypeId) (cs : List Value) : Value := match P.underlying t with
  | some (.int _) => cs.headD undef
  | _ => .agg cs.toArray
theorem ivals_length {ks : List IntKind} {X : List Int} (h : X.length = ks.length) : (ivals ks X).length = ks.length := by unfold ivals; rw [List.length_zipWith]; omega
theorem ivals_mid {a b c : List IntKind} {X : List Int} : ((ivals (a ++ b ++ c) X).drop a.length).take b.length = ivals b ((X.drop a.length).take b.length) := by
  unfold ivals
  rw [List.drop_zipWith, List.take_zipWith, List.append_assoc, List.drop_left, List.take_left]
section
variable {P : Program}
theorem part_ints {t : TypeId} {ks : List IntKind} {m : Nat} (h : kindsOf P m t = some ks) (hc : P.cellsOf t = ks.length) (cs : List Value) (off : Nat) (hl : off + ks.length ≤ cs.length) (w : World) :
    (part t cs.toArray off).run P w = .ok (valOf P t ((cs.drop off).take ks.length)) w := by
  cases m with
  | zero => simp [kindsOf] at h
  | succ m =>
    unfold kindsOf at h
    cases hu : P.underlying t with
    | none => simp [hu] at h
    | some kd =>
      obtain ⟨i, hi⟩ := info_of_underlying hu
      cases kd
      case int k =>
        simp only [hu, Option.some.injEq] at h
        subst h
        have hoff : off < cs.length := by simp at hl; omega
        have h1 : (part t cs.toArray off).run P w = .ok cs[off] w := by
          simp [part, isAgg, run_underlying hu, hoff]
        rw [h1]
        unfold valOf
        rw [hu]
        simp only [List.length_singleton]
        rw [List.drop_eq_getElem_cons hoff]
        rfl
      case array n e =>
        have h1 : (part t cs.toArray off).run P w = .ok (.agg (cs.toArray.extract off (off + P.cellsOf t))) w := by
          simp [part, isAgg, run_underlying hu, run_sizeOf w hi]
        rw [h1]
        unfold valOf
        rw [hu, hc]
        simp [List.extract]
      case struct fs =>
        have h1 : (part t cs.toArray off).run P w = .ok (.agg (cs.toArray.extract off (off + P.cellsOf t))) w := by
          simp [part, isAgg, run_underlying hu, run_sizeOf w hi]
        rw [h1]
        unfold valOf
        rw [hu, hc]
        simp [List.extract]
      all_goals (simp [hu] at h; done)
/-- Held against each other at a depth. -/
def EqI (P : Program) (d : Nat) (t : TypeId) (ks : List IntKind) : Prop := ∀ (X Y : List Int), X.length = ks.length → Y.length = ks.length → ∀ w : World,
  (Op.equalIn d t (valOf P t (ivals ks X)) (valOf P t (ivals ks Y))).run P w = .ok (decide (X = Y)) w
theorem decide_split (a b : List Int) (n : Nat) : decide (a = b) = (decide (a.take n = b.take n) && decide (a.drop n = b.drop n)) := by
  rw [Bool.eq_iff_iff]
  simp only [decide_eq_true_eq, Bool.and_eq_true]
  constructor
  · rintro rfl; exact ⟨rfl, rfl⟩
  · rintro ⟨h1, h2⟩
    rw [← List.take_append_drop n a, ← List.take_append_drop n b, h1, h2]
theorem eqFields_ints {d m : Nat} (IH : ∀ t ks, kindsOf P m t = some ks → EqI P d t ks) : ∀ (fs : List Field) (acc ks : List IntKind),
    fs.foldlM (fun acc f => if f.name ≠ "_" ∧ f.offset = acc.length then (kindsOf P m f.type).bind fun ks => if P.cellsOf f.type = ks.length then some (acc ++ ks) else none else none) acc = some ks →
    (∃ rest, ks = acc ++ rest) ∧ ∀ (X Y : List Int), X.length = ks.length → Y.length = ks.length → ∀ w : World, (Op.eqFields d (ivals ks X).toArray (ivals ks Y).toArray fs).run P w = .ok (decide (X.drop acc.length = Y.drop acc.length)) w
  | [], acc, ks, h => by
    simp only [List.foldlM_nil, pure, Option.some.injEq] at h
    subst h
    refine ⟨⟨[], by simp⟩, fun X Y hX hY w => ?_⟩
    rw [List.drop_of_length_le (by omega), List.drop_of_length_le (by omega)]
    simp [Op.eqFields]
  | f :: fs, acc, ks, h => by
    simp only [List.foldlM_cons, bind, Option.bind_eq_some_iff] at h
    obtain ⟨acc', h1, h2⟩ := h
    by_cases hn : f.name ≠ "_" ∧ f.offset = acc.length
    · rw [if_pos hn] at h1
      simp only [Option.bind_eq_some_iff] at h1
      obtain ⟨kf, h3, h4⟩ := h1
      by_cases hc : P.cellsOf f.type = kf.length
      · rw [if_pos hc] at h4
        simp only [Option.some.injEq] at h4
        subst h4
        obtain ⟨⟨rest, hr⟩, hrun⟩ := eqFields_ints IH fs _ ks h2
        refine ⟨⟨kf ++ rest, by rw [hr, List.append_assoc]⟩, fun X Y hX hY w => ?_⟩
        have hlen : ks.length = acc.length + kf.length + rest.length := by rw [hr]; simp only [List.length_append]
        have pX : (part f.type (ivals ks X).toArray f.offset).run P w = .ok (valOf P f.type (ivals kf ((X.drop acc.length).take kf.length))) w := by
          rw [part_ints h3 hc _ _ (by rw [ivals_length hX, hn.2]; omega), hn.2, hr, ivals_mid]
        have pY : (part f.type (ivals ks Y).toArray f.offset).run P w = .ok (valOf P f.type (ivals kf ((Y.drop acc.length).take kf.length))) w := by
          rw [part_ints h3 hc _ _ (by rw [ivals_length hY, hn.2]; omega), hn.2, hr, ivals_mid]
        have hE := IH f.type kf h3 ((X.drop acc.length).take kf.length) ((Y.drop acc.length).take kf.length) (by simp; omega) (by simp; omega) w
        have hS := decide_split (X.drop acc.length) (Y.drop acc.length) kf.length
        have hR := hrun X Y hX hY w
        rw [List.length_append, ← List.drop_drop, ← List.drop_drop] at hR
        simp only [Op.eqFields, hn.1, ne_eq, not_false_eq_true, if_true, Sem.run_bind, pX, pY, hE, Result.andThen_ok]
        rw [hS]
        cases decide (((X.drop acc.length).take kf.length) = ((Y.drop acc.length).take kf.length))
        · simp
        · simpa using hR
      · rw [if_neg hc] at h4; cases h4
    · rw [if_neg hn] at h1; cases h1
theorem eqItems_ints {d : Nat} {e : TypeId} {ks : List IntKind} {m : Nat} (hk : kindsOf P m e = some ks) (hc : P.cellsOf e = ks.length) (IH : EqI P d e ks) (n : Nat) (X Y : List Int) (hX : X.length = n * ks.length) (hY : Y.length = n * ks.length) (w : World) :
    ∀ (j i : Nat), i + j = n → (Op.eqItems d e (P.cellsOf e) (ivals (List.replicate n ks).flatten X).toArray (ivals (List.replicate n ks).flatten Y).toArray (List.range' i j)).run P w = .ok (decide (X.drop (i * ks.length) = Y.drop (i * ks.length))) w
  | 0, i, h => by
    obtain rfl : i = n := by omega
    rw [List.drop_of_length_le (by omega), List.drop_of_length_le (by omega)]
    simp [Op.eqItems, List.range']
  | j + 1, i, h => by
    have hr := eqItems_ints hk hc IH n X Y hX hY w j (i + 1) (by omega)
    have hlen : (List.replicate n ks).flatten.length = n * ks.length := by simp
    have hsplit : (List.replicate n ks).flatten = (List.replicate i ks).flatten ++ ks ++ (List.replicate j ks).flatten := by
      obtain rfl : n = i + (1 + j) := by omega
      rw [← List.replicate_append_replicate, List.flatten_append, ← List.replicate_append_replicate, List.flatten_append]
      simp
    have hil : (List.replicate i ks).flatten.length = i * ks.length := by simp
    have hin : i * ks.length + ks.length ≤ n * ks.length := by
      have := Nat.mul_le_mul_right ks.length (show i + 1 ≤ n by omega)
      rw [Nat.add_mul, Nat.one_mul] at this
      exact this
    have pp : ∀ Z : List Int, Z.length = n * ks.length → (part e (ivals (List.replicate n ks).flatten Z).toArray (i * P.cellsOf e)).run P w = .ok (valOf P e (ivals ks ((Z.drop (i * ks.length)).take ks.length))) w := fun Z hZ => by
      rw [part_ints hk hc _ _ (by rw [ivals_length (by rw [hlen]; exact hZ), hlen, hc]; exact hin), hc]
      have := ivals_mid (a := (List.replicate i ks).flatten) (b := ks) (c := (List.replicate j ks).flatten) (X := Z)
      rw [hil, ← hsplit] at this
      rw [this]
    have hE := IH ((X.drop (i * ks.length)).take ks.length) ((Y.drop (i * ks.length)).take ks.length) (by simp; omega) (by simp; omega) w
    have hS := decide_split (X.drop (i * ks.length)) (Y.drop (i * ks.length)) ks.length
    rw [Nat.add_mul, Nat.one_mul, ← List.drop_drop, ← List.drop_drop] at hr
    simp only [List.range'_succ, Op.eqItems, Sem.run_bind, pp X hX, pp Y hY, hE, Result.andThen_ok]
    rw [hS]
    cases decide (((X.drop (i * ks.length)).take ks.length) = ((Y.drop (i * ks.length)).take ks.length))
    · simp
    · simpa using hr
theorem equalIn_ints (d : Nat) : ∀ (m : Nat) (t : TypeId) (ks : List IntKind), kindsOf P m t = some ks → EqI P (d + m) t ks
  | 0, _, _, h => by simp [kindsOf] at h
  | m + 1, t, ks, h => by
    have h0 := h
    unfold kindsOf at h
    cases hu : P.underlying t with
    | none => simp [hu] at h
    | some kd =>
      cases kd
      case int k =>
        simp only [hu, Option.some.injEq] at h
        subst h
        intro X Y hX hY w
        match X, hX, Y, hY with
        | [x], _, [y], _ =>
          have : (Op.equalIn (d + m + 1) t (.int k x) (.int k y)).run P w = .ok (x == y) w := run_equalIn_int w (d + m) t k k x y hu
          unfold valOf
          simp only [hu, ivals, List.zipWith_cons_cons, List.zipWith_nil_left, List.headD_cons]
          rw [show d + (m + 1) = d + m + 1 from rfl, this]
          congr 1
          rw [Bool.eq_iff_iff]; simp
      case array n e =>
        simp only [hu, Option.bind_eq_some_iff] at h
        obtain ⟨ke, h1, h2⟩ := h
        by_cases hc : P.cellsOf e = ke.length
        · rw [if_pos hc] at h2
          simp only [Option.some.injEq] at h2
          subst h2
          intro X Y hX hY w
          have hpe : ∃ i, P.info? e = some i := by
            cases m with
            | zero => simp [kindsOf] at h1
            | succ m' =>
              unfold kindsOf at h1
              cases hue : P.underlying e with
              | none => simp [hue] at h1
              | some _ => exact info_of_underlying hue
          obtain ⟨i, hi⟩ := hpe
          have hlen : (List.replicate n ke).flatten.length = n * ke.length := by simp
          have hv : ∀ Z, valOf P t (ivals (List.replicate n ke).flatten Z) = .agg (ivals (List.replicate n ke).flatten Z).toArray := fun Z => by unfold valOf; rw [hu]
          rw [hv, hv, show d + (m + 1) = (d + m) + 1 from rfl, run_equalIn_array w (d + m) _ _ hu hi, List.range_eq_range']
          have := eqItems_ints h1 hc (equalIn_ints d m e ke h1) n X Y (by rw [hX, hlen]) (by rw [hY, hlen]) w n 0 (by omega)
          simpa using this
        · rw [if_neg hc] at h2; cases h2
      case struct fs =>
        simp only [hu] at h
        by_cases hs : P.stoodInHeld t = true
        · rw [if_pos hs] at h; cases h
        · rw [if_neg hs] at h
          have hs' : P.stoodInHeld t = false := by simpa using hs
          obtain ⟨-, hrun⟩ := eqFields_ints (equalIn_ints d m) fs.toList [] ks h
          intro X Y hX hY w
          have hfs : P.fieldsOf t = fs := by simp [Program.fieldsOf, hu]
          have hv : ∀ Z, valOf P t (ivals ks Z) = .agg (ivals ks Z).toArray := fun Z => by unfold valOf; rw [hu]
          rw [hv, hv, show d + (m + 1) = (d + m) + 1 from rfl, run_equalIn_struct w (d + m) t _ _ (by rw [hfs]; exact hu) hs', hfs]
          simpa using hrun X Y hX hY w
      all_goals (simp [hu] at h; done)
/-- Structs and arrays of integers, held against each other. -/
theorem eql_ints {t : TypeId} {ks : List IntKind} (h : kindsOf P 100 t = some ks) (hg : ∀ cs, valOf P t cs = .agg cs.toArray) {xs ys : List Value} (X Y : List Int) (hX : X.length = ks.length) (hY : Y.length = ks.length) (ex : xs = ivals ks X) (ey : ys = ivals ks Y) (w : World) :
    (binOp .eql t (.agg xs.toArray) (.agg ys.toArray)).run P w = .ok (.bool (decide (X = Y))) w := by
  subst ex ey
  have := equalIn_ints (P := P) 9900 100 t ks h X Y hX hY w
  rw [hg, hg] at this
  rw [run_eql_struct]
  rw [this]
  rfl
theorem neq_ints {t : TypeId} {ks : List IntKind} (h : kindsOf P 100 t = some ks) (hg : ∀ cs, valOf P t cs = .agg cs.toArray) {xs ys : List Value} (X Y : List Int) (hX : X.length = ks.length) (hY : Y.length = ks.length) (ex : xs = ivals ks X) (ey : ys = ivals ks Y) (w : World) :
    (binOp .neq t (.agg xs.toArray) (.agg ys.toArray)).run P w = .ok (.bool (!decide (X = Y))) w := by
  subst ex ey
  have := equalIn_ints (P := P) 9900 100 t ks h X Y hX hY w
  rw [hg, hg] at this
  rw [run_neq_struct]
  rw [this]
  rfl
end
end Go.Proofs.YtlonefjbcooaaaaDoor

namespace Go.Proofs.YtlonefjbcooaaaaDoor
open Go.RowKit Go.WideShapes Go.ChangeShapes
def wfAll (ks : List IntKind) (X : List Int) : Prop := ∀ (i : Nat) k x, ks[i]? = some k → X[i]? = some x → (Lit.int k x).wf = true
theorem wfAll.nil : wfAll [] [] := fun i k x h => by simp at h
theorem wfAll.app {ks ls : List IntKind} {X Y : List Int} (h : wfAll ks X) (k : wfAll ls Y) (hl : X.length = ks.length) : wfAll (ks ++ ls) (X ++ Y) := fun i a x h1 h2 => by
  rcases Nat.lt_or_ge i ks.length with hi | hi
  · rw [List.getElem?_append_left hi] at h1
    rw [List.getElem?_append_left (by omega)] at h2
    exact h i a x h1 h2
  · rw [List.getElem?_append_right hi] at h1
    rw [List.getElem?_append_right (by omega), hl] at h2
    exact k _ a x h1 h2
theorem ivals_app {ks ls : List IntKind} {X Y : List Int} (hl : X.length = ks.length) : ivals (ks ++ ls) (X ++ Y) = ivals ks X ++ ivals ls Y := by
  unfold ivals
  exact List.zipWith_append hl.symm
section
variable {H : Type} {enc : TypeId × Value → H} {P : Program} {w : World} {base : Nat} {spare : Nat → Bool} {held : Bool}
/-- What reads at a type of integers is integers. -/
def ReadsI (H : Type) (enc : TypeId × Value → H) (P : Program) (w : World) (base : Nat) (spare : Nat → Bool) (held : Bool) (t : TypeId) (ks : List IntKind) : Prop :=
  ∀ fuel cs (y : DataW H × List MemPlace), DataW.trod enc P w base spare held fuel t cs = some y → ∃ X, cs = ivals ks X ∧ X.length = ks.length ∧ wfAll ks X
theorem fields_ints {m n : Nat} (IH : ∀ t ks, kindsOf P m t = some ks → P.cellsOf t = ks.length → ReadsI H enc P w base spare held t ks) (cs : List Value) : ∀ (fs : List Field) (acc ks : List IntKind),
    fs.foldlM (fun acc f => if f.name ≠ "_" ∧ f.offset = acc.length then (kindsOf P m f.type).bind fun ks => if P.cellsOf f.type = ks.length then some (acc ++ ks) else none else none) acc = some ks →
    (∀ f ∈ fs, ∃ z, DataW.trod enc P w base spare held n f.type ((cs.drop f.offset).take (P.cellsOf f.type)) = some z) → ∃ rest X, ks = acc ++ rest ∧ (cs.drop acc.length).take rest.length = ivals rest X ∧ X.length = rest.length ∧ wfAll rest X
  | [], acc, ks, h, _ => by
    simp only [List.foldlM_nil, pure, Option.some.injEq] at h
    exact ⟨[], [], by rw [← h]; simp, rfl, rfl, wfAll.nil⟩
  | f :: fs, acc, ks, h, hall => by
    simp only [List.foldlM_cons, bind, Option.bind_eq_some_iff] at h
    obtain ⟨acc', h1, h2⟩ := h
    by_cases hn : f.name ≠ "_" ∧ f.offset = acc.length
    · rw [if_pos hn] at h1
      simp only [Option.bind_eq_some_iff] at h1
      obtain ⟨kf, h3, h4⟩ := h1
      by_cases hc : P.cellsOf f.type = kf.length
      · rw [if_pos hc] at h4
        simp only [Option.some.injEq] at h4
        subst h4
        obtain ⟨z, hz⟩ := hall f (by simp)
        obtain ⟨Xf, e1, e2, e3⟩ := IH f.type kf h3 hc n _ z hz
        obtain ⟨rest, X, hr, hx, hl, hw⟩ := fields_ints IH cs fs _ ks h2 (fun g hg => hall g (by simp [hg]))
        refine ⟨kf ++ rest, Xf ++ X, by rw [hr, List.append_assoc], ?_, by simp; omega, e3.app hw e2⟩
        rw [ivals_app e2, ← e1, ← hx, hn.2, hc, List.length_append, List.length_append, ← List.drop_drop, List.take_add]
      · rw [if_neg hc] at h4; cases h4
    · rw [if_neg hn] at h1; cases h1
theorem items_ints {e : TypeId} {ks : List IntKind} {n : Nat} (IH : ReadsI H enc P w base spare held e ks) (hc : P.cellsOf e = ks.length) (cs : List Value) : ∀ (k : Nat),
    (∀ i, i < k → ∃ z, DataW.trod enc P w base spare held n e ((cs.drop (i * P.cellsOf e)).take (P.cellsOf e)) = some z) → ∃ X, cs.take (k * ks.length) = ivals (List.replicate k ks).flatten X ∧ X.length = k * ks.length ∧ wfAll (List.replicate k ks).flatten X
  | 0, _ => ⟨[], by simp [ivals], by simp, wfAll.nil⟩
  | k + 1, h => by
    obtain ⟨X, h1, h2, h3⟩ := items_ints IH hc cs k (fun i hi => h i (by omega))
    obtain ⟨z, hz⟩ := h k (by omega)
    obtain ⟨Y, e1, e2, e3⟩ := IH n _ z hz
    rw [List.replicate_succ', List.flatten_append]
    have hl : X.length = ((List.replicate k ks).flatten).length := by rw [h2]; simp
    refine ⟨X ++ Y, ?_, by rw [List.length_append, h2, e2, Nat.add_mul]; omega, ?_⟩
    · rw [Nat.add_mul, Nat.one_mul, List.take_add, h1, ← hc, e1]
      simp only [List.flatten_cons, List.flatten_nil, List.append_nil]
      rw [ivals_app hl]
    · simp only [List.flatten_cons, List.flatten_nil, List.append_nil]
      exact h3.app e3 hl
theorem trod_ints : ∀ (m : Nat) (t : TypeId) (ks : List IntKind), kindsOf P m t = some ks → P.cellsOf t = ks.length → ReadsI H enc P w base spare held t ks
  | 0, _, _, h, _ => by simp [kindsOf] at h
  | m + 1, t, ks, h, hct => by
    unfold kindsOf at h
    intro fuel cs y hy
    cases hu : P.underlying t with
    | none => simp [hu] at h
    | some kd =>
      cases kd
      case int k =>
        simp only [hu, Option.some.injEq] at h
        subst h
        obtain ⟨a, rfl, -, hw⟩ := DataW.trod_int hu hy
        refine ⟨[a], rfl, rfl, fun i k' x h1 h2 => ?_⟩
        match i with
        | 0 =>
          simp only [List.getElem?_cons_zero, Option.some.injEq] at h1 h2
          subst h1 h2; exact hw
        | i + 1 => simp at h1
      case array n e =>
        simp only [hu, Option.bind_eq_some_iff] at h
        obtain ⟨ke, h1, h2⟩ := h
        by_cases hc : P.cellsOf e = ke.length
        · rw [if_pos hc] at h2
          simp only [Option.some.injEq] at h2
          subst h2
          obtain ⟨xs, q, -, -, hlen, hxl, hg⟩ := DataW.trod_array hu hy
          obtain ⟨X, e1, e2, e3⟩ := items_ints (n := q) (trod_ints m e ke h1 hc) hc cs n (fun i hi => by
            have := hg i hi
            exact ⟨xs[i]'(by omega), by rw [this, List.getElem?_eq_getElem (by omega)]⟩)
          have hf : cs.length = n * ke.length := by rw [hlen, hct]; simp
          rw [← hf, List.take_length] at e1
          exact ⟨X, e1, by rw [e2]; simp, e3⟩
        · rw [if_neg hc] at h2; cases h2
      case struct fs =>
        simp only [hu] at h
        by_cases hs : P.stoodInHeld t = true
        · rw [if_pos hs] at h; cases h
        · rw [if_neg hs] at h
          obtain ⟨xs, q, -, -, hlen, hxl, hg⟩ := DataW.trod_struct hu hy
          obtain ⟨rest, X, e0, e1, e2, e3⟩ := fields_ints (n := q) (trod_ints m) cs fs.toList [] ks h (fun f hf => by
            obtain ⟨i, hi, rfl⟩ := List.mem_iff_getElem.1 hf
            have hi' : i < fs.size := by simpa using hi
            have := hg i fs[i] (by simp [hi'])
            rw [List.getElem?_eq_getElem (by omega)] at this
            exact ⟨_, by simpa using this⟩)
          rw [List.nil_append] at e0
          subst e0
          have : (cs.drop 0).take ks.length = cs := by rw [List.drop_zero, ← hct, ← hlen, List.take_length]
          exact ⟨X, by rw [← e1]; exact this.symm, e2, e3⟩
      all_goals (simp [hu] at h; done)
end
end Go.Proofs.YtlonefjbcooaaaaDoor
