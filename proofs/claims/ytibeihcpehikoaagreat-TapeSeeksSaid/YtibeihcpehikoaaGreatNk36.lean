/-
  The walks beneath: Bot3, PlayP, TrP, OpenInt.
-/
import Derived.DeepKeys
import Derived.Test.YtibeihcpehikoaaGreatNk35
namespace Go.Proofs.YtibeihcpehikoaaGreat
open Go.RowKit
set_option maxRecDepth 100000
section
def stT (inp : Nat → Nat × Nat) (S : Nat → Int) : Nat → Nat → Int
 | 0 => S
 | k + 1 => (stepS (inp k).1 (inp k).2 (stT inp S k)).1
def rdT (inp : Nat → Nat × Nat) (S : Nat → Int) (k : Nat) : (Nat → Int) × List Ev := stepS (inp k).1 (inp k).2 (stT inp S k)
def preT (inp : Nat → Nat × Nat) (S : Nat → Int) (k : Nat) : List ((Nat → Int) × List Ev) := (List.range k).map (rdT inp S)
theorem preT_succ (inp : Nat → Nat × Nat) (S : Nat → Int) (k : Nat) : preT inp S (k + 1) = preT inp S k ++ [rdT inp S k] := by
 unfold preT
 rw [List.range_succ, List.map_append]; rfl
theorem preT_length (inp : Nat → Nat × Nat) (S : Nat → Int) (k : Nat) : (preT inp S k).length = k := by unfold preT; simp
theorem stT_ok {inp : Nat → Nat × Nat} {S : Nat → Int} (h : StOk S) (h0 : S 0 = 0) (h2 : S 2 = 0) : ∀ k, k ≤ 100000 → StOk (stT inp S k) ∧ stT inp S k 0 = (k : Int) ∧ stT inp S k 2 ≤ (k : Int) ∧ 0 ≤ stT inp S k 2
 | 0, _ => ⟨h, h0, by show S 2 ≤ _; rw [h2]; decide, by show 0 ≤ S 2; rw [h2]; decide⟩
 | k + 1, hk => by
  obtain ⟨k1, k2, k3, k4⟩ := stT_ok (inp := inp) h h0 h2 k (by omega)
  obtain ⟨q1, q2, q3, q4, q5⟩ := stepS_ok (inp k).1 (inp k).2 k1 (by omega) (by omega)
  refine ⟨q1, ?_, ?_, ?_⟩
  ·show (stepS _ _ (stT inp S k)).1 0 = _
   rw [q3, k2]; omega
  ·show (stepS _ _ (stT inp S k)).1 2 ≤ _
   omega
  ·show 0 ≤ (stepS _ _ (stT inp S k)).1 2
   omega
theorem stT_same {inp inq : Nat → Nat × Nat} {S : Nat → Int} : ∀ k, (∀ j, j < k → inp j = inq j) → stT inp S k = stT inq S k
 | 0, _ => rfl
 | k + 1, h => by
  show (stepS _ _ _).1 = (stepS _ _ _).1
  rw [stT_same k (fun j hj => h j (by omega)), h k (by omega)]
theorem rdT_same {inp inq : Nat → Nat × Nat} {S : Nat → Int} (k : Nat) (h : ∀ j, j ≤ k → inp j = inq j) : rdT inp S k = rdT inq S k := by
 unfold rdT
 rw [stT_same k (fun j hj => h j (by omega)), h k (zL _)]
def inpT (d : Nat) (a b : List Nat) (f : Nat) : Nat × Nat := if f < d then (0, 0) else (a.getD (f - d) 0, b.getD (f - d) 0)
theorem inpT_cut {d : Nat} {a b : List Nat} {i k f : Nat} (h : f < d + min i k) : inpT d (a.take i) (b.take k) f = inpT d a b f := by
 unfold inpT
 split
 ·rfl
 ·rw [List.getD_eq_getElem?_getD, List.getD_eq_getElem?_getD, List.getD_eq_getElem?_getD, List.getD_eq_getElem?_getD, List.getElem?_take_of_lt (by omega), List.getElem?_take_of_lt (by omega)]
end
/-
  Values that are made of integers alone, held against each other: equal if and only if the integers are. No program is named here.
-/
section
def kindsOf (P : Program) : Nat → TypeId → Option (List IntKind)
 | 0, _ => none
 | m + 1, t => match P.underlying t with
  | some (.int k) => some [k]
  | some (.struct fs) => if P.stoodInHeld t = true then none else
    fs.toList.foldlM (fun acc f => if f.name ≠ "_" ∧ f.offset = acc.length then (kindsOf P m f.type).bind fun ks => if P.cellsOf f.type = ks.length then some (acc ++ ks) else none else none) []
  | some (.array n e) => (kindsOf P m e).bind fun ks => if P.cellsOf e = ks.length then some (List.replicate n ks).flatten else none
  | _ => none
def ivals (ks : List IntKind) (X : List Int) : List Value := List.zipWith Value.int ks X
end
section
open Go.RowKit Go.WideShapes Go.ChangeShapes
def wfAll (ks : List IntKind) (X : List Int) : Prop := ∀ (i : Nat) k x, ks[i]? = some k → X[i]? = some x → (Lit.int k x).wf = true
theorem wfAll.nil : wfAll [] [] := fun i k x h => by simp at h
theorem wfAll.app {ks ls : List IntKind} {X Y : List Int} (h : wfAll ks X) (k : wfAll ls Y) (hl : X.length = ks.length) : wfAll (ks ++ ls) (X ++ Y) := fun i a x h1 h2 => by
 rcases Nat.lt_or_ge i ks.length with hi | hi
 ·rw [List.getElem?_append_left hi] at h1
  rw [List.getElem?_append_left (by omega)] at h2
  exact h i a x h1 h2
 ·rw [List.getElem?_append_right hi] at h1
  rw [List.getElem?_append_right (by omega), hl] at h2
  exact k _ a x h1 h2
theorem ivals_app {ks ls : List IntKind} {X Y : List Int} (hl : X.length = ks.length) : ivals (ks ++ ls) (X ++ Y) = ivals ks X ++ ivals ls Y := by
 unfold ivals
 exact List.zipWith_append hl.symm
section
variable {H : Type} {enc : TypeId × Value → H} {P : Program} {w : World} {base : Nat} {spare : Nat → Bool} {held : Bool}
def ReadsI (H : Type) (enc : TypeId × Value → H) (P : Program) (w : World) (base : Nat) (spare : Nat → Bool) (held : Bool) (t : TypeId) (ks : List IntKind) : Prop :=
 ∀ fuel cs (y : DataW H × List MemPlace), DataW.trod enc P w base spare held fuel t cs = some y → ∃ X, cs = ivals ks X ∧ X.length = ks.length ∧ wfAll ks X
theorem fields_ints {m n : Nat} (IH : ∀ t ks, kindsOf P m t = some ks → P.cellsOf t = ks.length → ReadsI H enc P w base spare held t ks) (cs : List Value) : ∀ (fs : List Field) (acc ks : List IntKind),
  fs.foldlM (fun acc f => if f.name ≠ "_" ∧ f.offset = acc.length then (kindsOf P m f.type).bind fun ks => if P.cellsOf f.type = ks.length then some (acc ++ ks) else none else none) acc = some ks →
  (∀ f ∈ fs, ∃ z, DataW.trod enc P w base spare held n f.type ((cs.drop f.offset).take (P.cellsOf f.type)) = some z) → ∃ rest X, ks = acc ++ rest ∧ (cs.drop acc.length).take rest.length = ivals rest X ∧ X.length = rest.length ∧ wfAll rest X
 | [], acc, ks, h, _ => by
  simp only [List.foldlM_nil, pure, Option.some.injEq] at h
  exact ⟨[], [], by rw [← h]; simp, rfl, rfl, wfAll.nil⟩
 | f :: fs, acc, ks, h, hall => by
  simp only [List.foldlM_cons, bind, Option.bind_eq_some_iff] at h
  obtain ⟨acc', h1, h2⟩ := h
  by_cases hn : f.name ≠ "_" ∧ f.offset = acc.length
  ·rw [if_pos hn] at h1
   simp only [Option.bind_eq_some_iff] at h1
   obtain ⟨kf, h3, h4⟩ := h1
   by_cases hc : P.cellsOf f.type = kf.length
   ·rw [if_pos hc] at h4
    simp only [Option.some.injEq] at h4
    subst h4
    obtain ⟨z, hz⟩ := hall f (by simp)
    obtain ⟨Xf, e1, e2, e3⟩ := IH f.type kf h3 hc n _ z hz
    obtain ⟨rest, X, hr, hx, hl, hw⟩ := fields_ints IH cs fs _ ks h2 (fun g hg => hall g (by simp [hg]))
    refine ⟨kf ++ rest, Xf ++ X, by rw [hr, List.append_assoc], ?_, by simp; omega, e3.app hw e2⟩
    rw [ivals_app e2, ← e1, ← hx, hn.2, hc, zG, zG, ← List.drop_drop, List.take_add]
   ·rw [if_neg hc] at h4; cases h4
  ·rw [if_neg hn] at h1; cases h1
theorem items_ints {e : TypeId} {ks : List IntKind} {n : Nat} (IH : ReadsI H enc P w base spare held e ks) (hc : P.cellsOf e = ks.length) (cs : List Value) : ∀ (k : Nat),
  (∀ i, i < k → ∃ z, DataW.trod enc P w base spare held n e ((cs.drop (i * P.cellsOf e)).take (P.cellsOf e)) = some z) → ∃ X, cs.take (k * ks.length) = ivals (List.replicate k ks).flatten X ∧ X.length = k * ks.length ∧ wfAll (List.replicate k ks).flatten X
 | 0, _ => ⟨[], by simp [ivals], by simp, wfAll.nil⟩
 | k + 1, h => by
  obtain ⟨X, h1, h2, h3⟩ := items_ints IH hc cs k (fun i hi => h i (by omega))
  obtain ⟨z, hz⟩ := h k (by omega)
  obtain ⟨Y, e1, e2, e3⟩ := IH n _ z hz
  rw [List.replicate_succ', List.flatten_append]
  have hl : X.length = ((List.replicate k ks).flatten).length := by rw [h2]; simp
  refine ⟨X ++ Y, ?_, by rw [zG, h2, e2, Nat.add_mul]; omega, ?_⟩
  ·rw [Nat.add_mul, Nat.one_mul, List.take_add, h1, ← hc, e1]
   simp only [List.flatten_cons, List.flatten_nil, List.append_nil]
   rw [ivals_app hl]
  ·simp only [List.flatten_cons, List.flatten_nil, List.append_nil]
   exact h3.app e3 hl
theorem trod_ints : ∀ (m : Nat) (t : TypeId) (ks : List IntKind), kindsOf P m t = some ks → P.cellsOf t = ks.length → ReadsI H enc P w base spare held t ks
 | 0, _, _, h, _ => by simp [kindsOf] at h
 | m + 1, t, ks, h, hct => by
  unfold kindsOf at h
  intro fuel cs y hy
  cases hu : P.underlying t with
  | none => simp [hu] at h
  | some kd =>
   cases kd
   case int k =>
    simp only [hu, Option.some.injEq] at h
    subst h
    obtain ⟨a, rfl, -, hw⟩ := DataW.trod_int hu hy
    refine ⟨[a], rfl, rfl, fun i k' x h1 h2 => ?_⟩
    match i with
    | 0 =>
     simp only [zB, Option.some.injEq] at h1 h2
     subst h1 h2; exact hw
    | i + 1 => simp at h1
   case array n e =>
    simp only [hu, Option.bind_eq_some_iff] at h
    obtain ⟨ke, h1, h2⟩ := h
    by_cases hc : P.cellsOf e = ke.length
    ·rw [if_pos hc] at h2
     simp only [Option.some.injEq] at h2
     subst h2
     obtain ⟨xs, q, -, -, hlen, hxl, hg⟩ := DataW.trod_array hu hy
     obtain ⟨X, e1, e2, e3⟩ := items_ints (n := q) (trod_ints m e ke h1 hc) hc cs n (fun i hi => by
      have := hg i hi
      exact ⟨xs[i]'(by omega), by rw [this, List.getElem?_eq_getElem (by omega)]⟩)
     have hf : cs.length = n * ke.length := by rw [hlen, hct]; simp
     rw [← hf, List.take_length] at e1
     exact ⟨X, e1, by rw [e2]; simp, e3⟩
    ·rw [if_neg hc] at h2; cases h2
   case struct fs =>
    simp only [hu] at h
    by_cases hs : P.stoodInHeld t = true
    ·rw [if_pos hs] at h; cases h
    ·rw [if_neg hs] at h
     obtain ⟨xs, q, -, -, hlen, hxl, hg⟩ := DataW.trod_struct hu hy
     obtain ⟨rest, X, e0, e1, e2, e3⟩ := fields_ints (n := q) (trod_ints m) cs fs.toList [] ks h (fun f hf => by
      obtain ⟨i, hi, rfl⟩ := List.mem_iff_getElem.1 hf
      have hi' : i < fs.size := by simpa using hi
      have := hg i fs[i] (by simp [hi'])
      rw [List.getElem?_eq_getElem (by omega)] at this
      exact ⟨_, by simpa using this⟩)
     rw [List.nil_append] at e0
     subst e0
     have : (cs.drop 0).take ks.length = cs := by rw [List.drop_zero, ← hct, ← hlen, List.take_length]
     exact ⟨X, by rw [← e1]; exact this.symm, e2, e3⟩
   all_goals (simp [hu] at h; done)
end
end
end Go.Proofs.YtibeihcpehikoaaGreat
