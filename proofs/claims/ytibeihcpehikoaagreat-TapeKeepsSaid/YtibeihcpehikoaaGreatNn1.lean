/-
  The walks beneath: StrP, MixY, TapI.
-/
import Derived.Test.YtibeihcpehikoaaGreatNl7
namespace Go.Proofs.YtibeihcpehikoaaGreat
open Go.RowKit
set_option maxRecDepth 100000
set_option maxHeartbeats 8000000
set_option linter.unusedSimpArgs false
section
def headN (x : Nat) : List Nat → Nat
 | [] => 0
 | y :: l => if y = x then headN x l + 1 else 0
theorem headN_le (x : Nat) : ∀ l, headN x l ≤ l.length
 | [] => zL _
 | y :: l => by
  have := headN_le x l
  unfold headN
  rw [zH]
  split <;> omega
theorem headN_hit {x : Nat} {l : List Nat} {j : Nat} (h : j < l.length) (hx : l[j] = x) : headN x (l.drop j) = headN x (l.drop (j + 1)) + 1 := by
 rw [List.drop_eq_getElem_cons h, headN, if_pos hx]
theorem headN_miss {x : Nat} {l : List Nat} {j : Nat} (h : j < l.length) (hx : l[j] ≠ x) : headN x (l.drop j) = 0 := by
 rw [List.drop_eq_getElem_cons h, headN, if_neg hx]
theorem headN_end {x : Nat} {l : List Nat} {j : Nat} (h : l.length ≤ j) : headN x (l.drop j) = 0 := by
 rw [List.drop_of_length_le h]; rfl
def runsF : Nat → List Nat → List (Nat × Nat)
 | 0, _ => []
 | _ + 1, [] => []
 | f + 1, x :: r => (x, headN x r + 1) :: runsF f (r.drop (headN x r))
theorem runsF_fuel : ∀ (f g : Nat) (l : List Nat), l.length ≤ f → l.length ≤ g → runsF f l = runsF g l
 | 0, 0, _, _, _ => rfl
 | 0, _ + 1, l, h, _ => by
  have : l = [] := List.eq_nil_of_length_eq_zero (by omega)
  subst this; rfl
 | _ + 1, 0, l, _, h => by
  have : l = [] := List.eq_nil_of_length_eq_zero (by omega)
  subst this; rfl
 | f + 1, g + 1, [], _, _ => rfl
 | f + 1, g + 1, x :: r, h1, h2 => by
  rw [zH] at h1 h2
  show (x, headN x r + 1) :: runsF f (r.drop (headN x r)) = (x, headN x r + 1) :: runsF g (r.drop (headN x r))
  rw [runsF_fuel f g (r.drop (headN x r)) (by rw [List.length_drop]; omega) (by rw [List.length_drop]; omega)]
def runsL (l : List Nat) : List (Nat × Nat) := runsF l.length l
theorem runsL_nil : runsL [] = [] := rfl
theorem runsL_cons (x : Nat) (r : List Nat) : runsL (x :: r) = (x, headN x r + 1) :: runsL (r.drop (headN x r)) := by
 unfold runsL
 rw [zH, runsF, runsF_fuel r.length (r.drop (headN x r)).length _ (by rw [List.length_drop]; omega) (zL _)]
theorem runsL_mem : ∀ (f : Nat) (l : List Nat), l.length ≤ f → ∀ p ∈ runsF f l, p.1 ∈ l ∧ 1 ≤ p.2 ∧ p.2 ≤ l.length
 | 0, _, _, p, hp => by simp [runsF] at hp
 | _ + 1, [], _, p, hp => by simp [runsF] at hp
 | f + 1, x :: r, h, p, hp => by
  rw [zH] at h
  have hle := headN_le x r
  rw [runsF] at hp
  rcases List.mem_cons.1 hp with rfl | hp
  ·exact ⟨by simp, by simp, by simp; omega⟩
  ·obtain ⟨h1, h2, h3⟩ := runsL_mem f (r.drop (headN x r)) (by rw [List.length_drop]; omega) p hp
   rw [List.length_drop] at h3
   exact ⟨List.mem_cons_of_mem _ (List.mem_of_mem_drop h1), h2, by rw [zH]; omega⟩
theorem runsL_len : ∀ (f : Nat) (l : List Nat), l.length ≤ f → (runsF f l).length ≤ l.length
 | 0, _, _ => Nat.zero_le _
 | _ + 1, [], _ => zL _
 | f + 1, x :: r, h => by
  rw [zH] at h
  have h2 := runsL_len f (r.drop (headN x r)) (by rw [List.length_drop]; omega)
  rw [List.length_drop] at h2
  rw [runsF, zH, zH]
  omega
def runB (p : Nat × Nat) : List UInt8 := UInt8.ofNat p.1 :: numB p.2
def runsB (l : List (Nat × Nat)) : List UInt8 := l.flatMap runB
def insB (l : List Nat) : List UInt8 := runsB (runsL l)
theorem runsB_snoc (l : List (Nat × Nat)) (p : Nat × Nat) : runsB (l ++ [p]) = runsB l ++ runB p := by unfold runsB; rw [List.flatMap_append]; simp
theorem runB_len (p : Nat × Nat) (h : p.2 < 18446744073709551616) : (runB p).length ≤ 11 := by
 unfold runB
 have := numB_le h
 rw [zH]; omega
theorem runsB_len : ∀ (l : List (Nat × Nat)), (∀ p ∈ l, p.2 < 18446744073709551616) → (runsB l).length ≤ 11 * l.length
 | [], _ => zL _
 | p :: l, h => by
  have h1 := runB_len p (h p (by simp))
  have h2 := runsB_len l (fun q hq => h q (by simp [hq]))
  have e : runsB (p :: l) = runB p ++ runsB l := by unfold runsB; rw [List.flatMap_cons]
  rw [e, zG, zH]
  omega
end
section
section
variable {P : Program} {ops : Array Oper} {md : Region.Mode} {kd : Nat → Kd} {sp : Nat → Told}
abbrev Facts := Nat → World → Prop
def AllF (w : World) (F : Facts) (W : World) : Prop := Grown w W ∧ ∀ i, F i W
def updF (F : Facts) (i : Nat) (R : World → Prop) : Facts := fun n W => F n W ∧ (n = i → R W)
def StabF (F : Facts) : Prop := ∀ i W U, F i W → Grown W U → F i U
structure OkF (w : World) (F : Facts) : Prop where
 some_ : ∃ W, AllF w F W
 stab : StabF F
theorem updF_ne {F : Facts} {i n : Nat} {R : World → Prop} (h : n ≠ i) : updF F i R n = F n := by
 funext W; exact propext ⟨fun k => k.1, fun k => ⟨k, fun e => absurd e h⟩⟩
theorem updF_comm {F : Facts} {i j : Nat} {A B : World → Prop} : updF (updF F i A) j B = updF (updF F j B) i A := by
 funext n W; exact propext ⟨fun ⟨⟨a, b⟩, c⟩ => ⟨⟨a, c⟩, b⟩, fun ⟨⟨a, b⟩, c⟩ => ⟨⟨a, c⟩, b⟩⟩
theorem AllF.upd {w W W' : World} {F : Facts} {i : Nat} {R : World → Prop} (h : AllF w F W) (hs : StabF F) (hg : Grown W W') (hR : R W') : AllF w (updF F i R) W' := ⟨h.1.trans hg, fun n => ⟨hs n W W' (h.2 n) hg, fun _ => hR⟩⟩
theorem AllF.before {w W : World} {F : Facts} {i : Nat} {R : World → Prop} (h : AllF w (updF F i R) W) : AllF w F W := ⟨h.1, fun n => (h.2 n).1⟩
theorem StabF.upd {F : Facts} {i : Nat} {R : World → Prop} (hs : StabF F) (hR : ∀ W U, R W → Grown W U → R U) : StabF (updF F i R) := fun n W U h hg => ⟨hs n W U h.1 hg, fun e => hR W U (h.2 e) hg⟩
theorem OkF.none (w : World) : OkF w (fun _ _ => True) := ⟨⟨w, Grown.refl w, fun _ => trivial⟩, fun _ _ _ _ _ => trivial⟩
def yStep (P : Program) (md : Region.Mode) (ops : Array Oper) (kd : Nat → Kd) (sp : Nat → Told) (o : Oper) (i : Nat) (K : Act → World → Facts → Prop) (a : Act) (w : World) (F : Facts) : Prop :=
 if Region.wanted o (yielded ops a.tmps) = true then
  match kd i with
  | .pure => ∃ v, (∀ W, RunsTo P o a W v) ∧ K (a.put o.dst v) w F
  | .held => ∃ v, (∀ W, Grown w W → RunsTo P o a W v) ∧ K (a.put o.dst v) w F
  | .make => (∀ v W U, (sp i).R v W → Grown W U → (sp i).R v U) ∧ (∀ W, Grown w W → (∀ n, waitsM md ops i n = true → F n W) → Oper.goes P o a W (fun u W' => ((sp i).S u ∧ (sp i).R u W') ∧ Grown W W')) ∧ ∀ v, (sp i).S v → OkF w (updF F i ((sp i).R v)) → K (a.put o.dst v) w (updF F i ((sp i).R v))
  | .tail => ∃ T : Value → World → Prop, (∀ W, AllF w F W → Oper.goes P o a W T) ∧ ∀ v W', T v W' → K (a.put o.dst v) W' (fun _ _ => True)
 else K (a.put o.dst undef) w F
def yOp (P : Program) (md : Region.Mode) (ops : Array Oper) (kd : Nat → Kd) (sp : Nat → Told) (i : Nat) (K : Act → World → Facts → Prop) (a : Act) (w : World) (F : Facts) : Prop :=
 match ops[i]? with
 | none => K a w F
 | some o => yStep P md ops kd sp o i K a w F
theorem yStep_mono {o : Oper} {i : Nat} {a : Act} {w : World} {F : Facts} {K K' : Act → World → Facts → Prop} (hne : OkF w F) (h : ∀ a w F, OkF w F → K a w F → K' a w F) (hh : yStep P md ops kd sp o i K a w F) : yStep P md ops kd sp o i K' a w F := by
 unfold yStep at *
 split
 ·rename_i hw
  rw [if_pos hw] at hh
  cases hk : kd i <;> rw [hk] at hh <;> simp only at hh ⊢
  ·obtain ⟨v, h1, h2⟩ := hh; exact ⟨v, h1, h _ _ _ hne h2⟩
  ·obtain ⟨v, h1, h2⟩ := hh; exact ⟨v, h1, h _ _ _ hne h2⟩
  ·obtain ⟨h0, h1, h2⟩ := hh; exact ⟨h0, h1, fun v hv hn => h _ _ _ hn (h2 v hv hn)⟩
  ·obtain ⟨T, h1, h2⟩ := hh; exact ⟨T, h1, fun v W' ht => h _ _ _ (OkF.none W') (h2 v W' ht)⟩
 ·rename_i hw; rw [if_neg hw] at hh; exact h _ _ _ hne hh
theorem make_some {o : Oper} {i : Nat} {a : Act} {w : World} {F : Facts} (hne : OkF w F) (hst : ∀ v W U, (sp i).R v W → Grown W U → (sp i).R v U) (hM : ∀ W, Grown w W → (∀ n, waitsM md ops i n = true → F n W) → Oper.goes P o a W (fun u W' => ((sp i).S u ∧ (sp i).R u W') ∧ Grown W W')) : ∃ v, (sp i).S v ∧ OkF w (updF F i ((sp i).R v)) := by
 obtain ⟨W, hW⟩ := hne.some_
 obtain ⟨v, W', ⟨hs, hr⟩, hg⟩ := goes_some (hM W hW.1 (fun n _ => hW.2 n))
 exact ⟨v, hs, ⟨W', hW.upd hne.stab hg hr⟩, hne.stab.upd (hst v)⟩
theorem yStep_some {o : Oper} {i : Nat} {a : Act} {w : World} {F : Facts} {K : Act → World → Facts → Prop} (hne : OkF w F) (hh : yStep P md ops kd sp o i K a w F) : ∃ a' w' F', OkF w' F' ∧ K a' w' F' := by
 unfold yStep at hh
 split at hh
 ·cases hk : kd i <;> rw [hk] at hh <;> simp only at hh
  ·obtain ⟨v, -, h2⟩ := hh; exact ⟨_, _, _, hne, h2⟩
  ·obtain ⟨v, -, h2⟩ := hh; exact ⟨_, _, _, hne, h2⟩
  ·obtain ⟨h0, h1, h2⟩ := hh
   obtain ⟨v, hs, hn⟩ := make_some hne h0 h1
   exact ⟨_, _, _, hn, h2 v hs hn⟩
  ·obtain ⟨T, h1, h2⟩ := hh
   obtain ⟨W, hW⟩ := hne.some_
   obtain ⟨v, W', ht⟩ := goes_some (h1 W hW)
   exact ⟨_, _, _, OkF.none W', h2 v W' ht⟩
 ·exact ⟨_, _, _, hne, hh⟩
def swapY (a b : Kd) : Bool := match a, b with
 | .pure, _ => true
 | _, .pure => true
 | .tail, _ => false
 | _, .tail => false
 | _, _ => true
theorem yStep_swap {i j : Nat} {oi oj : Oper} (nij : waitsM md ops i j = false) (nji : waitsM md ops j i = false) (hap : oi.apart ops oj = true) (hsi : ∀ cs b, oi.op ≠ .select cs b) (hsj : ∀ cs b, oj.op ≠ .select cs b) (hk : swapY (kd i) (kd j) = true) {K : Act → World → Facts → Prop} {a : Act} {w : World} {F : Facts} (hne : OkF w F)
  (h : yStep P md ops kd sp oi i (fun a1 w1 D1 => yStep P md ops kd sp oj j K a1 w1 D1) a w F) : yStep P md ops kd sp oj j (fun a2 w2 D2 => yStep P md ops kd sp oi i K a2 w2 D2) a w F := by
 have fi : ∀ (R : World → Prop) (n : Nat), waitsM md ops i n = true → updF F j R n = F n := fun R n hn => updF_ne (fun e => by rw [e, nij] at hn; cases hn)
 have fj : ∀ (R : World → Prop) (n : Nat), waitsM md ops j n = true → updF F i R n = F n := fun R n hn => updF_ne (fun e => by rw [e, nji] at hn; cases hn)
 obtain ⟨h1, h2, h3⟩ := Oper.apart_spec hap
 have ei : ∀ (a : Act) u, execOp (a.put oj.dst u).eval oi = execOp a.eval oi := fun a u => execOp_put oi hsi a oj.dst u h3
 have ej : ∀ (a : Act) u, execOp (a.put oi.dst u).eval oj = execOp a.eval oj := fun a u => execOp_put oj hsj a oi.dst u h1
 have wi : ∀ (a : Act) u, Region.wanted oi (yielded ops (a.put oj.dst u).tmps) = Region.wanted oi (yielded ops a.tmps) := fun a u => wanted_put oi a oj.dst u h3
 have wj : ∀ (a : Act) u, Region.wanted oj (yielded ops (a.put oi.dst u).tmps) = Region.wanted oj (yielded ops a.tmps) := fun a u => wanted_put oj a oi.dst u h1
 have pc : ∀ (a : Act) u v, (a.put oi.dst u).put oj.dst v = (a.put oj.dst v).put oi.dst u := fun a u v => Act.put_comm a u v h2
 have ri : ∀ (a : Act) u W v, RunsTo P oi (a.put oj.dst u) W v ↔ RunsTo P oi a W v := fun a u W v => by unfold RunsTo; rw [ei]
 have rj : ∀ (a : Act) u W v, RunsTo P oj (a.put oi.dst u) W v ↔ RunsTo P oj a W v := fun a u W v => by unfold RunsTo; rw [ej]
 have gi : ∀ (a : Act) u W T, Oper.goes P oi (a.put oj.dst u) W T ↔ Oper.goes P oi a W T := fun a u W T => by unfold Oper.goes; rw [ei]
 have gj : ∀ (a : Act) u W T, Oper.goes P oj (a.put oi.dst u) W T ↔ Oper.goes P oj a W T := fun a u W T => by unfold Oper.goes; rw [ej]
 unfold yStep at h ⊢
 simp only [wi, wj, ri, rj, gi, gj] at h ⊢
 by_cases hwi : Region.wanted oi (yielded ops a.tmps) = true
 ·by_cases hwj : Region.wanted oj (yielded ops a.tmps) = true
  ·simp only [hwi, hwj, if_true] at h ⊢
   cases hki : kd i <;> cases hkj : kd j <;> rw [hki, hkj] at hk <;> simp only [hki, hkj] at h ⊢
   case tail.tail => simp [swapY] at hk
   case tail.held => simp [swapY] at hk
   case tail.make => simp [swapY] at hk
   case held.tail => simp [swapY] at hk
   case make.tail => simp [swapY] at hk
   case pure.pure =>
    obtain ⟨v, hv, u, hu, hK⟩ := h
    exact ⟨u, hu, v, hv, by rw [← pc]; exact hK⟩
   case pure.held =>
    obtain ⟨v, hv, u, hu, hK⟩ := h
    exact ⟨u, hu, v, hv, by rw [← pc]; exact hK⟩
   case pure.make =>
    obtain ⟨v, hv, hst, hM, hK⟩ := h
    exact ⟨hst, hM, fun u hu hn => ⟨v, hv, by rw [← pc]; exact hK u hu hn⟩⟩
   case pure.tail =>
    obtain ⟨v, hv, T, hg, hK⟩ := h
    exact ⟨T, hg, fun u W' hu => ⟨v, hv, by rw [← pc]; exact hK u W' hu⟩⟩
   case held.pure =>
    obtain ⟨v, hv, u, hu, hK⟩ := h
    exact ⟨u, hu, v, hv, by rw [← pc]; exact hK⟩
   case held.held =>
    obtain ⟨v, hv, u, hu, hK⟩ := h
    exact ⟨u, hu, v, hv, by rw [← pc]; exact hK⟩
   case held.make =>
    obtain ⟨v, hv, hst, hM, hK⟩ := h
    exact ⟨hst, hM, fun u hu hn => ⟨v, hv, by rw [← pc]; exact hK u hu hn⟩⟩
   case make.pure =>
    obtain ⟨hst, hM, hK⟩ := h
    obtain ⟨v0, hs0, hn0⟩ := make_some hne hst hM
    obtain ⟨u, hu, -⟩ := hK v0 hs0 hn0
    refine ⟨u, hu, hst, hM, fun v hv hn => ?_⟩
    obtain ⟨u', hu', hK'⟩ := hK v hv hn
    have : u' = u := runsTo_uniq (hu' w) (hu w)
    subst this
    rw [← pc]; exact hK'
   case make.held =>
    obtain ⟨hst, hM, hK⟩ := h
    obtain ⟨v0, hs0, hn0⟩ := make_some hne hst hM
    obtain ⟨u, hu, -⟩ := hK v0 hs0 hn0
    refine ⟨u, hu, hst, hM, fun v hv hn => ?_⟩
    obtain ⟨u', hu', hK'⟩ := hK v hv hn
    have : u' = u := runsTo_uniq (hu' w (Grown.refl w)) (hu w (Grown.refl w))
    subst this
    rw [← pc]; exact hK'
   case make.make =>
    obtain ⟨hst, hM, hK⟩ := h
    obtain ⟨v0, hs0, hn0⟩ := make_some hne hst hM
    obtain ⟨hst2, hM2, -⟩ := hK v0 hs0 hn0
    refine ⟨hst2, fun W hW hF => hM2 W hW (fun n hn => by rw [fj _ n hn]; exact hF n hn), fun u hu hn => ⟨hst, fun W hW hF => hM W hW (fun n hn => by have := hF n hn; rw [fi _ n hn] at this; exact this), fun v hv hn2 => ?_⟩⟩
    rw [updF_comm] at hn2 ⊢
    have hn1 : OkF w (updF F i ((sp i).R v)) := by
     obtain ⟨W, hW⟩ := hn2.some_
     exact ⟨⟨W, hW.before⟩, hne.stab.upd (hst v)⟩
    have := (hK v hv hn1).2.2 u hu hn2
    rw [← pc]
    exact this
   case tail.pure =>
    obtain ⟨T, hg, hK⟩ := h
    obtain ⟨W, hW⟩ := hne.some_
    obtain ⟨v0, W', ht0⟩ := goes_some (hg W hW)
    obtain ⟨u, hu, -⟩ := hK v0 W' ht0
    refine ⟨u, hu, T, hg, fun v W2 ht => ?_⟩
    obtain ⟨u', hu', hK'⟩ := hK v W2 ht
    have : u' = u := runsTo_uniq (hu' W) (hu W)
    subst this
    rw [← pc]; exact hK'
  ·simp only [hwi, hwj, if_true, Bool.false_eq_true, if_false] at h ⊢
   cases hki : kd i <;> simp only [hki] at h ⊢
   ·obtain ⟨v, hv, hK⟩ := h; exact ⟨v, hv, by rw [← pc]; exact hK⟩
   ·obtain ⟨v, hv, hK⟩ := h; exact ⟨v, hv, by rw [← pc]; exact hK⟩
   ·obtain ⟨hst, hM, hK⟩ := h; exact ⟨hst, hM, fun v hv hn => by rw [← pc]; exact hK v hv hn⟩
   ·obtain ⟨T, hg, hK⟩ := h; exact ⟨T, hg, fun v W' ht => by rw [← pc]; exact hK v W' ht⟩
 ·by_cases hwj : Region.wanted oj (yielded ops a.tmps) = true
  ·simp only [hwi, hwj, if_true, Bool.false_eq_true, if_false] at h ⊢
   cases hkj : kd j <;> simp only [hkj] at h ⊢
   ·obtain ⟨v, hv, hK⟩ := h; exact ⟨v, hv, by rw [← pc]; exact hK⟩
   ·obtain ⟨v, hv, hK⟩ := h; exact ⟨v, hv, by rw [← pc]; exact hK⟩
   ·obtain ⟨hst, hM, hK⟩ := h; exact ⟨hst, hM, fun v hv hn => by rw [← pc]; exact hK v hv hn⟩
   ·obtain ⟨T, hg, hK⟩ := h; exact ⟨T, hg, fun v W' ht => by rw [← pc]; exact hK v W' ht⟩
  ·simp only [hwi, hwj, Bool.false_eq_true, if_false] at h ⊢
   rw [← pc]; exact h
def wpAnyY (P : Program) (md : Region.Mode) (ops : Array Oper) (kd : Nat → Kd) (sp : Nat → Told) (E : Act → World → Facts → Prop) : Nat → Array Bool → Act → World → Facts → Prop
 | 0, listed, a, w, D => Region.ready md ops listed = [] ∧ E a w D
 | f + 1, listed, a, w, D => (Region.ready md ops listed = [] → E a w D) ∧ ∀ i ∈ Region.ready md ops listed, yOp P md ops kd sp i (wpAnyY P md ops kd sp E f (listed.setIfInBounds i true)) a w D
theorem wpOp_of_yOp {i : Nat} {a : Act} {w : World} {F : Facts} {K : Act → World → Facts → Prop} {K' : Act → World → Prop} {Q' : Exit → Act → World → Prop} {W : World} (hne : OkF w F) (hW : AllF w F W)
  (h : ∀ a w F W', OkF w F → AllF w F W' → K a w F → K' a W') (hh : yOp P md ops kd sp i K a w F) : wpOp P ops Q' i K' a W := by
 unfold yOp at hh
 unfold wpOp
 split
 ·rename_i ho; simp only [ho] at hh; exact h _ _ _ _ hne hW hh
 ·rename_i o ho
  simp only [ho] at hh
  unfold yStep at hh
  split
  ·rename_i hw
   rw [if_pos hw] at hh
   left
   cases hk : kd i <;> rw [hk] at hh <;> simp only at hh
   ·obtain ⟨v, h1, h2⟩ := hh
    have h1 := h1 W
    unfold RunsTo at h1
    unfold Oper.wp
    rw [h1]
    exact h _ _ _ _ hne hW h2
   ·obtain ⟨v, h1, h2⟩ := hh
    have h1 := h1 W hW.1
    unfold RunsTo at h1
    unfold Oper.wp
    rw [h1]
    exact h _ _ _ _ hne hW h2
   ·obtain ⟨hst, hM, hK⟩ := hh
    exact Oper.wp_of_goes (hM W hW.1 (fun n _ => hW.2 n)) fun v W' ⟨⟨hs, hr⟩, hg⟩ => have hn := hW.upd (i := i) hne.stab hg hr; have ho : OkF w (updF F i ((sp i).R v)) := ⟨⟨W', hn⟩, hne.stab.upd (hst v)⟩; h _ _ _ W' ho hn (hK v hs ho)
   ·obtain ⟨T, hg, hK⟩ := hh
    exact Oper.wp_of_goes (hg W hW) fun v W' ht => h _ _ _ W' (OkF.none W') ⟨Grown.refl W', fun _ => trivial⟩ (hK v W' ht)
  ·rename_i hw; rw [if_neg hw] at hh; exact h _ _ _ _ hne hW hh
theorem wpAny_of_Y {Q : Exit → Act → World → Prop} : ∀ (f : Nat) (listed : Array Bool) (a : Act) (w : World) (F : Facts) (W : World), OkF w F → AllF w F W → wpAnyY P md ops kd sp (fun a w F => ∀ W, AllF w F W → Q .normal a W) f listed a w F → wpAny P md ops Q f listed a W
 | 0, _, _, _, _, _, _, hW, h => ⟨h.1, h.2 _ hW⟩
 | f + 1, _, _, _, _, _, hne, hW, h => ⟨fun h0 => h.1 h0 _ hW, fun i hi => wpOp_of_yOp hne hW (fun a' w' D' W' hn' hW' h' => wpAny_of_Y f _ a' w' D' W' hn' hW' h') (h.2 i hi)⟩
theorem wpAnyY_first {E : Act → World → Facts → Prop} {i : Nat} {oi : Oper} (hi : ops[i]? = some oi) (hsel : ∀ (j : Nat) (o : Oper) cs b, ops[j]? = some o → o.op ≠ .select cs b)
  (hsw : ∀ j, j < ops.size → j ≠ i → swapY (kd i) (kd j) = false → waitsM md ops j i = true ∨ waitsM md ops i j = true) :
  ∀ (f : Nat) (listed : Array Bool) (a : Act) (w : World) (F : Facts), OkF w F → Closed md ops listed →
   (∀ j oj, ops[j]? = some oj → j ≠ i → listed.getD j true = false → (∀ e ∈ oj.after, Region.binds md e = true → e.on ≠ i) → oi.apart ops oj = true) →
   i ∈ Region.ready md ops listed → yOp P md ops kd sp i (wpAnyY P md ops kd sp E f (listed.setIfInBounds i true)) a w F → wpAnyY P md ops kd sp E (f + 1) listed a w F := by
 intro f
 induction f with
 | zero =>
  intro listed a w D hne _ _ hr H
  refine ⟨fun h => (by rw [h] at hr; cases hr), fun j hj => ?_⟩
  by_cases hji : j = i
  ·subst hji; exact H
  ·unfold yOp at H
   rw [hi] at H
   obtain ⟨a', w', D', -, h0, -⟩ := yStep_some hne H
   have := ready_mono hj hji
   rw [h0] at this; cases this
 | succ f ih =>
  intro listed a w D hne hcl hfree hr H
  refine ⟨fun h => (by rw [h] at hr; cases hr), fun j hj => ?_⟩
  by_cases hji : j = i
  ·subst hji; exact H
  ·obtain ⟨hjun, oj, hoj, hall⟩ := mem_ready.1 hj
   have hun := (mem_ready.1 hr).1
   have hnot : ∀ e ∈ oj.after, Region.binds md e = true → e.on ≠ i := fun e he hb heq => by
    have h1 := hall e he hb
    rw [heq, getD_both hun] at h1
    cases h1
   have hap := hfree j oj hoj hji hjun hnot
   have hswap : swapY (kd i) (kd j) = true := by
    cases hs : swapY (kd i) (kd j) with
    | true => rfl
    | false =>
     rcases hsw j (Array.getElem?_eq_some_iff.1 hoj).1 hji hs with h1 | h1
     ·have h2 := waitsM_ready hcl hj h1
      rw [getD_both hun] at h2; cases h2
     ·have h2 := waitsM_ready hcl hr h1
      rw [getD_both hjun] at h2; cases h2
   have hfree' : ∀ k ok, ops[k]? = some ok → k ≠ i → (listed.setIfInBounds j true).getD k true = false →
     (∀ e ∈ ok.after, Region.binds md e = true → e.on ≠ i) → oi.apart ops ok = true := fun k ok hk hki hun' hno => by
    refine hfree k ok hk hki ?_ hno
    by_cases hjk : j = k
    ·subst hjk; exact hjun
    ·rw [getD_set_ne true hjk] at hun'; exact hun'
   have hri := ready_mono hr (Ne.symm hji)
   unfold yOp at H
   rw [hi] at H
   have H2 : yStep P md ops kd sp oi i (fun a1 w1 D1 => yStep P md ops kd sp oj j (wpAnyY P md ops kd sp E f ((listed.setIfInBounds i true).setIfInBounds j true)) a1 w1 D1) a w D :=
    yStep_mono hne (fun a1 w1 D1 _ hK => by
     have := hK.2 j (ready_mono hj hji)
     unfold yOp at this
     rw [hoj] at this
     exact this) H
   have nji : waitsM md ops j i = false := by
    cases hs : waitsM md ops j i with
    | false => rfl
    | true => have h2 := waitsM_ready hcl hj hs; rw [getD_both hun] at h2; cases h2
   have nij : waitsM md ops i j = false := by
    cases hs : waitsM md ops i j with
    | false => rfl
    | true => have h2 := waitsM_ready hcl hr hs; rw [getD_both hjun] at h2; cases h2
   have H3 := yStep_swap nij nji hap (fun cs b => hsel i oi cs b hi) (fun cs b => hsel j oj cs b hoj) hswap hne H2
   unfold yOp
   rw [hoj]
   refine yStep_mono hne (fun a2 w2 D2 hne2 h3 => ih (listed.setIfInBounds j true) a2 w2 D2 hne2 (hcl.set hj) hfree' hri ?_) H3
   unfold yOp
   rw [hi, Array.setIfInBounds_comm _ _ hji]
   exact h3
def wpMixY (P : Program) (md : Region.Mode) (ops : Array Oper) (kd : Nat → Kd) (sp : Nat → Told) (E : Act → World → Facts → Prop) : List Oper → Nat → Act → World → Facts → Prop
 | [], _, a, w, D => E a w D
 | o :: rest, k, a, w, D => yStep P md ops kd sp o k (wpMixY P md ops kd sp E rest (k + 1)) a w D
def mixYB (md : Region.Mode) (ops : Array Oper) (kd : Nat → Kd) : Bool :=
 Region.lexB md ops && (List.range ops.size).all fun i => (List.range ops.size).all fun j => decide (j = i) || (swapY (kd i) (kd j) || (waitsM md ops j i || waitsM md ops i j))
theorem wpAnyY_lex {E : Act → World → Facts → Prop} (hs : Region.noSelect ops = true) (hsw : ∀ i j, i < ops.size → j < ops.size → j ≠ i → swapY (kd i) (kd j) = false → waitsM md ops j i = true ∨ waitsM md ops i j = true) :
  ∀ (l : List Oper) (k : Nat) (listed : Array Bool) (a : Act) (w : World) (F : Facts), OkF w F → Closed md ops listed → (∀ j, l[j]? = ops[k + j]?) →
  Region.lexFrom md ops l.length k listed = true → wpMixY P md ops kd sp E l k a w F → wpAnyY P md ops kd sp E l.length listed a w F
 | [], _, _, _, _, _, _, _, _, hB, h => ⟨by simpa [Region.lexFrom] using hB, h⟩
 | o :: l, k, listed, a, w, D, hne, hcl, hl, hB, h => by
  have h0 : ops[k]? = some o := by simpa using (hl 0).symm
  simp only [zH, Region.lexFrom, Bool.and_eq_true] at hB
  obtain ⟨⟨hr, hf⟩, hB'⟩ := hB
  have hk : k < ops.size := (Array.getElem?_eq_some_iff.1 h0).1
  refine wpAnyY_first h0 (Region.noSelect_spec hs) (fun j hjl hj hsw' => hsw k j hk hjl hj hsw') l.length listed a w D hne hcl (Region.free_spec h0 hf) (by simpa using hr) ?_
  unfold yOp
  rw [h0]
  exact yStep_mono hne (fun a' w' D' hne' h' => wpAnyY_lex hs hsw l (k + 1) _ a' w' D' hne' (hcl.set (by simpa using hr)) (fun j => by have := hl (j + 1); simpa [Nat.add_assoc, Nat.add_comm 1 j] using this) hB' h') h
theorem any_mixedY {Q : Exit → Act → World → Prop} {a : Act} {w : World} {l : List Oper} (kds : List Kd) (sp : Nat → Told) (hB : mixYB .any l.toArray (fun i => kds.getD i .pure) = true)
  (h : wpMixY P .any l.toArray (fun i => kds.getD i .pure) sp (fun a w F => ∀ W, AllF w F W → Q .normal a W) l 0 a w (fun _ _ => True)) : wpAny P .any l.toArray Q l.toArray.size (Array.replicate l.toArray.size false) a { w with drawn := w.drawn + 1 } := by
 simp only [mixYB, Bool.and_eq_true] at hB
 obtain ⟨hlex, hall⟩ := hB
 simp only [Region.lexB, Bool.and_eq_true] at hlex
 have hg0 : Grown w { w with drawn := w.drawn + 1 } := (Below.refl _ _).drew
 refine (wpAny_of_Y (kd := fun i => kds.getD i .pure) (sp := sp) _ _ _ w (fun _ _ => True) _ (OkF.none w) ⟨hg0, fun _ => trivial⟩ ?_)
 have := wpAnyY_lex (P := P) (md := .any) (kd := fun i => kds.getD i .pure) (sp := sp) (E := fun a w F => ∀ W, AllF w F W → Q .normal a W) hlex.1 (fun i j hi hjl hj hs => by
  have h1 := List.all_eq_true.1 (List.all_eq_true.1 hall i (List.mem_range.2 hi)) j (List.mem_range.2 hjl)
  simp only [Bool.or_eq_true, decide_eq_true_eq] at h1
  rcases h1 with h1 | h1 | h1 | h1
  ·exact absurd h1 hj
  ·rw [hs] at h1; cases h1
  ·exact .inl h1
  ·exact .inr h1) l 0 (Array.replicate l.toArray.size false) a w (fun _ _ => True) (OkF.none w) (Closed.none _ _ _) (by simp) (by simpa using hlex.2) h
 simpa using this
theorem wp_region_mixedY {id : Nat} {Q : Exit → Act → World → Prop} {a : Act} {w : World} {l : List Oper} (kds : List Kd) (sp : Nat → Told) (hm : P.follows .mixedOrders = true) (hB : mixYB .any l.toArray (fun i => kds.getD i .pure) = true)
  (h : wpMixY P .any l.toArray (fun i => kds.getD i .pure) sp (fun a w F => ∀ W, AllF w F W → Q .normal a W) l 0 a w (fun _ _ => True)) : (Code.region id l.toArray true).wp P Q a w :=
 wp_region_any hm (any_mixedY kds sp hB h)
section
variable {E : Act → World → Facts → Prop} {a : Act} {o : Oper} {rest : List Oper} {k : Nat} {w : World} {F : Facts}
theorem mixY_pure (hw : Region.wanted o (yielded ops a.tmps) = true) (hk : kd k = .pure) (hp : valOp o.op = true)
  (h : ∀ K : Act → Prop, (∀ a, wpMixY P md ops kd sp E rest (k + 1) a w F → K a) → o.quiet P a (fun _ => True) K) : wpMixY P md ops kd sp E (o :: rest) k a w F := by
 unfold wpMixY yStep
 rw [if_pos hw, hk]
 obtain ⟨v, h1, h2⟩ := h _ fun _ h => h
 exact ⟨v, fun W => runs_of_quiet hp (h1 W trivial), h2⟩
theorem mixY_held (hw : Region.wanted o (yielded ops a.tmps) = true) (hk : kd k = .held) (hp : valOp o.op = true)
  (h : ∀ K : Act → Prop, (∀ a, wpMixY P md ops kd sp E rest (k + 1) a w F → K a) → o.quiet P a (fun w' => ∃ x : Ext w, w' = x.world) K) : wpMixY P md ops kd sp E (o :: rest) k a w F := by
 unfold wpMixY yStep
 rw [if_pos hw, hk]
 obtain ⟨v, h1, h2⟩ := h _ fun _ h => h
 exact ⟨v, fun W hW => runs_of_quiet hp (h1 W ⟨⟨W, hW⟩, rfl⟩), h2⟩
theorem mixY_make (hw : Region.wanted o (yielded ops a.tmps) = true) (hk : kd k = .make) (hst : ∀ v W U, (sp k).R v W → Grown W U → (sp k).R v U)
  (hM : ∀ W, Grown w W → (∀ n, waitsM md ops k n = true → F n W) → Oper.goes P o a W (fun u W' => ((sp k).S u ∧ (sp k).R u W') ∧ Grown W W'))
  (h : ∀ v, (sp k).S v → wpMixY P md ops kd sp E rest (k + 1) (a.put o.dst v) w (updF F k ((sp k).R v))) : wpMixY P md ops kd sp E (o :: rest) k a w F := by
 unfold wpMixY yStep
 rw [if_pos hw, hk]
 exact ⟨hst, hM, fun v hv _ => h v hv⟩
theorem mixY_write (hw : Region.wanted o (yielded ops a.tmps) = true) (hk : kd k = .tail) (T : Value → World → Prop) (hM : ∀ W, AllF w F W → Oper.goes P o a W T)
  (h : ∀ v W', T v W' → wpMixY P md ops kd sp E rest (k + 1) (a.put o.dst v) W' (fun _ _ => True)) : wpMixY P md ops kd sp E (o :: rest) k a w F := by
 unfold wpMixY yStep
 rw [if_pos hw, hk]
 exact ⟨T, hM, h⟩
theorem mixY_nil (h : E a w F) : wpMixY P md ops kd sp E [] k a w F := h
end
end
end
section
open Go.RowKit Go.Shelf
attribute [local irreducible] wpMixY
theorem same_at {l : List Nat} {k j : Nat} (h : ∀ i, k ≤ i → i < j → l[i + 1]? = l[i]?) : ∀ d, k + d ≤ j → l[k + d]? = l[k]?
 | 0, _ => rfl
 | d + 1, hd => (h (k + d) (by omega) (by omega)).trans (same_at h d (by omega))
theorem runsL_at {l : List Nat} {k j : Nat} (hkj : k ≤ j) (hj : j < l.length) (h : ∀ i, k ≤ i → i < j → l[i + 1]? = l[i]?) (he : l[j + 1]? ≠ l[j]?) : runsL (l.drop k) = (l[j], j - k + 1) :: runsL (l.drop (j + 1)) := by
 have hk : k < l.length := by omega
 have ex : l[j]? = l[k]? := by
  have := same_at h (j - k) (by omega)
  rwa [Nat.add_sub_cancel' hkj] at this
 have ej : l[j] = l[k] := by
  rw [List.getElem?_eq_getElem hj, List.getElem?_eq_getElem hk] at ex
  exact Option.some.inj ex
 have hd : ∀ d, k + d ≤ j → headN l[k] (l.drop (k + 1)) = d + headN l[k] (l.drop (k + 1 + d)) := by
  intro d
  induction d with
  | zero => intro _; simp
  | succ d ih =>
   intro hdj
   rw [ih (by omega)]
   have hlt : k + 1 + d < l.length := by omega
   have e1 : l[k + 1 + d] = l[k] := by
    have := same_at h (d + 1) (by omega)
    rw [show k + (d + 1) = k + 1 + d by omega, List.getElem?_eq_getElem hlt, List.getElem?_eq_getElem hk] at this
    exact Option.some.inj this
   rw [headN_hit hlt e1, Nat.add_assoc (k + 1) d 1]
   omega
 have e0 : headN l[k] (l.drop (j + 1)) = 0 := by
  by_cases hn : j + 1 < l.length
  ·refine headN_miss hn (fun e => he ?_)
   rw [List.getElem?_eq_getElem hn, List.getElem?_eq_getElem hj, e, ej]
  ·exact headN_end (by omega)
 have hh : headN l[k] (l.drop (k + 1)) = j - k := by
  have := hd (j - k) (by omega)
  rw [show k + 1 + (j - k) = j + 1 by omega, e0] at this
  omega
 rw [List.drop_eq_getElem_cons hk, runsL_cons, hh, List.drop_drop, show k + 1 + (j - k) = j + 1 by omega, ej]
theorem goes_bs_b1 {W : World} {o : Oper} {a : Act} (y : Operand) (ho : o.op = .buildSlice 25 1 #[(0, y)]) (x : Int) (hy : a.eval y = .int .u8 x) : Oper.goes Tryz.prog o a W (fun v W' => v = .slice (some ⟨W.heap.size, 0, none⟩) 1 1 ∧ W' = W.alloc (.cells #[.int .u8 x] 5)) := by
 obtain ⟨i0, hi0, hz0, hz1, hz2⟩ := info_parts Tryz.infoU8
 refine goes_bs 25 5 1 _ ho _ i0 _ Tryz.underlying25 hi0 hz0 (by rw [hz1]; decide) (by rw [hz1]; decide) ?_
 rw [hz1]
 simp only [List.map_toArray, List.map_cons, List.map_nil, hy]
 simp [Instr.fill, go_sem]
theorem goes_conv1 {W : World} {o : Oper} {a : Act} (y : Operand) (ho : o.op = .convert 25 9 y) (g x : Nat) (hx : x < 256) (hy : a.eval y = .slice (some ⟨g, 0, none⟩) 1 1) (hc : W.cell? ⟨g, 0, none⟩ = some (.int .u8 x)) : Oper.goes Tryz.prog o a W (fun v W' => v = strN [UInt8.ofNat x] ∧ W' = W) := by
 have h := run_convert_bytes_back (P := Tryz.prog) W 25 9 5 ⟨g, 0, none⟩ 1 [UInt8.ofNat x] Tryz.underlying25 Tryz.underlying5 Tryz.underlying9 (fun k hk => by
  obtain rfl : k = 0 := by simp at hk; omega
  rw [Go.WideShapes.add_plain, Nat.zero_add, hc]
  simp [UInt8.toNat_ofNat, Nat.mod_eq_of_lt hx])
 unfold Oper.goes execOp
 simp only [ho, hy, Sem.run_bind]
 rw [show ([UInt8.ofNat x] : List UInt8).length = 1 from rfl] at h
 rw [h]
 exact ⟨rfl, rfl⟩
def rowB (x : Nat) : Told := ⟨fun v => ∃ g, v = .slice (some ⟨g, 0, none⟩) 1 1, fun v W => ∃ g, v = .slice (some ⟨g, 0, none⟩) 1 1 ∧ Blk W g 5 #[.int .u8 (x : Int)]⟩
theorem rowB_st {x : Nat} : ∀ v W U, (rowB x).R v W → Grown W U → (rowB x).R v U := fun _ _ _ ⟨g, hv, hb⟩ k => ⟨g, hv, hb.on k⟩
theorem rowB_goes {W : World} {o : Oper} {a : Act} (y : Operand) (ho : o.op = .buildSlice 25 1 #[(0, y)]) (x : Nat) (hy : a.eval y = .int .u8 (x : Int)) : Oper.goes Tryz.prog o a W (fun u W' => ((rowB x).S u ∧ (rowB x).R u W') ∧ Grown W W') :=
 goes_mono (goes_bs_b1 y ho x hy) (by
  rintro v W' ⟨rfl, rfl⟩
  exact ⟨⟨⟨_, rfl⟩, _, rfl, Blk.new _ _ _⟩, bAlloc (Below.refl _ _) _⟩)
theorem conv1_goes {W : World} {o : Oper} {a : Act} (y : Operand) (ho : o.op = .convert 25 9 y) (g x : Nat) (hx : x < 256) (hy : a.eval y = .slice (some ⟨g, 0, none⟩) 1 1) (h : (rowB x).R (.slice (some ⟨g, 0, none⟩) 1 1) W) : Oper.goes Tryz.prog o a W (fun u W' => ((valF (strN [UInt8.ofNat x])).S u ∧ (valF (strN [UInt8.ofNat x])).R u W') ∧ Grown W W') := by
 obtain ⟨g', hv, hb⟩ := h
 simp only [Value.slice.injEq, Option.some.injEq, Addr.mk.injEq, and_true] at hv
 subst hv
 refine goes_mono (goes_conv1 y ho g x hx hy (hb.cell 0)) ?_
 rintro v W' ⟨rfl, rfl⟩
 exact ⟨⟨rfl, trivial⟩, Grown.refl _⟩
theorem runsB_pre {l : List Nat} {pre r : List (Nat × Nat)} (h : pre ++ r = runsL l) (hl : l.length ≤ 20000) : (runsB pre).length ≤ 220000 := by
 have h1 := runsL_len l.length l (zL _)
 have h2 : pre.length ≤ (runsL l).length := by rw [← h, zG]; omega
 have h3 := runsB_len pre (fun p hp => by
  have := (runsL_mem l.length l (zL _) p (by
   show p ∈ runsL l
   rw [← h]; exact List.mem_append_left _ hp)).2.2
  omega)
 have : (runsL l).length ≤ l.length := h1
 omega
theorem rinputs_any (A : Option Addr) (c : Nat) (l : List Nat) (hl : l.length ≤ 20000) (hb : ∀ x ∈ l, x < 256) (w : World) (hr : Rd w w.heap.size A (l.flatMap btC)) : Calls Tryz.prog 94 #[.slice A l.length c] w fun e w' => e = .returned (.string ⟨(insB l).toArray⟩) ∧ Below w.heap.size w w' := by
 have HR := zz hr
 have HBT := zz hb
 have HLL := zz hl
 clear hr hb
 go_enter Tryz.func94, Tryz.ntmps94
 go_wp2
 obtain ⟨n, hn⟩ : ∃ n, l.length = n := ⟨_, rfl⟩
 have HN := zz hn
 rw [hn] at hl ⊢
 clear hn
 go_loopw [3, 4, 5] (fun s u v wr => ∃ (j k : Nat) (pre : List (Nat × Nat)), j ≤ n ∧ k ≤ j ∧ v = .int .i64 j ∧ u = .int .i64 k ∧ s = .string ⟨(runsB pre).toArray⟩ ∧ Hid (pre ++ runsL (l.drop k) = runsL l) ∧ Hid (∀ i, k ≤ i → i < j → j < n → l[i + 1]? = l[i]?) ∧ Hid (j = n → k = n) ∧ Hid (Below w.heap.size w wr)) (fun _ _ v _ => n - (intOf v).toNat)
 case atStart => exact ⟨0, 0, [], Nat.zero_le _, zL _, rfl, rfl, rfl, zz (by simp), zz (fun i h1 h2 _ => by omega), zz (fun e => e), zz (Below.refl _ _)⟩
 case round =>
  obtain ⟨j, k, pre, hj, hkj, rfl, rfl, rfl, HP, HE, HZ, HB⟩ := hrel
  by_cases hlt : j < n
  ·have hjl : j < l.length := by rw [HN.out]; exact hlt
   obtain ⟨b, off, rfl, hbw, hc⟩ := (HR.out.below HB.out (zL _)).at_ btC_length (by decide) hjl
   have x1 : wr.cell? ⟨b, off + j, none⟩ = some (.int .u8 (l[j] : Nat)) := by
    have := hc 0 _ rfl
    simpa using this
   have hpl := runsB_pre HP.out HLL.out
   have hx256 := HBT.out _ (List.getElem_mem hjl)
   have HRA := zz (fun he => runsL_at (l := l) hkj hjl (fun i h1 h2 => HE.out i h1 h2 hlt) he)
   have HXJ := zz (List.getElem?_eq_getElem hjl)
   obtain ⟨x, hx⟩ : ∃ x, l[j] = x := ⟨_, rfl⟩
   rw [hx] at x1 hx256 HRA HXJ
   obtain ⟨p, hp⟩ : ∃ p, runsB pre = p := ⟨_, rfl⟩
   have HPP := zz hp
   rw [hp] at hpl ⊢
   have hnl := numB_le (n := j - k + 1) (by omega)
   have HNM := zz (fun V => by
    have h := rnum_any (j - k + 1) (by omega) V
    rw [show ((j - k + 1 : Nat) : Int) = (j : Int) + 1 - (k : Int) by omega] at h
    exact valF_of (v := .string ⟨(numB (j - k + 1)).toArray⟩) h)
   have hlb : b < wr.heap.size := Nat.lt_of_lt_of_le hbw HB.out.size
   clear hc hx hp hjl
   by_cases hlast : j + 1 = n
   ·have g1 : ((j : Int) == (n : Int) - 1) = true := by simp; omega
    have HLA := zz hlast
    clear hlast
    go_upto_region 6 with fail
    refine wp_region_mild (by kernel_rfl) (by kernel_rfl) ?_
    repeat (go_big_quiet_step (fail))
    refine wpQuiet_nil ?_
    intro w5 hw'
    obtain ⟨⟨wq, k5⟩, hw''⟩ := hw'
    subst hw''
    have HNE : Hid (l[j + 1]? ≠ l[j]?) := zz (by
     rw [HXJ.out, List.getElem?_eq_none (by rw [HN.out]; exact Nat.le_of_eq HLA.out.symm)]; simp)
    have x5 := (k5.cell (p := ⟨b, off + j, none⟩) hlb).trans x1
    have hlb5 : b < w5.heap.size := Nat.lt_of_lt_of_le hlb k5.size
    go_upto_region 7 with fail
    refine wp_region_mixedY [.pure, .pure, .pure, .pure, .held, .make, .make, .pure, .pure, .pure, .pure, .pure, .pure, .make, .pure, .pure] (fun | 5 => rowB x | 6 => valF (.string ⟨[UInt8.ofNat x].toArray⟩) | _ => valF (.string ⟨(numB (j - k + 1)).toArray⟩)) (by kernel_rfl) (by kernel_rfl) ?_
    repeat (first | (refine mixY_pure rfl rfl rfl (fun K hK => ?_); go_big_quiet_op; refine hK _ ?_; clear hK K) | (refine mixY_held rfl rfl rfl (fun K hK => ?_); go_big_quiet_op; refine hK _ ?_; clear hK K))
    refine mixY_make rfl rfl rowB_st (fun W hW hF => rowB_goes (.tmp 33) rfl x rfl) ?_
    rintro v ⟨g, rfl⟩
    simp only [Act.put, zD, zE, zF]
    refine mixY_make rfl rfl valF_st (fun W hW hF => conv1_goes (.tmp 34) rfl g x hx256 rfl ((hF 5 (by kernel_rfl)).2 rfl)) ?_
    rintro _ rfl
    simp only [Act.put, zD, zE, zF]
    repeat (refine mixY_pure rfl rfl rfl (fun K hK => ?_); go_big_quiet_op; refine hK _ ?_; clear hK K)
    refine mixY_make rfl rfl valF_st (fun W hW hF => ?_) ?_
    ·have HS2 := zz (HNM.out W)
     go_simp
     with_reducible exact HS2.out
    rintro _ rfl
    simp only [Act.put, zD, zE, zF]
    repeat (refine mixY_pure rfl rfl rfl (fun K hK => ?_); go_big_quiet_op; refine hK _ ?_; clear hK K)
    refine mixY_nil ?_
    intro W7 hW7
    have HB7 := zz (hW7.1)
    clear hW7
    have hs : (⟨p.toArray⟩ : ByteArray) ++ ⟨[UInt8.ofNat x].toArray⟩ ++ ⟨(numB (j - k + 1)).toArray⟩ = ⟨(runsB (pre ++ [(x, j - k + 1)])).toArray⟩ := by
     rw [strN_append, strN_append, runsB_snoc, HPP.out]; simp [runB]
    rw [hs]
    clear hs
    have HPN : Hid ((pre ++ [(x, j - k + 1)]) ++ runsL (l.drop (j + 1)) = runsL l) := zz (by
     have := HP.out
     rw [HRA.out HNE.out] at this
     simpa using this)
    clear x1 x5 HNM hpl hnl
    go_wp2
    go_roundw
    case rel => exact ⟨j + 1, j + 1, pre ++ [(x, j - k + 1)], by omega, zL _, by go_num, by go_num, rfl, HPN, zz (fun i h1 h2 _ => by omega), zz (fun e => e), zz (bTrans (bTrans HB.out k5) HB7.out)⟩
    case measure => simp [intOf]; omega
   ·have hjl2 : j + 1 < l.length := by rw [HN.out]; omega
    obtain ⟨b2, off2, e2, -, hc2⟩ := (HR.out.below HB.out (zL _)).at_ btC_length (by decide) hjl2
    simp only [Option.some.injEq, Addr.mk.injEq, and_true] at e2
    obtain ⟨rfl, rfl⟩ := e2
    have y1 : wr.cell? ⟨b, off + (j + 1), none⟩ = some (.int .u8 (l[j + 1] : Nat)) := by
     have := hc2 0 _ rfl
     simpa using this
    have HYJ := zz (List.getElem?_eq_getElem hjl2)
    obtain ⟨y, hy⟩ : ∃ y, l[j + 1] = y := ⟨_, rfl⟩
    rw [hy] at y1 HYJ
    have g1 : ((j : Int) == (n : Int) - 1) = false := by simp; omega
    clear hc2 hy hjl2
    by_cases hyx : y = x
    ·have g2 : ((y : Int) == (x : Int)) = true := by simp [hyx]
     have g3 : ((y : Int) != (x : Int)) = false := by simp [hyx]
     have HEQ : Hid (l[j + 1]? = l[j]?) := zz (by rw [HXJ.out, HYJ.out, hyx])
     have hl2 : j + 1 < n := by omega
     clear hyx
     go_upto_region 6 with fail
     refine wp_region_mild (by kernel_rfl) (by kernel_rfl) ?_
     repeat (go_big_quiet_step (fail))
     refine wpQuiet_nil ?_
     intro w5 hw'
     obtain ⟨⟨wq, k5⟩, hw''⟩ := hw'
     subst hw''
     go_wp2
     go_roundw
     case rel =>
      refine ⟨j + 1, k, pre, by omega, by omega, by go_num, rfl, by rw [HPP.out], HP, zz (fun i h1 h2 _ => ?_), zz (fun e => by omega), zz (bTrans HB.out k5)⟩
      by_cases hij : i = j
      ·rw [hij]; exact HEQ.out
      ·exact HE.out i h1 (by omega) hlt
     case measure => simp [intOf]; omega
    ·have g2 : ((y : Int) == (x : Int)) = false := by simp; omega
     have g3 : ((y : Int) != (x : Int)) = true := by simp; omega
     have HNE : Hid (l[j + 1]? ≠ l[j]?) := zz (by
      rw [HXJ.out, HYJ.out]
      exact fun e => hyx (Option.some.inj e))
     clear hyx
     go_upto_region 6 with fail
     refine wp_region_mild (by kernel_rfl) (by kernel_rfl) ?_
     repeat (go_big_quiet_step (fail))
     refine wpQuiet_nil ?_
     intro w5 hw'
     obtain ⟨⟨wq, k5⟩, hw''⟩ := hw'
     subst hw''
     have x5 := (k5.cell (p := ⟨b, off + j, none⟩) hlb).trans x1
     have hlb5 : b < w5.heap.size := Nat.lt_of_lt_of_le hlb k5.size
     go_upto_region 7 with fail
     refine wp_region_mixedY [.pure, .pure, .pure, .pure, .held, .make, .make, .pure, .pure, .pure, .pure, .pure, .pure, .make, .pure, .pure] (fun | 5 => rowB x | 6 => valF (.string ⟨[UInt8.ofNat x].toArray⟩) | _ => valF (.string ⟨(numB (j - k + 1)).toArray⟩)) (by kernel_rfl) (by kernel_rfl) ?_
     repeat (first | (refine mixY_pure rfl rfl rfl (fun K hK => ?_); go_big_quiet_op; refine hK _ ?_; clear hK K) | (refine mixY_held rfl rfl rfl (fun K hK => ?_); go_big_quiet_op; refine hK _ ?_; clear hK K))
     refine mixY_make rfl rfl rowB_st (fun W hW hF => rowB_goes (.tmp 33) rfl x rfl) ?_
     rintro v ⟨g, rfl⟩
     simp only [Act.put, zD, zE, zF]
     refine mixY_make rfl rfl valF_st (fun W hW hF => conv1_goes (.tmp 34) rfl g x hx256 rfl ((hF 5 (by kernel_rfl)).2 rfl)) ?_
     rintro _ rfl
     simp only [Act.put, zD, zE, zF]
     repeat (refine mixY_pure rfl rfl rfl (fun K hK => ?_); go_big_quiet_op; refine hK _ ?_; clear hK K)
     refine mixY_make rfl rfl valF_st (fun W hW hF => ?_) ?_
     ·have HS2 := zz (HNM.out W)
      go_simp
      with_reducible exact HS2.out
     rintro _ rfl
     simp only [Act.put, zD, zE, zF]
     repeat (refine mixY_pure rfl rfl rfl (fun K hK => ?_); go_big_quiet_op; refine hK _ ?_; clear hK K)
     refine mixY_nil ?_
     intro W7 hW7
     have HB7 := zz (hW7.1)
     clear hW7
     have hs : (⟨p.toArray⟩ : ByteArray) ++ ⟨[UInt8.ofNat x].toArray⟩ ++ ⟨(numB (j - k + 1)).toArray⟩ = ⟨(runsB (pre ++ [(x, j - k + 1)])).toArray⟩ := by
      rw [strN_append, strN_append, runsB_snoc, HPP.out]; simp [runB]
     rw [hs]
     clear hs
     have HPN : Hid ((pre ++ [(x, j - k + 1)]) ++ runsL (l.drop (j + 1)) = runsL l) := zz (by
      have := HP.out
      rw [HRA.out HNE.out] at this
      simpa using this)
     clear x1 x5 HNM hpl hnl
     go_wp2
     go_roundw
     case rel => exact ⟨j + 1, j + 1, pre ++ [(x, j - k + 1)], by omega, zL _, by go_num, by go_num, rfl, HPN, zz (fun i h1 h2 _ => by omega), zz (fun e => e), zz (bTrans (bTrans HB.out k5) HB7.out)⟩
     case measure => simp [intOf]; omega
  ·have hjn : j = n := by omega
   go_wp2
   go_ret
   have hk := HZ.out hjn
   have h1 := HP.out
   rw [hk, List.drop_of_length_le (by rw [HN.out]; exact zL _), runsL_nil, List.append_nil] at h1
   exact ⟨by rw [h1]; rfl, HB.out⟩
end
end Go.Proofs.YtibeihcpehikoaaGreat
