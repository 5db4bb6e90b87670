/-
  The walks beneath: Tr1, OpenSt, MixT, MixB.
-/
import Derived.Test.YtibeihcpehikoaaGreatNk36
namespace Go.Proofs.YtibeihcpehikoaaGreat
open Go.RowKit
set_option maxRecDepth 100000
set_option maxHeartbeats 1000000
section
def btC (n : Nat) : List Value := [.int .u8 (n : Int)]
theorem btC_length (n : Nat) : (btC n).length = 1 := rfl
def badFrom : Nat → List Nat → Int
 | _, [] => -1
 | k, x :: r => if 63 < x then (k : Int) else badFrom (k + 1) r
def badB (l : List Nat) : Bool := l.any fun x => decide (63 < x)
theorem badFrom_iff : ∀ (l : List Nat) (k : Nat), (0 ≤ badFrom k l) = (badB l = true)
 | [], k => by simp [badFrom, badB]
 | x :: r, k => by
  have ih := badFrom_iff r (k + 1)
  rw [badFrom]
  unfold badB at *
  rw [List.any_cons]
  by_cases h : 63 < x
  ·simp [h]
  ·simp only [h, if_false, decide_false, Bool.false_or]
   exact ih
theorem badFrom_bd : ∀ (l : List Nat) (k : Nat), -1 ≤ badFrom k l ∧ badFrom k l ≤ k + l.length
 | [], k => by simp [badFrom]
 | x :: r, k => by
  have ih := badFrom_bd r (k + 1)
  unfold badFrom
  rw [zH]
  split <;> omega
theorem tofC_any (n : Nat) (w : World) : Calls Tryz.prog 141 #[.int .u8 (n : Int)] w fun e w' => e = .returned (.bool (decide (63 < n))) ∧ w = w' := by
 by_cases h : 63 < n
 ·have HD := zz (show decide (63 < n) = true by simpa using h)
  go_enter Tryz.func141, Tryz.ntmps141
  go_wp2
  go_ret
  exact ⟨ret_bool (by rw [HD.out]; simp; omega), rfl⟩
 ·have HD := zz (show decide (63 < n) = false by simpa using h)
  go_enter Tryz.func141, Tryz.ntmps141
  go_wp2
  go_ret
  exact ⟨ret_bool (by rw [HD.out]; simp; omega), rfl⟩
theorem tIF_any (A : Option Addr) (c : Nat) (L : List Nat) (w : World) (hn : L.length ≤ 1000000) (hr : Rd w w.heap.size A (L.flatMap btC)) :
  Calls Tryz.prog 207 #[.slice A L.length c, .func (.func 141) #[] #[]] w fun e w' => e = .returned (.int .i64 (badFrom 0 L)) ∧ w = w' := by
 have HR := zz hr
 have HC := zz (fun n V => tofC_any n V)
 clear hr
 go_enter Tryz.func207, Tryz.ntmps207
 go_wp2
 go_loopw [8] (fun i wr => ∃ k : Nat, k ≤ L.length ∧ i = .int .i64 k ∧ Hid (badFrom 0 L = badFrom k (L.drop k)) ∧ w = wr) (fun i _ => L.length - (intOf i).toNat)
 case atStart => exact ⟨0, Nat.zero_le _, rfl, rfl, rfl⟩
 case round =>
  obtain ⟨k, hk, rfl, hi, rfl⟩ := hrel
  by_cases hlt : k < L.length
  ·obtain ⟨b, off, rfl, hB, hc⟩ := HR.out.at_ btC_length (by omega) hlt
   have c0 := hc 0 _ rfl
   rw [Nat.add_zero, Nat.mul_one] at c0
   clear hc
   have hst : badFrom k (L.drop k) = if 63 < L[k] then (k : Int) else badFrom (k + 1) (L.drop (k + 1)) := by
    rw [List.drop_eq_getElem_cons hlt, badFrom]
   have HS := zz hst
   clear hst
   obtain ⟨x, hx⟩ : ∃ x, L[k] = x := ⟨_, rfl⟩
   rw [hx] at c0 HS
   cases hin : decide (63 < x) with
   | true =>
    have HI := zz hin
    clear hin
    go_wp2_with (first | (refine (HC.out x _).mono ?_; rintro e w1 ⟨rfl, rfl⟩; rw [HI.out]))
    go_ret
    exact ⟨ret_int (by rw [hi.out, HS.out, if_pos (of_decide_eq_true HI.out)]), rfl⟩
   | false =>
    have HI := zz hin
    clear hin
    go_wp2_with (first | (refine (HC.out x _).mono ?_; rintro e w1 ⟨rfl, rfl⟩; rw [HI.out]))
    go_roundw
    case rel => exact ⟨k + 1, by omega, by go_num, (show _ = _ by rw [hi.out, HS.out, if_neg (of_decide_eq_false HI.out)]), trivial⟩
    case measure => simp [intOf]; omega
  ·have e0 : badFrom 0 L = -1 := by rw [hi.out, List.drop_of_length_le (by omega), badFrom]
   have E0 := zz e0
   clear e0
   go_wp2
   go_ret
   exact ⟨ret_int E0.out.symm, rfl⟩
theorem tCF_any (A : Option Addr) (c : Nat) (L : List Nat) (w : World) (hn : L.length ≤ 1000000) (hr : Rd w w.heap.size A (L.flatMap btC)) :
  Calls Tryz.prog 142 #[.slice A L.length c, .func (.func 141) #[] #[]] w fun e w' => e = .returned (.bool (badB L)) ∧ w = w' := by
 have HC := zz (tIF_any A c L w hn hr)
 have hbd := badFrom_bd L 0
 have hif := badFrom_iff L 0
 obtain ⟨z, hz⟩ : ∃ z, badFrom 0 L = z := ⟨_, rfl⟩
 rw [hz] at hbd hif HC
 clear hr hz
 by_cases h0 : 0 ≤ z
 ·have HB := zz (show badB L = true by rw [← hif]; exact h0)
  clear hif
  go_enter Tryz.func142, Tryz.ntmps142
  go_wp2_with (first | (refine HC.out.mono ?_; rintro e w1 ⟨rfl, rfl⟩))
  go_ret
  exact ⟨ret_bool HB.out.symm, rfl⟩
 ·have HB := zz (show badB L = false by cases h : badB L with
   | false => rfl
   | true => exact absurd (hif.mpr h) h0)
  clear hif
  go_enter Tryz.func142, Tryz.ntmps142
  go_wp2_with (first | (refine HC.out.mono ?_; rintro e w1 ⟨rfl, rfl⟩))
  go_ret
  exact ⟨ret_bool (by rw [HB.out]; simpa using h0), rfl⟩
theorem known_any (s d : Int) (A B : Option Addr) (n c m c' : Nat) (w : World) (hd : 0 ≤ d ∧ d ≤ 8) (hn : n ≤ 1000000) (hm : m ≤ 1000000) :
  Calls Tryz.prog 70 #[.agg #[.int .u32 s, .int .i64 d, .slice A n c, .slice B m c']] w fun e w' => e = .returned (.int .i64 (d + (min n m : Nat))) ∧ Below w.heap.size w w' := by
 go_enter Tryz.func70, Tryz.ntmps70
 go_wp2
 all_goals
  go_ret
  exact ⟨ret_int (by omega), (by repeat (first | exact Below.refl _ _ | (with_reducible assumption) | apply bAlloc | apply below_drewN | apply Below.drew))⟩
end
section
open Go.RowKit Go.WideShapes Go.ChangeShapes
theorem bounds_u8 {n : Int} (h : (Lit.int .u8 n).wf = true) : 0 ≤ n ∧ n ≤ 255 := by
 have : IntKind.u8.min ≤ n ∧ n ≤ IntKind.u8.max := by simpa [Lit.wf] using h
 exact this
end
section
section
variable {P : Program} {ops : Array Oper} {md : Region.Mode} {w : World} {kd : Nat → Kd} {sp : Nat → Told}
def waitsT (md : Region.Mode) (ops : Array Oper) : Nat → Nat → Nat → Bool
 | 0, j, i => Region.waitsFor md ops j i
 | n + 1, j, i => Region.waitsFor md ops j i || (List.range ops.size).any fun k => Region.waitsFor md ops j k && waitsT md ops n k i
def Closed (md : Region.Mode) (ops : Array Oper) (listed : Array Bool) : Prop := ∀ j oj, ops[j]? = some oj → listed.getD j false = true → ∀ e ∈ oj.after, Region.binds md e = true → listed.getD e.on false = true
theorem Closed.none (md : Region.Mode) (ops : Array Oper) (n : Nat) : Closed md ops (Array.replicate n false) := fun j _ _ h => by
 rw [Array.getD_eq_getD_getElem?, Array.getElem?_replicate] at h
 split at h <;> simp at h
theorem Closed.set {listed : Array Bool} (h : Closed md ops listed) {i : Nat} (hi : i ∈ Region.ready md ops listed) : Closed md ops (listed.setIfInBounds i true) := fun j oj hj hl e he hb => by
 by_cases hij : i = j
 ·subst hij
  obtain ⟨-, o, ho, hall⟩ := mem_ready.1 hi
  obtain rfl : o = oj := Option.some.inj (ho.symm.trans hj)
  exact getD_set_true (hall e he hb)
 ·rw [getD_set_ne false hij] at hl
  exact getD_set_true (h j oj hj hl e he hb)
theorem waitsT_done {listed : Array Bool} (h : Closed md ops listed) : ∀ (n j i : Nat), (∀ oj, ops[j]? = some oj → ∀ e ∈ oj.after, Region.binds md e = true → listed.getD e.on false = true) → waitsT md ops n j i = true → listed.getD i false = true
 | 0, j, i, hd, hw => by
  obtain ⟨oj, hoj, e, he, hb, hon⟩ := Region.waitsFor_spec hw
  rw [← hon]; exact hd oj hoj e he hb
 | n + 1, j, i, hd, hw => by
  simp only [waitsT, Bool.or_eq_true, List.any_eq_true, Bool.and_eq_true] at hw
  rcases hw with hw | ⟨k, -, hk, hw⟩
  ·obtain ⟨oj, hoj, e, he, hb, hon⟩ := Region.waitsFor_spec hw
   rw [← hon]; exact hd oj hoj e he hb
  ·obtain ⟨oj, hoj, e, he, hb, hon⟩ := Region.waitsFor_spec hk
   have hkl : listed.getD k false = true := by rw [← hon]; exact hd oj hoj e he hb
   exact waitsT_done h n k i (fun ok hok e he hb => h k ok hok hkl e he hb) hw
theorem waitsT_ready {listed : Array Bool} (h : Closed md ops listed) (n j i : Nat) (hj : j ∈ Region.ready md ops listed) (hw : waitsT md ops n j i = true) : listed.getD i false = true :=
 waitsT_done h n j i (fun oj hoj e he hb => by
  obtain ⟨-, o, ho, hall⟩ := mem_ready.1 hj
  obtain rfl : o = oj := Option.some.inj (ho.symm.trans hoj)
  exact hall e he hb) hw
theorem wpAnyKT_first {E : Act → (World → Prop) → Prop} {i : Nat} {oi : Oper} (hi : ops[i]? = some oi) (hsel : ∀ (j : Nat) (o : Oper) cs b, ops[j]? = some o → o.op ≠ .select cs b)
  (hsw : ∀ j, j < ops.size → j ≠ i → swapOk (kd i) (kd j) = false → waitsT md ops 2 j i = true ∨ waitsT md ops 2 i j = true) :
  ∀ (f : Nat) (listed : Array Bool) (a : Act) (D : World → Prop), Ne D → Closed md ops listed →
   (∀ j oj, ops[j]? = some oj → j ≠ i → listed.getD j true = false → (∀ e ∈ oj.after, Region.binds md e = true → e.on ≠ i) → oi.apart ops oj = true) →
   i ∈ Region.ready md ops listed → mOp P ops w kd sp i (wpAnyK P md ops w kd sp E f (listed.setIfInBounds i true)) a D → wpAnyK P md ops w kd sp E (f + 1) listed a D := by
 intro f
 induction f with
 | zero =>
  intro listed a D hne _ _ hr H
  refine ⟨fun h => (by rw [h] at hr; cases hr), fun j hj => ?_⟩
  by_cases hji : j = i
  ·subst hji; exact H
  ·unfold mOp at H
   rw [hi] at H
   obtain ⟨a', D', -, h0, -⟩ := mStep_some hne H
   have := ready_mono hj hji
   rw [h0] at this; cases this
 | succ f ih =>
  intro listed a D hne hcl hfree hr H
  refine ⟨fun h => (by rw [h] at hr; cases hr), fun j hj => ?_⟩
  by_cases hji : j = i
  ·subst hji; exact H
  ·obtain ⟨hjun, oj, hoj, hall⟩ := mem_ready.1 hj
   have hun := (mem_ready.1 hr).1
   have hnot : ∀ e ∈ oj.after, Region.binds md e = true → e.on ≠ i := fun e he hb heq => by
    have h1 := hall e he hb
    rw [heq, getD_both hun] at h1
    cases h1
   have hap := hfree j oj hoj hji hjun hnot
   have hswap : swapOk (kd i) (kd j) = true := by
    cases hs : swapOk (kd i) (kd j) with
    | true => rfl
    | false =>
     rcases hsw j (Array.getElem?_eq_some_iff.1 hoj).1 hji hs with h1 | h1
     ·have h2 := waitsT_ready hcl 2 j i hj h1
      rw [getD_both hun] at h2; cases h2
     ·have h2 := waitsT_ready hcl 2 i j hr h1
      rw [getD_both hjun] at h2; cases h2
   have hfree' : ∀ k ok, ops[k]? = some ok → k ≠ i → (listed.setIfInBounds j true).getD k true = false →
     (∀ e ∈ ok.after, Region.binds md e = true → e.on ≠ i) → oi.apart ops ok = true := fun k ok hk hki hun' hno => by
    refine hfree k ok hk hki ?_ hno
    by_cases hjk : j = k
    ·subst hjk; exact hjun
    ·rw [getD_set_ne true hjk] at hun'; exact hun'
   have hri := ready_mono hr (Ne.symm hji)
   unfold mOp at H
   rw [hi] at H
   have H2 : mStep P ops w kd sp oi i (fun a1 D1 => mStep P ops w kd sp oj j (wpAnyK P md ops w kd sp E f ((listed.setIfInBounds i true).setIfInBounds j true)) a1 D1) a D :=
    mStep_mono hne (fun a1 D1 _ hK => by
     have := hK.2 j (ready_mono hj hji)
     unfold mOp at this
     rw [hoj] at this
     exact this) H
   have H3 := mStep_swap hap (fun cs b => hsel i oi cs b hi) (fun cs b => hsel j oj cs b hoj) hswap hne H2
   unfold mOp
   rw [hoj]
   refine mStep_mono hne (fun a2 D2 hne2 h3 => ih (listed.setIfInBounds j true) a2 D2 hne2 (hcl.set hj) hfree' hri ?_) H3
   unfold mOp
   rw [hi, Array.setIfInBounds_comm _ _ hji]
   exact h3
def mixTB (md : Region.Mode) (ops : Array Oper) (kd : Nat → Kd) : Bool :=
 Region.lexB md ops && (List.range ops.size).all fun i => (List.range ops.size).all fun j => decide (j = i) || (swapOk (kd i) (kd j) || (waitsT md ops 2 j i || waitsT md ops 2 i j))
theorem wpAnyKT_lex {E : Act → (World → Prop) → Prop} (hs : Region.noSelect ops = true) (hsw : ∀ i j, i < ops.size → j < ops.size → j ≠ i → swapOk (kd i) (kd j) = false → waitsT md ops 2 j i = true ∨ waitsT md ops 2 i j = true) :
  ∀ (l : List Oper) (k : Nat) (listed : Array Bool) (a : Act) (D : World → Prop), Ne D → Closed md ops listed → (∀ j, l[j]? = ops[k + j]?) →
  Region.lexFrom md ops l.length k listed = true → wpMix P ops w kd sp E l k a D → wpAnyK P md ops w kd sp E l.length listed a D
 | [], _, _, _, _, _, _, _, hB, h => ⟨by simpa [Region.lexFrom] using hB, h⟩
 | o :: l, k, listed, a, D, hne, hcl, hl, hB, h => by
  have h0 : ops[k]? = some o := by simpa using (hl 0).symm
  simp only [zH, Region.lexFrom, Bool.and_eq_true] at hB
  obtain ⟨⟨hr, hf⟩, hB'⟩ := hB
  have hk : k < ops.size := (Array.getElem?_eq_some_iff.1 h0).1
  refine wpAnyKT_first h0 (Region.noSelect_spec hs) (fun j hjl hj hsw' => hsw k j hk hjl hj hsw') l.length listed a D hne hcl (Region.free_spec h0 hf) (by simpa using hr) ?_
  unfold mOp
  rw [h0]
  exact mStep_mono hne (fun a' D' hne' h' => wpAnyKT_lex hs hsw l (k + 1) _ a' D' hne' (hcl.set (by simpa using hr)) (fun j => by have := hl (j + 1); simpa [Nat.add_assoc, Nat.add_comm 1 j] using this) hB' h') h
theorem wp_region_mixedT {id : Nat} {Q : Exit → Act → World → Prop} {a : Act} {w : World} {l : List Oper} (kds : List Kd) (sp : Nat → Told) (hm : P.follows .mixedOrders = true) (hB : mixTB .any l.toArray (fun i => kds.getD i .pure) = true)
  (h : wpMix P l.toArray w (fun i => kds.getD i .pure) sp (fun a D => ∀ W, D W → Q .normal a W) l 0 a (Grown w)) : (Code.region id l.toArray true).wp P Q a w := by
 simp only [mixTB, Bool.and_eq_true] at hB
 obtain ⟨hlex, hall⟩ := hB
 simp only [Region.lexB, Bool.and_eq_true] at hlex
 have hg0 : Grown w { w with drawn := w.drawn + 1 } := (Below.refl _ _).drew
 refine wp_region_any hm (wpAny_of_K (w := w) (kd := fun i => kds.getD i .pure) (sp := sp) _ _ _ (Grown w) _ hg0 ?_)
 have := wpAnyKT_lex (P := P) (md := .any) (w := w) (kd := fun i => kds.getD i .pure) (sp := sp) (E := fun a D => ∀ W, D W → Q .normal a W) hlex.1 (fun i j hi hjl hj hs => by
  have h1 := List.all_eq_true.1 (List.all_eq_true.1 hall i (List.mem_range.2 hi)) j (List.mem_range.2 hjl)
  simp only [Bool.or_eq_true, decide_eq_true_eq] at h1
  rcases h1 with h1 | h1 | h1 | h1
  ·exact absurd h1 hj
  ·rw [hs] at h1; cases h1
  ·exact .inl h1
  ·exact .inr h1) l 0 (Array.replicate l.toArray.size false) a (Grown w) ⟨w, Grown.refl w⟩ (Closed.none _ _ _) (by simp) (by simpa using hlex.2) h
 simpa using this
end
end
section
section
variable {P : Program} {a : Act} {o : Oper}
theorem runs_built (t : TypeId) (parts : List (Nat × Operand)) (ho : o.op = .build t parts.toArray) (cells : Array Value)
  (vs : List (Nat × Value)) (hv : parts.map (fun (i, x) => (i, a.eval x)) = vs) (hc : P.built t vs = some cells) (W : World) : RunsTo P o a W (.agg cells) := by
 have e : ((parts.toArray.map fun (i, x) => (i, a.eval x)).toList) = vs := by rw [← hv]; simp
 unfold RunsTo execOp
 simp only [ho, Sem.run_bind, run_build W t _ cells (by rw [e]; exact hc), Result.andThen_ok, Sem.run_pure]
theorem mix_built {ops : Array Oper} {w : World} {kd : Nat → Kd} {sp : Nat → Told} {E : Act → (World → Prop) → Prop} {rest : List Oper} {k : Nat} {D : World → Prop} (hw : Region.wanted o (yielded ops a.tmps) = true) (hk : kd k = .pure) (t : TypeId) (parts : List (Nat × Operand)) (ho : o.op = .build t parts.toArray) (cells : Array Value)
  (vs : List (Nat × Value)) (hv : parts.map (fun (i, x) => (i, a.eval x)) = vs) (hc : P.built t vs = some cells)
  (h : wpMix P ops w kd sp E rest (k + 1) (a.put o.dst (.agg cells)) D) : wpMix P ops w kd sp E (o :: rest) k a D := by
 unfold wpMix mStep
 rw [if_pos hw, hk]
 exact ⟨_, runs_built t parts ho cells vs hv hc, h⟩
end
end
end Go.Proofs.YtibeihcpehikoaaGreat
