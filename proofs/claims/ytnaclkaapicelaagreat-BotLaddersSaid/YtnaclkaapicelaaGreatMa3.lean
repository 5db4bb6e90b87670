/-
  The walks beneath: AppAny, Clone, Mix, Name, Pl, MixT, MixB, MixF, MixG, OpenInt, OpenSt, StEq.
-/
import Derived.RegionTactic
import Derived.OwnWalk
import Derived.StillTail
import Derived.Deep.MidRow
import Derived.Laws.Tables
import Derived.DeepKeys
import Derived.WalkKit
import Derived.OpenShut
import Derived.Test.YtnaclkaapicelaaGreatOwn
import Derived.Test.YtnaclkaapicelaaGreatEventIns
import Derived.Test.YtnaclkaapicelaaGreatMild
import Derived.Test.YtnaclkaapicelaaGreatRow
import Derived.Test.YtnaclkaapicelaaGreatGameR
import Derived.Test.YtnaclkaapicelaaGreatEv
import Derived.Test.YtnaclkaapicelaaGreatState
namespace Go.Proofs.YtnaclkaapicelaaGreat
open Go.RowKit

section
variable {P : Program}
theorem append_nil_src (w : World) (base : Nat) (t ty e : TypeId) (i : TypeInfo) (size : Nat) (ht : P.underlying t = some (.slice e)) (hi : P.info? e = some i) (v : Value) (n : Nat) (xs : List Value) (hown : w.ownsRow base e size v n xs) (c : Nat) :
    (Builtin.append_ #[t, t] ty #[v, .slice none 0 c]).run P w = .ok v w := by
  rcases hown.2 with ⟨rfl, rfl⟩ | ⟨g, cap, cur, rfl, _, _, hnc, _⟩
  · simp [Builtin.append_, run_underlying ht, sizeOf, typeInfo, hi, Builtin.lenOf, Builtin.firstCells]
  · simp [Builtin.append_, run_underlying ht, sizeOf, typeInfo, hi, Builtin.lenOf, Builtin.firstCells, hnc, storeCells]
theorem append_rd_run (w : World) (base : Nat) (t ty e : TypeId) (i : TypeInfo) (z : Value) (size bytes : Nat) (ht : P.underlying t = some (.slice e)) (hi : P.info? e = some i) (hz : i.zero = some z)
    (hsize : i.size = size) (hby : i.bytes = bytes) (hzs : z.cells.size = size) (hsz : 0 < size) (v : Value) (n : Nat) (xs : List Value) (hown : w.ownsRow base e size v n xs)
    (B : Nat) (A : Option Addr) (m c : Nat) (news : List Value) (hl : news.length = m * size) (hr : Rd w B A news) (hA : A = none → m = 0) (h1 : ∀ u ∈ news, u.oneCell' = true) (h63 : n + m ≤ maxLen) (hbytes : (n + m) * bytes ≤ 140737488355328) (hbase : base ≤ w.heap.size) :
    ∃ v' w', (Builtin.append_ #[t, t] ty #[v, .slice A m c]).run P w = .ok v' w' ∧ w'.ownsRow base e size v' (n + m) (xs ++ news) ∧ w.grownBy w' v.ownBlock ∧ (v'.ownBlock = v.ownBlock ∨ v'.ownBlock = some w.heap.size) := by
  rcases A with _ | ad
  · obtain rfl := hA rfl
    obtain rfl : news = [] := List.eq_nil_of_length_eq_zero (by simpa using hl)
    exact ⟨v, w, append_nil_src w base t ty e i size ht hi v n xs hown c, by simpa using hown, World.grownBy.refl w _, .inl rfl⟩
  · have hcells : ∀ j u, news[j]? = some u → w.cell? (ad.add j) = some u := by
      intro j u hu
      obtain ⟨b, off, h, _, hc⟩ := hr (fun h0 => by rw [h0] at hu; simp at hu)
      injection h with h
      subst h
      rw [Go.WideShapes.add_plain]
      exact hc j u hu
    obtain ⟨v', w', hrun, h2, h3, _, h5⟩ := run_append_own_at (P := P) w base t ty e i z size bytes ht hi hz hsize hby hzs hsz v n xs hown ad m c news hl hcells h1 h63 hbytes hbase
    exact ⟨v', w', hrun, h2, h3, h5⟩
/-- 'append(s, x...)': s a row of the call's own, x any slice that reads. -/
theorem wpList_append_rd {w : World} {ops : Array Oper} {rest : List Oper} {o : Oper} {a : Act} {Q : Exit → Act → World → Prop} (hgd : o.guard = none) (s x : Operand) (t : TypeId)
    (ho : o.op = .call { callee := .builtin .append, args := #[s, x], argTypes := #[t, t] })
    (base : Nat) (e : TypeId) (i : TypeInfo) (z : Value) (size bytes : Nat) (ht : P.underlying t = some (.slice e)) (hi : P.info? e = some i) (hz : i.zero = some z)
    (hsize : i.size = size) (hby : i.bytes = bytes) (hzs : z.cells.size = size) (hsz : 0 < size)
    (v : Value) (n : Nat) (xs : List Value) (hs : a.eval s = v) (hown : w.ownsRow base e size v n xs)
    (B : Nat) (A : Option Addr) (m c : Nat) (news : List Value) (hx : a.eval x = .slice A m c) (hl : news.length = m * size) (hr : Rd w B A news) (hA : A = none → m = 0) (h1 : ∀ u ∈ news, u.oneCell' = true)
    (h63 : n + m ≤ maxLen) (hbytes : (n + m) * bytes ≤ 140737488355328) (hbase : base ≤ w.heap.size)
    (h : ∀ v' w', w'.ownsRow base e size v' (n + m) (xs ++ news) → w.grownBy w' v.ownBlock → (v'.ownBlock = v.ownBlock ∨ v'.ownBlock = some w.heap.size) → wpList P ops Q rest (a.put o.dst v') w') : wpList P ops Q (o :: rest) a w :=
  wpList_plain hgd fun _ hK => by
    obtain ⟨v', w', hrun, h2, h3, h4⟩ := append_rd_run (P := P) w base t o.type e i z size bytes ht hi hz hsize hby hzs hsz v n xs hown B A m c news hl hr hA h1 h63 hbytes hbase
    unfold Oper.wp execOp
    simp only [ho, resolve, invoke, builtin, Sem.run_bind, Sem.run_pure, Result.andThen_ok, List.map_toArray, List.map_cons, List.map_nil, hs, hx, hrun]
    exact hK _ _ (h v' w' h2 h3 h4)
end
section
variable {α : Type} {w w' : World} {base : Nat} {E : TypeId} {m : Nat} {v : Value} {f : α → List Value} {l : List α}
theorem OwnL.app {k : List α} {n : Nat} (hn : n = l.length + k.length) (h : w.ownsRow base E m v n (l.flatMap f ++ k.flatMap f)) : OwnL w base E m v f (l ++ k) := by
  unfold OwnL
  rw [List.length_append, List.flatMap_append, ← hn]
  exact h
end
theorem rd_none {α : Type} {f : α → List Value} {m : Nat} (hf : ∀ a, (f a).length = m) (hm : 0 < m) {w : World} {B : Nat} {A : Option Addr} {l : List α} (h : Rd w B A (l.flatMap f)) (hA : A = none) : l.length = 0 := by
  rcases Nat.eq_zero_or_pos l.length with h0 | h0
  · exact h0
  · obtain ⟨b, off, e, -⟩ := h.at_ hf hm (k := 0) h0
    rw [hA] at e; cases e
end Go.Proofs.YtnaclkaapicelaaGreat

namespace Go.Proofs.YtnaclkaapicelaaGreat
open Go.RowKit
set_option maxRecDepth 100000
set_option maxHeartbeats 1000000 in
theorem clone_any (A : Option Addr) (c : Nat) (L : List Ev) (w : World) (hl : L.length ≤ 100000) (hr : Rd w w.heap.size A (L.flatMap Ev.cells)) :
    Calls Tryz.prog 67 #[.slice A L.length c] w fun e w' => ∃ A' c', e = .returned (.slice A' L.length c') ∧ OwnL w' w.heap.size 65 9 (.slice A' L.length c') Ev.cells L ∧ Below w.heap.size w w' := by
  obtain ⟨i0, hi0, hz0, hz1, hz2⟩ := info_parts Tryz.infoEv
  rcases A with _ | ad
  · have h0 := rd_none Ev.cells_length (by decide) hr rfl
    have : L = [] := List.eq_nil_of_length_eq_zero h0
    subst this
    have hn := fun (w : World) => Lib.run_eql_slice_nil (P := Tryz.prog) w 36 65 none 0 c 0 0 Tryz.underlying36
    clear hr hl h0
    go_enter Tryz.func67, Tryz.ntmps67
    go_wp2
    go_ret
    exact ⟨none, 0, rfl, OwnL.nil, Below.refl _ _⟩
  · have hn := fun (w : World) => Lib.run_eql_slice_nil (P := Tryz.prog) w 36 65 (some ad) L.length c 0 0 Tryz.underlying36
    have HR := Lib.hid (hr.below (bAlloc (Below.refl w.heap.size w) (.cells #[] 65)) (Nat.le_refl _))
    have HOWN : Hid (World.ownsRow (w.alloc (.cells #[] 65)) w.heap.size 65 9 (.slice (some ⟨w.heap.size, 0, none⟩) 0 0) 0 []) := Lib.hid (OwnL.lit (f := Ev.cells) (m := 9) (n := 0) (c := 0) [] #[] (Nat.le_refl _) (by simp [maxLen]) Ev.cells_length rfl rfl rfl)
    obtain ⟨n, hnl⟩ : ∃ n, L.length = n := ⟨_, rfl⟩
    rw [hnl] at hl hn ⊢
    have HN := Lib.hid hnl
    have HI := Lib.hid hi0
    have HZ0 := Lib.hid hz0
    have HZ1 := Lib.hid hz1
    have HZ2 := Lib.hid hz2
    clear hr hnl hi0 hz0 hz1 hz2
    go_enter Tryz.func67, Tryz.ntmps67
    go_wp2_with (first
      | (at_builtin; refine wpList_append_rd rfl (.tmp 5) (.tmp 6) 36 rfl w.heap.size 65 i0 _ 9 72 Tryz.underlying36 HI.out HZ0.out HZ1.out HZ2.out rfl (by decide) (.slice (some ⟨w.heap.size, 0, none⟩) 0 0) 0 [] rfl HOWN.out w.heap.size (some ad) n c (L.flatMap Ev.cells) rfl (by rw [length_flatMap_const _ 9 Ev.cells_length, HN.out]) HR.out (fun e => by cases e) (ev_oneCells L) (by simp [maxLen]; omega) (by omega) (by simp) ?_; intro v1 w1 hown1 hg1 hat1))
    have hb1 : Below w.heap.size w w1 := (bAlloc (Below.refl _ _) _).grown hg1 (by simp) (by intro k hk; simp [Value.ownBlock] at hk; omega)
    have ho : OwnL w1 w.heap.size 65 9 v1 Ev.cells L := by
      have := OwnL.app (l := []) (k := L) (n := 0 + n) (by rw [HN.out]; simp) (by simpa using hown1)
      simpa using this
    obtain ⟨A', c', rfl⟩ := ho.shape
    rw [HN.out] at ho ⊢
    have HO := Lib.hid ho
    have HB := Lib.hid hb1
    clear ho hb1 hown1 hg1 hat1 hn
    go_wp2
    go_ret
    exact ⟨A', c', rfl, HO.out, HB.out⟩
set_option maxHeartbeats 1000000 in
theorem list_any (gp : Nat) (F : Int) (A : Option Addr) (n c : Nat) (L : List Ev) (base : Nat) (w : World) (hP : Blk w gp 107 #[.int .i64 F, .slice A n c]) (hA : OwnL w base 65 9 (.slice A n c) Ev.cells L) (hl : L.length ≤ 100000) :
    Calls Tryz.prog 29 #[.pointer (some ⟨gp, 0, none⟩)] w fun e w' => ∃ A' c', e = .returned (.slice A' L.length c') ∧ OwnL w' w.heap.size 65 9 (.slice A' L.length c') Ev.cells L ∧ Below w.heap.size w w' := by
  have p1 := hP.cell 1
  simp only [List.getElem?_toArray, List.getElem?_cons_zero, List.getElem?_cons_succ] at p1
  have hpl := hP.lt
  have hlen := hA.len
  have HC := Lib.hid (clone_any A c L w hl hA.rd)
  have HN := Lib.hid hlen
  clear hP hA hlen
  go_enter Tryz.func29, Tryz.ntmps29
  go_wp2_with (first | (go_at_call 67; rw [HN.out]; refine HC.out.mono ?_; rintro e w1 ⟨A', c', rfl, ho, hb1⟩))
  have HO := Lib.hid ho
  have HB := Lib.hid hb1
  clear ho hb1
  go_wp2
  go_ret
  exact ⟨A', c', rfl, HO.out, HB.out⟩
end Go.Proofs.YtnaclkaapicelaaGreat

namespace Go.Proofs.YtnaclkaapicelaaGreat
open Go.RowKit
section
variable {P : Program} {ops : Array Oper} {md : Region.Mode} {C : World → Prop}
def wpAnyM (P : Program) (md : Region.Mode) (ops : Array Oper) (C : World → Prop) (n : Nat) (L : Array Bool → Act → Prop) : Nat → Array Bool → Act → Prop
  | 0, listed, a => L listed a
  | f + 1, listed, a =>
    Region.ready md ops listed ≠ [] ∧ ∀ i ∈ Region.ready md ops listed, i < n ∧ qOp P ops C i (wpAnyM P md ops C n L f (listed.setIfInBounds i true)) a
theorem wpAny_of_headM {n g : Nat} {L : Array Bool → Act → Prop} {Q' : Exit → Act → World → Prop} (hL : ∀ listed a w, C w → L listed a → wpAny P md ops Q' g listed a w) :
    ∀ (f : Nat) (listed : Array Bool) (a : Act) (w : World), C w → wpAnyM P md ops C n L f listed a → wpAny P md ops Q' (f + g) listed a w
  | 0, listed, a, w, hw, h => by rw [Nat.zero_add]; exact hL _ _ _ hw h
  | f + 1, listed, a, w, hw, h => by
    rw [show f + 1 + g = (f + g) + 1 by omega]
    exact ⟨fun h0 => absurd h0 h.1, fun i hi => wpOp_of_qOp hw (fun a' w' hw' h' => wpAny_of_headM hL f _ a' w' hw' h') (h.2 i hi).2⟩
theorem wpAnyM_first {n i : Nat} {oi : Oper} {v : Value} {L : Array Bool → Act → Prop} (hi : ops[i]? = some oi) (hsel : ∀ (j : Nat) (o : Oper) cs b, ops[j]? = some o → o.op ≠ .select cs b)
    (hs : Region.sinkB md ops n = true) (hc : Region.chainB md ops n = true) (hn : n < ops.size) (hin : i < n)
    (hdone : ∀ listed a, L listed a → ∀ j ∈ Region.ready md ops listed, n ≤ j) :
    ∀ (f : Nat) (listed : Array Bool) (a : Act), HeadInv md ops n listed →
      (∀ j oj, ops[j]? = some oj → j ≠ i → listed.getD j true = false → (∀ e ∈ oj.after, Region.binds md e = true → e.on ≠ i) → oi.apart ops oj = true) →
      i ∈ Region.ready md ops listed → YieldsIn P ops C oi v a →
      wpAnyM P md ops C n L f (listed.setIfInBounds i true) (a.put oi.dst v) → wpAnyM P md ops C n L (f + 1) listed a := by
  intro f
  induction f with
  | zero =>
    intro listed a inv _ hr hy H
    refine ⟨fun h => (by rw [h] at hr; cases hr), fun j hj => ?_⟩
    have hun := (mem_ready.1 hr).1
    have hjn : j < n := by
      rcases Nat.lt_or_ge j n with h | h
      · exact h
      · exact absurd hj (tail_waits hs hc hn inv _ i rfl hin hun j h)
    refine ⟨hjn, ?_⟩
    by_cases hji : j = i
    · subst hji; exact hy.qOp hi H
    · have := hdone _ _ H j (ready_mono hj hji)
      omega
  | succ f ih =>
    intro listed a inv hfree hr hy H
    have hun := (mem_ready.1 hr).1
    refine ⟨fun h => (by rw [h] at hr; cases hr), fun j hj => ?_⟩
    have hjn : j < n := by
      rcases Nat.lt_or_ge j n with h | h
      · exact h
      · exact absurd hj (tail_waits hs hc hn inv _ i rfl hin hun j h)
    refine ⟨hjn, ?_⟩
    by_cases hji : j = i
    · subst hji; exact hy.qOp hi H
    · have h1 := (H.2 j (ready_mono hj hji)).2
      obtain ⟨hjun, oj, hoj, hall⟩ := mem_ready.1 hj
      have hnot : ∀ e ∈ oj.after, Region.binds md e = true → e.on ≠ i := fun e he hb heq => by
        have h1 := hall e he hb
        rw [heq, getD_both hun] at h1
        cases h1
      have h2 := qOp_put hoj (hfree j oj hoj hji hjun hnot) (fun cs b => hsel i oi cs b hi) (fun cs b => hsel j oj cs b hoj) hy h1
      have hfree' : ∀ k ok, ops[k]? = some ok → k ≠ i → (listed.setIfInBounds j true).getD k true = false →
          (∀ e ∈ ok.after, Region.binds md e = true → e.on ≠ i) → oi.apart ops ok = true := fun k ok hk hki hun hno => by
        refine hfree k ok hk hki ?_ hno
        by_cases hjk : j = k
        · subst hjk; exact hjun
        · rw [getD_set_ne true hjk] at hun; exact hun
      refine qOp_mono (fun a' h3 => ih (listed.setIfInBounds j true) a' (inv.set hj hjn) hfree' (ready_mono hr (Ne.symm hji)) h3.1 ?_) h2
      rw [Array.setIfInBounds_comm _ _ hji]
      exact h3.2
theorem wpAnyM_lex {n g : Nat} {Lq : Act → Prop} (hsel : Region.noSelect ops = true) (hs : Region.sinkB md ops n = true) (hc : Region.chainB md ops n = true) (hn : n < ops.size) :
    ∀ (l : List Oper) (k : Nat) (listed : Array Bool) (a : Act), (∀ j, j < l.length → l[j]? = ops[k + j]?) → k + l.length = n → HeadInv md ops n listed →
    Region.lexHead md ops g l.length k listed = true → wpQuiet P ops C Lq l a →
    wpAnyM P md ops C n (fun listed' a' => Region.seqB md ops g n listed' = true ∧ Lq a') l.length listed a
  | [], k, listed, a, _, hk, _, hB, h => by
    have : k = n := by simpa using hk
    subst this
    exact ⟨by simpa [Region.lexHead] using hB, h⟩
  | o :: l, k, listed, a, hl, hk, inv, hB, h => by
    have h0 : ops[k]? = some o := by simpa using (hl 0 (by simp)).symm
    simp only [List.length_cons, Region.lexHead, Bool.and_eq_true] at hB
    obtain ⟨⟨hr, hf⟩, hB'⟩ := hB
    have hkn : k < n := by simp only [List.length_cons] at hk; omega
    have hr' : k ∈ Region.ready md ops listed := by simpa using hr
    have hst : qOp P ops C k (wpQuiet P ops C Lq l) a := by unfold qOp; simp only [h0]; exact h
    obtain ⟨v, hy, hK⟩ := yieldsIn_of_qOp h0 hst
    exact wpAnyM_first h0 (Region.noSelect_spec hsel) hs hc hn hkn (fun listed' a' hL => seqB_ready hL.1) l.length listed a inv (Region.free_spec h0 hf) hr' hy
      (wpAnyM_lex hsel hs hc hn l (k + 1) _ _ (fun j hj => by have := hl (j + 1) (by simp; omega); simpa [Nat.add_assoc, Nat.add_comm 1 j] using this) (by simp only [List.length_cons] at hk; omega) (inv.set hr' hkn) hB' hK)
theorem wp_region_quiet_tail {id : Nat} {Q : Exit → Act → World → Prop} {a : Act} {w : World} {l : List Oper} (n : Nat) (hm : P.follows .mixedOrders = true) (hB : Region.lexTailB .any l.toArray n = true) (hC : C { w with drawn := w.drawn + 1 })
    (h : wpQuiet P l.toArray C (fun a' => ∀ w', C w' → wpList P l.toArray Q (l.drop n) a' w') (l.take n) a) : (Code.region id l.toArray true).wp P Q a w := by
  simp only [Region.lexTailB, Bool.and_eq_true, decide_eq_true_eq] at hB
  obtain ⟨⟨⟨⟨hsel, hn⟩, hs⟩, hc⟩, hlex⟩ := hB
  have hn' : n < l.length := by simpa using hn
  have htl : (l.take n).length = n := by simp; omega
  have hdl : (l.drop n).length = l.toArray.size - n := by simp
  have inv0 : HeadInv .any l.toArray n (Array.replicate l.toArray.size false) :=
    ⟨by simp, fun j oj _ hl => (by rw [getD_replicate_false] at hl; cases hl), fun t _ ht => getD_in (by simpa using ht) (getD_replicate_false _ _)⟩
  have H := wpAnyM_lex (md := .any) (g := l.toArray.size - n) hsel hs hc hn (l.take n) 0 _ a (fun j hj => by
    have hj' : j < n := by rw [htl] at hj; exact hj
    simp [hj']) (by simpa using htl) inv0 (by rw [htl]; exact hlex) h
  refine wp_region_any hm ?_
  have := wpAny_of_headM (C := C) (Q' := Q) (g := l.toArray.size - n) (fun listed a' w' hw' hL => by
    have := wpAny_of_seq (md := .any) (Q' := Q) (l.drop n) n listed a' w' (fun j => by simp [List.getElem?_drop]) (by rw [hdl]; exact hL.1) (hL.2 w' hw')
    rwa [hdl] at this) _ _ _ _ hC H
  rw [htl, show n + (l.toArray.size - n) = l.toArray.size by omega] at this
  exact this
theorem wp_region_mild_tail {id : Nat} {w : World} {Q : Exit → Act → World → Prop} {a : Act} {l : List Oper} (n : Nat) (hm : P.follows .mixedOrders = true) (hB : Region.lexTailB .any l.toArray n = true)
    (h : wpQuiet P l.toArray (fun w' => ∃ x : Ext w, w' = x.world) (fun a' => ∀ w', (∃ x : Ext w, w' = x.world) → wpList P l.toArray Q (l.drop n) a' w') (l.take n) a) : (Code.region id l.toArray true).wp P Q a w :=
  wp_region_quiet_tail n hm hB ⟨⟨w.drew, (Below.refl _ _).drew⟩, rfl⟩ h
end
end Go.Proofs.YtnaclkaapicelaaGreat

/-
  Regions that draw their order, in which one operation, the last ahead of those that write, makes what no two worlds make alike (a new row, say): all others ahead of it are walked once, in the text's order; the one is shown from any world that has grown out of the one at hand, and what is told of its value stays so in all that grow out of its own.
-/
namespace Go.Proofs.YtnaclkaapicelaaGreat
open Go.RowKit
def Grown (w W : World) : Prop := Below w.heap.size w W
theorem Grown.refl (w : World) : Grown w w := Below.refl _ _
theorem Grown.trans {w W U : World} (h : Grown w W) (k : Grown W U) : Grown w U := bTrans h k
section
variable {P : Program} {ops : Array Oper} {md : Region.Mode} {w : World}
/-- What an operation does from a world. -/
def Oper.goesUpon (P : Program) (T : Value → World → Prop) : Result Next → Prop
  | .ok (.value v) w' => T v w'
  | .ok .skip w' => T undef w'
  | .ok (.enter f args) w' => Calls P f args w' (fun e w'' => ∃ v, e = .returned v ∧ T v w'')
  | _ => False
def Oper.goes (P : Program) (o : Oper) (a : Act) (W : World) (T : Value → World → Prop) : Prop := Oper.goesUpon P T ((execOp a.eval o).run P W)
theorem Oper.wp_of_goes {o : Oper} {a : Act} {W : World} {T : Value → World → Prop} {K : Act → World → Prop} {Q : Exit → Act → World → Prop} (h : Oper.goes P o a W T) (hk : ∀ v w', T v w' → K (a.put o.dst v) w') : o.wp P a W K Q := by
  unfold Oper.goes at h
  unfold Oper.wp
  generalize (execOp a.eval o).run P W = r at *
  cases r with
  | ok n w' =>
    cases n <;> simp only [Oper.goesUpon] at h <;> simp only [Oper.upon]
    case value u => exact hk _ _ h
    case skip => exact hk _ _ h
    case enter f args => exact h.mono fun e w'' ⟨v, he, ht⟩ => by subst he; exact hk _ _ ht
  | halt x w' => simp only [Oper.goesUpon] at h
/-- A class of worlds that is kept as they grow. -/
structure Keeps (w : World) (D : World → Prop) : Prop where
  out : ∀ W, D W → Grown w W
  grow : ∀ W U, D W → Grown W U → D U
def Fixed (P : Program) (w : World) (o : Oper) (v : Value) (a : Act) : Prop := ∀ W, Grown w W → Oper.goes P o a W (fun u W' => u = v ∧ Grown W W')
def Makes (P : Program) (w : World) (o : Oper) (S : Value → Prop) (R : Value → World → Prop) (a : Act) : Prop := ∀ W, Grown w W → Oper.goes P o a W (fun u W' => (S u ∧ R u W') ∧ Grown W W')
def xOp (P : Program) (ops : Array Oper) (w : World) (x i : Nat) (K : Act → (World → Prop) → Prop) (a : Act) (D : World → Prop) : Prop :=
  match ops[i]? with
  | none => K a D
  | some o => if Region.wanted o (yielded ops a.tmps) then
      (if i = x then ∃ S R, (∀ v W U, R v W → Grown W U → R v U) ∧ Makes P w o S R a ∧ ∀ v, S v → K (a.put o.dst v) (fun W => D W ∧ R v W)
        else ∃ v, Fixed P w o v a ∧ K (a.put o.dst v) D)
      else K (a.put o.dst undef) D
theorem xOp_mono {x i : Nat} {a : Act} {D : World → Prop} {K K' : Act → (World → Prop) → Prop} (h : ∀ a D, K a D → K' a D) (hh : xOp P ops w x i K a D) : xOp P ops w x i K' a D := by
  unfold xOp at *
  split
  · rename_i ho; simp only [ho] at hh; exact h _ _ hh
  · rename_i o ho
    simp only [ho] at hh
    split
    · rename_i hw
      simp only [hw, if_true] at hh
      split
      · rename_i hx
        simp only [hx, if_true] at hh
        obtain ⟨S, R, h1, h2, h3⟩ := hh
        exact ⟨S, R, h1, h2, fun v hv => h _ _ (h3 v hv)⟩
      · rename_i hx
        simp only [hx, if_false] at hh
        obtain ⟨v, h1, h2⟩ := hh
        exact ⟨v, h1, h _ _ h2⟩
    · rename_i hw; simp only [hw] at hh; exact h _ _ hh
def wpAnyX (P : Program) (md : Region.Mode) (ops : Array Oper) (w : World) (x n : Nat) (L : Array Bool → Act → (World → Prop) → Prop) : Nat → Array Bool → Act → (World → Prop) → Prop
  | 0, listed, a, D => L listed a D
  | f + 1, listed, a, D =>
    Region.ready md ops listed ≠ [] ∧ ∀ i ∈ Region.ready md ops listed, i < n ∧ xOp P ops w x i (wpAnyX P md ops w x n L f (listed.setIfInBounds i true)) a D
theorem wpOp_of_xOp {x i : Nat} {a : Act} {D : World → Prop} {K : Act → (World → Prop) → Prop} {K' : Act → World → Prop} {Q' : Exit → Act → World → Prop} {W : World} (hD : Keeps w D) (hW : D W)
    (h : ∀ a D W', Keeps w D → D W' → K a D → K' a W') (hh : xOp P ops w x i K a D) : wpOp P ops Q' i K' a W := by
  unfold xOp at hh
  unfold wpOp
  split
  · rename_i ho; simp only [ho] at hh; exact h _ _ _ hD hW hh
  · rename_i o ho
    simp only [ho] at hh
    split
    · rename_i hw
      simp only [hw, if_true] at hh
      by_cases hx : i = x
      · simp only [hx, if_true] at hh
        obtain ⟨S, R, h1, h2, h3⟩ := hh
        exact .inl (Oper.wp_of_goes (h2 W (hD.out W hW)) fun v W' ⟨⟨hs, hr⟩, hg⟩ => h _ _ _ ⟨fun U hU => hD.out U hU.1, fun U V hU hUV => ⟨hD.grow U V hU.1 hUV, h1 v U V hU.2 hUV⟩⟩ ⟨hD.grow W W' hW hg, hr⟩ (h3 v hs))
      · simp only [hx, if_false] at hh
        obtain ⟨v, h1, h2⟩ := hh
        exact .inl (Oper.wp_of_goes (h1 W (hD.out W hW)) fun u W' ⟨hu, hg⟩ => by subst hu; exact h _ _ _ hD (hD.grow W W' hW hg) h2)
    · rename_i hw; simp only [hw] at hh; exact h _ _ _ hD hW hh
theorem wpAny_of_headX {x n g : Nat} {L : Array Bool → Act → (World → Prop) → Prop} {Q' : Exit → Act → World → Prop} (hL : ∀ listed a D W, Keeps w D → D W → L listed a D → wpAny P md ops Q' g listed a W) :
    ∀ (f : Nat) (listed : Array Bool) (a : Act) (D : World → Prop) (W : World), Keeps w D → D W → wpAnyX P md ops w x n L f listed a D → wpAny P md ops Q' (f + g) listed a W
  | 0, listed, a, D, W, hD, hW, h => by rw [Nat.zero_add]; exact hL _ _ _ _ hD hW h
  | f + 1, listed, a, D, W, hD, hW, h => by
    rw [show f + 1 + g = (f + g) + 1 by omega]
    exact ⟨fun h0 => absurd h0 h.1, fun i hi => wpOp_of_xOp hD hW (fun a' D' W' hD' hW' h' => wpAny_of_headX hL f _ a' D' W' hD' hW' h') (h.2 i hi).2⟩
/-- In state 'a' operation 'o' leaves 'v' in its temporary, whatever world that has grown out of w. -/
def YieldsFx (P : Program) (ops : Array Oper) (w : World) (o : Oper) (v : Value) (a : Act) : Prop :=
  (Region.wanted o (yielded ops a.tmps) = true ∧ Fixed P w o v a) ∨ (Region.wanted o (yielded ops a.tmps) = false ∧ v = undef)
theorem YieldsFx.xOp {x i : Nat} {o : Oper} {v : Value} {a : Act} {D : World → Prop} (hi : ops[i]? = some o) (hx : i ≠ x) (hy : YieldsFx P ops w o v a) {K : Act → (World → Prop) → Prop} (h : K (a.put o.dst v) D) : xOp P ops w x i K a D := by
  unfold Go.Proofs.YtnaclkaapicelaaGreat.xOp
  simp only [hi]
  rcases hy with ⟨hw, hv⟩ | ⟨hw, rfl⟩
  · simp only [hw, if_true, hx, if_false]; exact ⟨v, hv, h⟩
  · simp only [hw, Bool.false_eq_true, if_false]; exact h
theorem YieldsFx.of_same {o : Oper} {v : Value} {a a' : Act} (hy : YieldsFx P ops w o v a) (he : execOp a'.eval o = execOp a.eval o)
    (hw : Region.wanted o (yielded ops a'.tmps) = Region.wanted o (yielded ops a.tmps)) : YieldsFx P ops w o v a' := by
  unfold YieldsFx Fixed Oper.goes at *
  rw [he, hw]
  exact hy
theorem xOp_put {x j : Nat} {oi oj : Oper} {v : Value} (hj : ops[j]? = some oj) (hap : oi.apart ops oj = true)
    (hsi : ∀ cs b, oi.op ≠ .select cs b) (hsj : ∀ cs b, oj.op ≠ .select cs b) {K : Act → (World → Prop) → Prop} {a : Act} {D : World → Prop}
    (hy : YieldsFx P ops w oi v a) (h : xOp P ops w x j K (a.put oi.dst v) D) :
    xOp P ops w x j (fun a' D' => YieldsFx P ops w oi v a' ∧ K (a'.put oi.dst v) D') a D := by
  obtain ⟨h1, h2, h3⟩ := Oper.apart_spec hap
  have keep : ∀ (a : Act), YieldsFx P ops w oi v a → ∀ u, YieldsFx P ops w oi v (a.put oj.dst u) := fun a hy u =>
    hy.of_same (execOp_put oi hsi a oj.dst u h3) (wanted_put oi a oj.dst u h3)
  unfold xOp at *
  simp only [hj] at *
  rw [wanted_put oj a oi.dst v h1] at h
  split
  · rename_i hw
    simp only [hw, if_true] at h
    split
    · rename_i hx
      simp only [hx, if_true] at h
      obtain ⟨S, R, g1, g2, g3⟩ := h
      refine ⟨S, R, g1, fun W hW => ?_, fun u hu => ⟨keep a hy u, by rw [← Act.put_comm a v u h2]; exact g3 u hu⟩⟩
      have := g2 W hW
      unfold Oper.goes at *
      rwa [execOp_put oj hsj a oi.dst v h1] at this
    · rename_i hx
      simp only [hx, if_false] at h
      obtain ⟨u, hu, hn⟩ := h
      refine ⟨u, fun W hW => ?_, keep a hy u, by rw [← Act.put_comm a v u h2]; exact hn⟩
      have := hu W hW
      unfold Oper.goes at *
      rwa [execOp_put oj hsj a oi.dst v h1] at this
  · rename_i hw
    simp only [hw] at h
    exact ⟨keep a hy _, by rw [← Act.put_comm a v undef h2]; exact h⟩
theorem wpAnyX_first {x n i : Nat} {oi : Oper} {v : Value} {L : Array Bool → Act → (World → Prop) → Prop} (hi : ops[i]? = some oi) (hix : i ≠ x) (hsel : ∀ (j : Nat) (o : Oper) cs b, ops[j]? = some o → o.op ≠ .select cs b)
    (hs : Region.sinkB md ops n = true) (hc : Region.chainB md ops n = true) (hn : n < ops.size) (hin : i < n)
    (hdone : ∀ listed a D, L listed a D → ∀ j ∈ Region.ready md ops listed, n ≤ j) :
    ∀ (f : Nat) (listed : Array Bool) (a : Act) (D : World → Prop), HeadInv md ops n listed →
      (∀ j oj, ops[j]? = some oj → j ≠ i → listed.getD j true = false → (∀ e ∈ oj.after, Region.binds md e = true → e.on ≠ i) → oi.apart ops oj = true) →
      i ∈ Region.ready md ops listed → YieldsFx P ops w oi v a →
      wpAnyX P md ops w x n L f (listed.setIfInBounds i true) (a.put oi.dst v) D → wpAnyX P md ops w x n L (f + 1) listed a D := by
  intro f
  induction f with
  | zero =>
    intro listed a D inv _ hr hy H
    refine ⟨fun h => (by rw [h] at hr; cases hr), fun j hj => ?_⟩
    have hun := (mem_ready.1 hr).1
    have hjn : j < n := by
      rcases Nat.lt_or_ge j n with h | h
      · exact h
      · exact absurd hj (tail_waits hs hc hn inv _ i rfl hin hun j h)
    refine ⟨hjn, ?_⟩
    by_cases hji : j = i
    · subst hji; exact hy.xOp hi hix H
    · have := hdone _ _ _ H j (ready_mono hj hji)
      omega
  | succ f ih =>
    intro listed a D inv hfree hr hy H
    have hun := (mem_ready.1 hr).1
    refine ⟨fun h => (by rw [h] at hr; cases hr), fun j hj => ?_⟩
    have hjn : j < n := by
      rcases Nat.lt_or_ge j n with h | h
      · exact h
      · exact absurd hj (tail_waits hs hc hn inv _ i rfl hin hun j h)
    refine ⟨hjn, ?_⟩
    by_cases hji : j = i
    · subst hji; exact hy.xOp hi hix H
    · have h1 := (H.2 j (ready_mono hj hji)).2
      obtain ⟨hjun, oj, hoj, hall⟩ := mem_ready.1 hj
      have hnot : ∀ e ∈ oj.after, Region.binds md e = true → e.on ≠ i := fun e he hb heq => by
        have h1 := hall e he hb
        rw [heq, getD_both hun] at h1
        cases h1
      have h2 := xOp_put hoj (hfree j oj hoj hji hjun hnot) (fun cs b => hsel i oi cs b hi) (fun cs b => hsel j oj cs b hoj) hy h1
      have hfree' : ∀ k ok, ops[k]? = some ok → k ≠ i → (listed.setIfInBounds j true).getD k true = false →
          (∀ e ∈ ok.after, Region.binds md e = true → e.on ≠ i) → oi.apart ops ok = true := fun k ok hk hki hun hno => by
        refine hfree k ok hk hki ?_ hno
        by_cases hjk : j = k
        · subst hjk; exact hjun
        · rw [getD_set_ne true hjk] at hun; exact hun
      refine xOp_mono (fun a' D' h3 => ih (listed.setIfInBounds j true) a' D' (inv.set hj hjn) hfree' (ready_mono hr (Ne.symm hji)) h3.1 ?_) h2
      rw [Array.setIfInBounds_comm _ _ hji]
      exact h3.2
/-- The walk of the text's order, ahead of the one. -/
def wpFx (P : Program) (ops : Array Oper) (w : World) (Q : Act → Prop) : List Oper → Act → Prop
  | [], a => Q a
  | o :: rest, a => if Region.wanted o (yielded ops a.tmps) then ∃ v, Fixed P w o v a ∧ wpFx P ops w Q rest (a.put o.dst v) else wpFx P ops w Q rest (a.put o.dst undef)
theorem wpAnyX_lex {x g : Nat} {Lq : Act → Prop} {L : Array Bool → Act → (World → Prop) → Prop} (hsel : Region.noSelect ops = true) (hs : Region.sinkB md ops (x + 1) = true) (hc : Region.chainB md ops (x + 1) = true) (hn : x + 1 < ops.size)
    (hdone : ∀ listed a D, L listed a D → ∀ j ∈ Region.ready md ops listed, x + 1 ≤ j)
    (D : World → Prop) (hend : ∀ listed a, HeadInv md ops (x + 1) listed → Region.lexHead md ops g 1 x listed = true → Lq a → wpAnyX P md ops w x (x + 1) L 1 listed a D) :
    ∀ (l : List Oper) (k : Nat) (listed : Array Bool) (a : Act), (∀ j, j < l.length → l[j]? = ops[k + j]?) → k + l.length = x → HeadInv md ops (x + 1) listed →
    Region.lexHead md ops g (l.length + 1) k listed = true → wpFx P ops w Lq l a →
    wpAnyX P md ops w x (x + 1) L (l.length + 1) listed a D
  | [], k, listed, a, _, hk, inv, hB, h => by
    have : k = x := by simpa using hk
    subst this
    exact hend listed a inv hB h
  | o :: l, k, listed, a, hl, hk, inv, hB, h => by
    have h0 : ops[k]? = some o := by simpa using (hl 0 (by simp)).symm
    simp only [List.length_cons] at hB
    rw [Region.lexHead] at hB
    simp only [Bool.and_eq_true] at hB
    obtain ⟨⟨hr, hf⟩, hB'⟩ := hB
    have hkx : k < x := by simp only [List.length_cons] at hk; omega
    have hr' : k ∈ Region.ready md ops listed := by simpa using hr
    have hy : ∃ v, YieldsFx P ops w o v a ∧ wpFx P ops w Lq l (a.put o.dst v) := by
      unfold wpFx at h
      by_cases hw : Region.wanted o (yielded ops a.tmps) = true
      · rw [if_pos hw] at h
        obtain ⟨v, h1, h2⟩ := h
        exact ⟨v, .inl ⟨hw, h1⟩, h2⟩
      · rw [if_neg hw] at h
        exact ⟨undef, .inr ⟨by simpa using hw, rfl⟩, h⟩
    obtain ⟨v, hv, hK⟩ := hy
    exact wpAnyX_first h0 (by omega) (Region.noSelect_spec hsel) hs hc hn (by omega) hdone (l.length + 1) listed a D inv (Region.free_spec h0 hf) hr' hv
      (wpAnyX_lex hsel hs hc hn hdone D hend l (k + 1) _ _ (fun j hj => by have := hl (j + 1) (by simp; omega); simpa [Nat.add_assoc, Nat.add_comm 1 j] using this) (by simp only [List.length_cons] at hk; omega) (inv.set hr' (by omega)) hB' hK)
/-- The law: x operations that yield what they yield in every world that has grown out of w.drew, then one whose value is told by S and R, then those that follow, one behind the other. -/
theorem wp_region_mix {id : Nat} {Q : Exit → Act → World → Prop} {a : Act} {w : World} {l : List Oper} (x : Nat) {ox : Oper} (hx : l[x]? = some ox) (S : Value → Prop) (R : Value → World → Prop) (hR : ∀ v W U, R v W → Grown W U → R v U)
    (hm : P.follows .mixedOrders = true) (hB : Region.lexTailB .any l.toArray (x + 1) = true)
    (h : wpFx P l.toArray w (fun a' => Region.wanted ox (yielded l.toArray a'.tmps) = true ∧ Makes P w ox S R a' ∧ ∀ v W, S v → R v W → Grown w W → wpList P l.toArray Q (l.drop (x + 1)) (a'.put ox.dst v) W) (l.take x) a) : (Code.region id l.toArray true).wp P Q a w := by
  simp only [Region.lexTailB, Bool.and_eq_true, decide_eq_true_eq] at hB
  obtain ⟨⟨⟨⟨hsel, hn⟩, hs⟩, hc⟩, hlex⟩ := hB
  have hn' : x + 1 < l.length := by simpa using hn
  have htl : (l.take x).length = x := by simp; omega
  have hdl : (l.drop (x + 1)).length = l.toArray.size - (x + 1) := by simp
  have inv0 : HeadInv .any l.toArray (x + 1) (Array.replicate l.toArray.size false) :=
    ⟨by simp, fun j oj _ hl => (by rw [getD_replicate_false] at hl; cases hl), fun t _ ht => getD_in (by simpa using ht) (getD_replicate_false _ _)⟩
  have hD0 : Keeps w (Grown w) := ⟨fun W h => h, fun W U h k => h.trans k⟩
  have hxo : l.toArray[x]? = some ox := by simpa using hx
  obtain ⟨L, hLdef⟩ : ∃ L : Array Bool → Act → (World → Prop) → Prop, L = fun listed' a' D' => Region.seqB .any l.toArray (l.toArray.size - (x + 1)) (x + 1) listed' = true ∧ ∀ W, D' W → wpList P l.toArray Q (l.drop (x + 1)) a' W := ⟨_, rfl⟩
  have H := wpAnyX_lex (md := .any) (x := x) (g := l.toArray.size - (x + 1)) (L := L) hsel hs hc hn (fun listed a' D' hL => by rw [hLdef] at hL; exact seqB_ready hL.1) (Grown w) (fun listed a' inv hB1 ⟨hw, hM, hK⟩ => by
      simp only [Region.lexHead, Bool.and_eq_true] at hB1
      obtain ⟨⟨hr, hf⟩, hseq⟩ := hB1
      have hr' : x ∈ Region.ready .any l.toArray listed := by simpa using hr
      have hun := (mem_ready.1 hr').1
      refine ⟨fun h => (by rw [h] at hr'; cases hr'), fun j hj => ?_⟩
      have hjx : j = x := by
        rcases Nat.lt_or_ge j (x + 1) with hj1 | hj1
        · by_cases hne : j = x
          · exact hne
          · have := seqB_ready hseq j (ready_mono hj hne)
            omega
        · exact absurd hj (tail_waits hs hc hn inv _ x rfl (by omega) hun j hj1)
      subst hjx
      refine ⟨by omega, ?_⟩
      unfold xOp
      simp only [hxo, hw, if_true]
      refine ⟨S, R, hR, hM, fun v hv => ?_⟩
      show L _ _ _
      rw [hLdef]
      exact ⟨hseq, fun W hW => hK v W hv hW.2 hW.1⟩) (l.take x) 0 _ a (fun j hj => by
    have hj' : j < x := by rw [htl] at hj; exact hj
    simp [hj']) (by simpa using htl) inv0 (by rw [htl]; exact hlex) h
  refine wp_region_any hm ?_
  have hg0 : Grown w { w with drawn := w.drawn + 1 } := (Below.refl _ _).drew
  have := wpAny_of_headX (P := P) (w := w) (x := x) (n := x + 1) (L := L) (Q' := Q) (g := l.toArray.size - (x + 1)) (fun listed a' D' W' hD' hW' hL => by
    rw [hLdef] at hL
    have := wpAny_of_seq (md := .any) (Q' := Q) (l.drop (x + 1)) (x + 1) listed a' W' (fun j => by simp [List.getElem?_drop]) (by rw [hdl]; exact hL.1) (hL.2 W' hW')
    rwa [hdl] at this) _ _ _ _ _ hD0 hg0 H
  rw [htl, show x + 1 + (l.toArray.size - (x + 1)) = l.toArray.size by omega] at this
  exact this
/-! ### the walk's single steps -/
/-- Operations that call nothing, make no goroutine, wait for nobody. -/
def plainOp : Op → Bool
  | .call _ | .go _ | .defer _ | .send .. | .recv .. | .select .. => false
  | _ => true
theorem val_no_enter (s : Sem Value) (W : World) (f : FuncId) (args : Array Value) (w' : World) : (s >>= fun x => (pure (Next.value x) : Sem Next)).run P W ≠ .ok (.enter f args) w' := by
  intro e
  rw [Sem.run_bind] at e
  generalize s.run P W = r at e
  cases r with
  | ok a w1 => simp [Result.andThen] at e
  | halt x w1 => simp [Result.andThen] at e
theorem unit_no_enter (s : Sem Unit) (W : World) (f : FuncId) (args : Array Value) (w' : World) : (s >>= fun _ => (pure Next.skip : Sem Next)).run P W ≠ .ok (.enter f args) w' := by
  intro e
  rw [Sem.run_bind] at e
  generalize s.run P W = r at e
  cases r with
  | ok a w1 => simp [Result.andThen] at e
  | halt x w1 => simp [Result.andThen] at e
theorem no_enter {o : Oper} {ρ : Operand → Value} (h : plainOp o.op = true) (W : World) (f : FuncId) (args : Array Value) (w' : World) : (execOp ρ o).run P W ≠ .ok (.enter f args) w' := by
  obtain ⟨dst, op, ty, pos, after, guard⟩ := o
  cases op
  case call c => simp [plainOp] at h
  case go c => simp [plainOp] at h
  case defer c => simp [plainOp] at h
  case send => simp [plainOp] at h
  case recv => simp [plainOp] at h
  case select => simp [plainOp] at h
  case move x => simp [execOp]
  case assign x => simp [execOp]
  case pick c a b =>
    simp only [execOp, Sem.run_bind]
    generalize (asBool (ρ c)).run P W = r
    cases r <;> simp [Result.andThen]
  case nilCheck x =>
    simp only [execOp]
    have hrt : (runtimePanic .nilDeref : Sem Next).run P W ≠ .ok (.enter f args) w' := by
      simp [runtimePanic, goPanic, Sem.run_bind, run_program, Sem.run]
    split
    · exact hrt
    · exact hrt
    · exact hrt
    · split
      · exact hrt
      · simp only [Sem.run_bind]
        generalize (program).run P W = r
        cases r with
        | halt x w1 => simp [Result.andThen]
        | ok p w1 =>
          simp only [Result.andThen]
          generalize Sem.run P (nilAhead _ _ _ _) w1 = r2
          cases r2 with
          | halt x w2 => simp
          | ok b w2 =>
            simp only
            split
            · simp [unsupported, Sem.run]
            · simp
      · simp
    · simp
  all_goals first
    | exact val_no_enter _ _ _ _ _
    | exact unit_no_enter _ _ _ _ _
theorem wpFx_plain {Q : Act → Prop} {a : Act} {o : Oper} {rest : List Oper} (hw : Region.wanted o (yielded ops a.tmps) = true) (hp : plainOp o.op = true)
    (h : ∀ K : Act → Prop, (∀ a, wpFx P ops w Q rest a → K a) → o.quiet P a (fun w' => ∃ x : Ext w, w' = x.world) K) : wpFx P ops w Q (o :: rest) a := by
  unfold wpFx
  rw [if_pos hw]
  obtain ⟨v, h1, h2⟩ := h _ fun _ h => h
  refine ⟨v, fun W hW => ?_, h2⟩
  have h3 := h1 W ⟨⟨W, hW⟩, rfl⟩
  unfold Oper.quietAt at h3
  unfold Oper.goes
  have hne := no_enter (P := P) (ρ := a.eval) hp W
  generalize (execOp a.eval o).run P W = r at *
  cases r with
  | ok n w' =>
    cases n <;> simp only [Oper.quietUpon] at h3 <;> simp only [Oper.goesUpon]
    case value u => obtain ⟨rfl, rfl⟩ := h3; exact ⟨rfl, Grown.refl _⟩
    case skip => obtain ⟨rfl, rfl⟩ := h3; exact ⟨rfl, Grown.refl _⟩
    case enter f args => exact absurd rfl (hne f args w')
  | halt x w' => simp only [Oper.quietUpon] at h3
theorem wpFx_load {Q : Act → Prop} {a : Act} {o : Oper} {rest : List Oper} (hw : Region.wanted o (yielded ops a.tmps) = true) (ty : TypeId) (x : Operand) (ho : o.op = .load ty x)
    (b i : Nat) (hx : a.eval x = .pointer (some ⟨b, i, none⟩)) (cs : List Value) (d : TypeDesc) (hb : b < w.heap.size) (hc : w.rangeAt b i cs)
    (hu : P.underlying ty = some d) (hd : d.isRow = true) (hi : (P.info? ty).map (·.size) = some cs.length)
    (h : wpFx P ops w Q rest (a.put o.dst (.agg cs.toArray))) : wpFx P ops w Q (o :: rest) a := by
  unfold wpFx
  rw [if_pos hw]
  refine ⟨_, fun W hW => ?_, h⟩
  have hc' : W.rangeAt b i cs := fun j v hv => (Below.cell (p := ⟨b, i + j, none⟩) hW hb).trans (hc j v hv)
  unfold Oper.goes execOp
  simp only [ho, hx, Instr.loadAt, Instr.sureAddr, Sem.run_bind, Sem.run_pure, Result.andThen_ok, run_loadVar_mid W b i ty cs d hc' hu hd hi]
  exact ⟨rfl, Grown.refl _⟩
attribute [go_sem] Oper.goes Oper.goesUpon
end
end Go.Proofs.YtnaclkaapicelaaGreat

namespace Go.Proofs.YtnaclkaapicelaaGreat
open Go.RowKit
inductive Kd where
  | pure
  | held
  | make
  | tail
  deriving DecidableEq
structure Told where
  S : Value → Prop
  R : Value → World → Prop
section
variable {P : Program} {ops : Array Oper} {md : Region.Mode} {w : World} {kd : Nat → Kd} {sp : Nat → Told}
def Ne (D : World → Prop) : Prop := ∃ W, D W
def RunsTo (P : Program) (o : Oper) (a : Act) (W : World) (v : Value) : Prop := (execOp a.eval o).run P W = .ok (.value v) W
def mStep (P : Program) (ops : Array Oper) (w : World) (kd : Nat → Kd) (sp : Nat → Told) (o : Oper) (i : Nat) (K : Act → (World → Prop) → Prop) (a : Act) (D : World → Prop) : Prop :=
  if Region.wanted o (yielded ops a.tmps) = true then
    match kd i with
    | .pure => ∃ v, (∀ W, RunsTo P o a W v) ∧ K (a.put o.dst v) D
    | .held => Keeps w D ∧ ∃ v, (∀ W, Grown w W → RunsTo P o a W v) ∧ K (a.put o.dst v) D
    | .make => Keeps w D ∧ (∀ v W U, (sp i).R v W → Grown W U → (sp i).R v U) ∧ Makes P w o (sp i).S (sp i).R a ∧ ∀ v, (sp i).S v → Ne (fun W => D W ∧ (sp i).R v W) → K (a.put o.dst v) (fun W => D W ∧ (sp i).R v W)
    | .tail => ∃ (S : Value → Prop) (R : Value → World → Prop), (∀ W, D W → Oper.goes P o a W (fun u W' => S u ∧ R u W')) ∧ ∀ v, S v → Ne (R v) → K (a.put o.dst v) (R v)
  else K (a.put o.dst undef) D
def mOp (P : Program) (ops : Array Oper) (w : World) (kd : Nat → Kd) (sp : Nat → Told) (i : Nat) (K : Act → (World → Prop) → Prop) (a : Act) (D : World → Prop) : Prop :=
  match ops[i]? with
  | none => K a D
  | some o => mStep P ops w kd sp o i K a D
theorem mStep_mono {o : Oper} {i : Nat} {a : Act} {D : World → Prop} {K K' : Act → (World → Prop) → Prop} (hne : Ne D) (h : ∀ a D, Ne D → K a D → K' a D) (hh : mStep P ops w kd sp o i K a D) : mStep P ops w kd sp o i K' a D := by
  unfold mStep at *
  split
  · rename_i hw
    rw [if_pos hw] at hh
    cases hk : kd i <;> rw [hk] at hh <;> simp only at hh ⊢
    · obtain ⟨v, h1, h2⟩ := hh; exact ⟨v, h1, h _ _ hne h2⟩
    · obtain ⟨h0, v, h1, h2⟩ := hh; exact ⟨h0, v, h1, h _ _ hne h2⟩
    · obtain ⟨h0, h1, h2, h3⟩ := hh; exact ⟨h0, h1, h2, fun v hv hn => h _ _ hn (h3 v hv hn)⟩
    · obtain ⟨S, R, h1, h2⟩ := hh; exact ⟨S, R, h1, fun v hv hn => h _ _ hn (h2 v hv hn)⟩
  · rename_i hw; rw [if_neg hw] at hh; exact h _ _ hne hh
theorem goes_some {o : Oper} {a : Act} {W : World} {T : Value → World → Prop} (h : Oper.goes P o a W T) : ∃ v W', T v W' := by
  unfold Oper.goes at h
  generalize (execOp a.eval o).run P W = r at *
  cases r with
  | ok n w' =>
    cases n <;> simp only [Oper.goesUpon] at h
    case value u => exact ⟨_, _, h⟩
    case skip => exact ⟨_, _, h⟩
    case enter f args =>
      obtain ⟨e, w'', fr, ⟨v, -, ht⟩, -⟩ := h []
      exact ⟨v, w'', ht⟩
  | halt x w' => simp only [Oper.goesUpon] at h
theorem mStep_some {o : Oper} {i : Nat} {a : Act} {D : World → Prop} {K : Act → (World → Prop) → Prop} (hne : Ne D) (hh : mStep P ops w kd sp o i K a D) : ∃ a' D', Ne D' ∧ K a' D' := by
  unfold mStep at hh
  split at hh
  · cases hk : kd i <;> rw [hk] at hh <;> simp only at hh
    · obtain ⟨v, -, h2⟩ := hh; exact ⟨_, _, hne, h2⟩
    · obtain ⟨-, v, -, h2⟩ := hh; exact ⟨_, _, hne, h2⟩
    · obtain ⟨h0, h1, h2, h3⟩ := hh
      obtain ⟨W, hW⟩ := hne
      obtain ⟨v, W', ⟨hs, hr⟩, hg⟩ := goes_some (h2 W (h0.out W hW))
      have hn : Ne (fun W => D W ∧ (sp i).R v W) := ⟨W', h0.grow W W' hW hg, hr⟩
      exact ⟨_, _, hn, h3 v hs hn⟩
    · obtain ⟨S, R, h1, h2⟩ := hh
      obtain ⟨W, hW⟩ := hne
      obtain ⟨v, W', hs, hr⟩ := goes_some (h1 W hW)
      exact ⟨_, _, ⟨W', hr⟩, h2 v hs ⟨W', hr⟩⟩
  · exact ⟨_, _, hne, hh⟩
theorem runsTo_uniq {o : Oper} {a : Act} {W : World} {v u : Value} (h : RunsTo P o a W v) (k : RunsTo P o a W u) : v = u := by
  unfold RunsTo at h k
  rw [h] at k
  injection k with k1 _
  injection k1
/-- Which kinds may come in either order. -/
def swapOk (a b : Kd) : Bool := match a, b with
  | .pure, _ => true
  | _, .pure => true
  | .tail, _ => false
  | _, .tail => false
  | _, _ => true
theorem mStep_swap {i j : Nat} {oi oj : Oper} (hap : oi.apart ops oj = true) (hsi : ∀ cs b, oi.op ≠ .select cs b) (hsj : ∀ cs b, oj.op ≠ .select cs b) (hk : swapOk (kd i) (kd j) = true) {K : Act → (World → Prop) → Prop} {a : Act} {D : World → Prop} (hne : Ne D)
    (h : mStep P ops w kd sp oi i (fun a1 D1 => mStep P ops w kd sp oj j K a1 D1) a D) : mStep P ops w kd sp oj j (fun a2 D2 => mStep P ops w kd sp oi i K a2 D2) a D := by
  obtain ⟨h1, h2, h3⟩ := Oper.apart_spec hap
  have ei : ∀ (a : Act) u, execOp (a.put oj.dst u).eval oi = execOp a.eval oi := fun a u => execOp_put oi hsi a oj.dst u h3
  have ej : ∀ (a : Act) u, execOp (a.put oi.dst u).eval oj = execOp a.eval oj := fun a u => execOp_put oj hsj a oi.dst u h1
  have wi : ∀ (a : Act) u, Region.wanted oi (yielded ops (a.put oj.dst u).tmps) = Region.wanted oi (yielded ops a.tmps) := fun a u => wanted_put oi a oj.dst u h3
  have wj : ∀ (a : Act) u, Region.wanted oj (yielded ops (a.put oi.dst u).tmps) = Region.wanted oj (yielded ops a.tmps) := fun a u => wanted_put oj a oi.dst u h1
  have pc : ∀ (a : Act) u v, (a.put oi.dst u).put oj.dst v = (a.put oj.dst v).put oi.dst u := fun a u v => Act.put_comm a u v h2
  have ri : ∀ (a : Act) u W v, RunsTo P oi (a.put oj.dst u) W v ↔ RunsTo P oi a W v := fun a u W v => by unfold RunsTo; rw [ei]
  have rj : ∀ (a : Act) u W v, RunsTo P oj (a.put oi.dst u) W v ↔ RunsTo P oj a W v := fun a u W v => by unfold RunsTo; rw [ej]
  have gi : ∀ (a : Act) u W T, Oper.goes P oi (a.put oj.dst u) W T ↔ Oper.goes P oi a W T := fun a u W T => by unfold Oper.goes; rw [ei]
  have gj : ∀ (a : Act) u W T, Oper.goes P oj (a.put oi.dst u) W T ↔ Oper.goes P oj a W T := fun a u W T => by unfold Oper.goes; rw [ej]
  have mi : ∀ (a : Act) u S R, Makes P w oi S R (a.put oj.dst u) ↔ Makes P w oi S R a := fun a u S R => by unfold Makes; simp only [gi]
  have mj : ∀ (a : Act) u S R, Makes P w oj S R (a.put oi.dst u) ↔ Makes P w oj S R a := fun a u S R => by unfold Makes; simp only [gj]
  have dc : ∀ (A B : World → Prop), (fun W => (D W ∧ A W) ∧ B W) = (fun W => (D W ∧ B W) ∧ A W) := fun A B => by funext W; exact propext ⟨fun ⟨⟨a, b⟩, c⟩ => ⟨⟨a, c⟩, b⟩, fun ⟨⟨a, b⟩, c⟩ => ⟨⟨a, c⟩, b⟩⟩
  unfold mStep at h ⊢
  simp only [wi, wj, ri, rj, gi, gj, mi, mj] at h ⊢
  by_cases hwi : Region.wanted oi (yielded ops a.tmps) = true
  · by_cases hwj : Region.wanted oj (yielded ops a.tmps) = true
    · simp only [hwi, hwj, if_true] at h ⊢
      cases hki : kd i <;> cases hkj : kd j <;> rw [hki, hkj] at hk <;> simp only [hki, hkj] at h ⊢
      case tail.tail => simp [swapOk] at hk
      case tail.held => simp [swapOk] at hk
      case tail.make => simp [swapOk] at hk
      case held.tail => simp [swapOk] at hk
      case make.tail => simp [swapOk] at hk
      case pure.pure =>
        obtain ⟨v, hv, u, hu, hK⟩ := h
        exact ⟨u, hu, v, hv, by rw [← pc]; exact hK⟩
      case pure.held =>
        obtain ⟨v, hv, hD, u, hu, hK⟩ := h
        exact ⟨hD, u, hu, v, hv, by rw [← pc]; exact hK⟩
      case pure.make =>
        obtain ⟨v, hv, hD, hst, hM, hK⟩ := h
        exact ⟨hD, hst, hM, fun u hu hn => ⟨v, hv, by rw [← pc]; exact hK u hu hn⟩⟩
      case pure.tail =>
        obtain ⟨v, hv, S, R, hg, hK⟩ := h
        exact ⟨S, R, hg, fun u hu hn => ⟨v, hv, by rw [← pc]; exact hK u hu hn⟩⟩
      case held.pure =>
        obtain ⟨hD, v, hv, u, hu, hK⟩ := h
        exact ⟨u, hu, hD, v, hv, by rw [← pc]; exact hK⟩
      case held.held =>
        obtain ⟨hD, v, hv, -, u, hu, hK⟩ := h
        exact ⟨hD, u, hu, hD, v, hv, by rw [← pc]; exact hK⟩
      case held.make =>
        obtain ⟨hD, v, hv, -, hst, hM, hK⟩ := h
        exact ⟨hD, hst, hM, fun u hu hn => ⟨⟨fun W hW => hD.out W hW.1, fun W U hW hg => ⟨hD.grow W U hW.1 hg, hst u W U hW.2 hg⟩⟩, v, hv, by rw [← pc]; exact hK u hu hn⟩⟩
      case make.pure =>
        obtain ⟨hD, hst, hM, hK⟩ := h
        obtain ⟨W, hW⟩ := hne
        obtain ⟨v0, W', ⟨hs0, hr0⟩, hg0⟩ := goes_some (hM W (hD.out W hW))
        obtain ⟨u, hu, -⟩ := hK v0 hs0 ⟨W', hD.grow W W' hW hg0, hr0⟩
        refine ⟨u, hu, hD, hst, hM, fun v hv hn => ?_⟩
        obtain ⟨u', hu', hK'⟩ := hK v hv hn
        have : u' = u := runsTo_uniq (hu' W) (hu W)
        subst this
        rw [← pc]; exact hK'
      case make.held =>
        obtain ⟨hD, hst, hM, hK⟩ := h
        obtain ⟨W, hW⟩ := hne
        obtain ⟨v0, W', ⟨hs0, hr0⟩, hg0⟩ := goes_some (hM W (hD.out W hW))
        obtain ⟨-, u, hu, -⟩ := hK v0 hs0 ⟨W', hD.grow W W' hW hg0, hr0⟩
        refine ⟨hD, u, hu, hD, hst, hM, fun v hv hn => ?_⟩
        obtain ⟨-, u', hu', hK'⟩ := hK v hv hn
        have : u' = u := runsTo_uniq (hu' W (hD.out W hW)) (hu W (hD.out W hW))
        subst this
        rw [← pc]; exact hK'
      case make.make =>
        obtain ⟨hD, hst, hM, hK⟩ := h
        obtain ⟨W, hW⟩ := hne
        obtain ⟨v0, W', ⟨hs0, hr0⟩, hg0⟩ := goes_some (hM W (hD.out W hW))
        obtain ⟨-, hst2, hM2, -⟩ := hK v0 hs0 ⟨W', hD.grow W W' hW hg0, hr0⟩
        refine ⟨hD, hst2, hM2, fun u hu hn => ⟨⟨fun W hW => hD.out W hW.1, fun W U hW hg => ⟨hD.grow W U hW.1 hg, hst2 u W U hW.2 hg⟩⟩, hst, hM, fun v hv hn2 => ?_⟩⟩
        obtain ⟨Wx, ⟨hx1, hx2⟩, hx3⟩ := hn2
        have := (hK v hv ⟨Wx, hx1, hx3⟩).2.2.2 u hu ⟨Wx, ⟨hx1, hx3⟩, hx2⟩
        rw [← pc, ← dc]
        exact this
      case tail.pure =>
        obtain ⟨S, R, hg, hK⟩ := h
        obtain ⟨W, hW⟩ := hne
        obtain ⟨v0, W', hs0, hr0⟩ := goes_some (hg W hW)
        obtain ⟨u, hu, -⟩ := hK v0 hs0 ⟨W', hr0⟩
        refine ⟨u, hu, S, R, hg, fun v hv hn => ?_⟩
        obtain ⟨u', hu', hK'⟩ := hK v hv hn
        have : u' = u := runsTo_uniq (hu' W) (hu W)
        subst this
        rw [← pc]; exact hK'
    · simp only [hwi, hwj, if_true, Bool.false_eq_true, if_false] at h ⊢
      cases hki : kd i <;> simp only [hki] at h ⊢
      · obtain ⟨v, hv, hK⟩ := h; exact ⟨v, hv, by rw [← pc]; exact hK⟩
      · obtain ⟨hD, v, hv, hK⟩ := h; exact ⟨hD, v, hv, by rw [← pc]; exact hK⟩
      · obtain ⟨hD, hst, hM, hK⟩ := h; exact ⟨hD, hst, hM, fun v hv hn => by rw [← pc]; exact hK v hv hn⟩
      · obtain ⟨S, R, hg, hK⟩ := h; exact ⟨S, R, hg, fun v hv hn => by rw [← pc]; exact hK v hv hn⟩
  · by_cases hwj : Region.wanted oj (yielded ops a.tmps) = true
    · simp only [hwi, hwj, if_true, Bool.false_eq_true, if_false] at h ⊢
      cases hkj : kd j <;> simp only [hkj] at h ⊢
      · obtain ⟨v, hv, hK⟩ := h; exact ⟨v, hv, by rw [← pc]; exact hK⟩
      · obtain ⟨hD, v, hv, hK⟩ := h; exact ⟨hD, v, hv, by rw [← pc]; exact hK⟩
      · obtain ⟨hD, hst, hM, hK⟩ := h; exact ⟨hD, hst, hM, fun v hv hn => by rw [← pc]; exact hK v hv hn⟩
      · obtain ⟨S, R, hg, hK⟩ := h; exact ⟨S, R, hg, fun v hv hn => by rw [← pc]; exact hK v hv hn⟩
    · simp only [hwi, hwj, Bool.false_eq_true, if_false] at h ⊢
      rw [← pc]; exact h
def wpAnyK (P : Program) (md : Region.Mode) (ops : Array Oper) (w : World) (kd : Nat → Kd) (sp : Nat → Told) (E : Act → (World → Prop) → Prop) : Nat → Array Bool → Act → (World → Prop) → Prop
  | 0, listed, a, D => Region.ready md ops listed = [] ∧ E a D
  | f + 1, listed, a, D => (Region.ready md ops listed = [] → E a D) ∧ ∀ i ∈ Region.ready md ops listed, mOp P ops w kd sp i (wpAnyK P md ops w kd sp E f (listed.setIfInBounds i true)) a D
theorem wpOp_of_mOp {i : Nat} {a : Act} {D : World → Prop} {K : Act → (World → Prop) → Prop} {K' : Act → World → Prop} {Q' : Exit → Act → World → Prop} {W : World} (hW : D W)
    (h : ∀ a D W', D W' → K a D → K' a W') (hh : mOp P ops w kd sp i K a D) : wpOp P ops Q' i K' a W := by
  unfold mOp at hh
  unfold wpOp
  split
  · rename_i ho; simp only [ho] at hh; exact h _ _ _ hW hh
  · rename_i o ho
    simp only [ho] at hh
    unfold mStep at hh
    split
    · rename_i hw
      rw [if_pos hw] at hh
      left
      cases hk : kd i <;> rw [hk] at hh <;> simp only at hh
      · obtain ⟨v, h1, h2⟩ := hh
        have h1 := h1 W
        unfold RunsTo at h1
        unfold Oper.wp
        rw [h1]
        exact h _ _ _ hW h2
      · obtain ⟨hD, v, h1, h2⟩ := hh
        have h1 := h1 W (hD.out W hW)
        unfold RunsTo at h1
        unfold Oper.wp
        rw [h1]
        exact h _ _ _ hW h2
      · obtain ⟨hD, hst, hM, hK⟩ := hh
        exact Oper.wp_of_goes (hM W (hD.out W hW)) fun v W' ⟨⟨hs, hr⟩, hg⟩ => h _ _ W' ⟨hD.grow W W' hW hg, hr⟩ (hK v hs ⟨W', hD.grow W W' hW hg, hr⟩)
      · obtain ⟨S, R, hg, hK⟩ := hh
        exact Oper.wp_of_goes (hg W hW) fun v W' ⟨hs, hr⟩ => h _ _ W' hr (hK v hs ⟨W', hr⟩)
    · rename_i hw; rw [if_neg hw] at hh; exact h _ _ _ hW hh
theorem wpAny_of_K {Q : Exit → Act → World → Prop} : ∀ (f : Nat) (listed : Array Bool) (a : Act) (D : World → Prop) (W : World), D W → wpAnyK P md ops w kd sp (fun a D => ∀ W, D W → Q .normal a W) f listed a D → wpAny P md ops Q f listed a W
  | 0, _, _, _, _, hW, h => ⟨h.1, h.2 _ hW⟩
  | f + 1, _, _, _, _, hW, h => ⟨fun h0 => h.1 h0 _ hW, fun i hi => wpOp_of_mOp hW (fun a' D' W' hW' h' => wpAny_of_K f _ a' D' W' hW' h') (h.2 i hi)⟩
theorem wpAnyK_first {E : Act → (World → Prop) → Prop} {i : Nat} {oi : Oper} (hi : ops[i]? = some oi) (hsel : ∀ (j : Nat) (o : Oper) cs b, ops[j]? = some o → o.op ≠ .select cs b)
    (hsw : ∀ j, j < ops.size → j ≠ i → swapOk (kd i) (kd j) = false → Region.waitsFor md ops j i = true ∨ Region.waitsFor md ops i j = true) :
    ∀ (f : Nat) (listed : Array Bool) (a : Act) (D : World → Prop), Ne D →
      (∀ j oj, ops[j]? = some oj → j ≠ i → listed.getD j true = false → (∀ e ∈ oj.after, Region.binds md e = true → e.on ≠ i) → oi.apart ops oj = true) →
      i ∈ Region.ready md ops listed → mOp P ops w kd sp i (wpAnyK P md ops w kd sp E f (listed.setIfInBounds i true)) a D → wpAnyK P md ops w kd sp E (f + 1) listed a D := by
  intro f
  induction f with
  | zero =>
    intro listed a D hne _ hr H
    refine ⟨fun h => (by rw [h] at hr; cases hr), fun j hj => ?_⟩
    by_cases hji : j = i
    · subst hji; exact H
    · unfold mOp at H
      rw [hi] at H
      obtain ⟨a', D', -, h0, -⟩ := mStep_some hne H
      have := ready_mono hj hji
      rw [h0] at this; cases this
  | succ f ih =>
    intro listed a D hne hfree hr H
    refine ⟨fun h => (by rw [h] at hr; cases hr), fun j hj => ?_⟩
    by_cases hji : j = i
    · subst hji; exact H
    · obtain ⟨hjun, oj, hoj, hall⟩ := mem_ready.1 hj
      have hun := (mem_ready.1 hr).1
      have hnot : ∀ e ∈ oj.after, Region.binds md e = true → e.on ≠ i := fun e he hb heq => by
        have h1 := hall e he hb
        rw [heq, getD_both hun] at h1
        cases h1
      have hap := hfree j oj hoj hji hjun hnot
      have hswap : swapOk (kd i) (kd j) = true := by
        cases hs : swapOk (kd i) (kd j) with
        | true => rfl
        | false =>
          rcases hsw j (Array.getElem?_eq_some_iff.1 hoj).1 hji hs with h1 | h1
          · obtain ⟨o', ho', e, he, hb, hon⟩ := Region.waitsFor_spec h1
            have : o' = oj := Option.some.inj (ho'.symm.trans hoj)
            subst this
            exact absurd hon (hnot e he hb)
          · obtain ⟨o', ho', e, he, hb, hon⟩ := Region.waitsFor_spec h1
            obtain ⟨-, oi', hoi', halli⟩ := mem_ready.1 hr
            have : o' = oi' := Option.some.inj (ho'.symm.trans hoi')
            subst this
            have h2 := halli e he hb
            rw [hon, getD_both hjun] at h2
            cases h2
      have hfree' : ∀ k ok, ops[k]? = some ok → k ≠ i → (listed.setIfInBounds j true).getD k true = false →
          (∀ e ∈ ok.after, Region.binds md e = true → e.on ≠ i) → oi.apart ops ok = true := fun k ok hk hki hun' hno => by
        refine hfree k ok hk hki ?_ hno
        by_cases hjk : j = k
        · subst hjk; exact hjun
        · rw [getD_set_ne true hjk] at hun'; exact hun'
      have hri := ready_mono hr (Ne.symm hji)
      unfold mOp at H
      rw [hi] at H
      have H2 : mStep P ops w kd sp oi i (fun a1 D1 => mStep P ops w kd sp oj j (wpAnyK P md ops w kd sp E f ((listed.setIfInBounds i true).setIfInBounds j true)) a1 D1) a D :=
        mStep_mono hne (fun a1 D1 _ hK => by
          have := hK.2 j (ready_mono hj hji)
          unfold mOp at this
          rw [hoj] at this
          exact this) H
      have H3 := mStep_swap hap (fun cs b => hsel i oi cs b hi) (fun cs b => hsel j oj cs b hoj) hswap hne H2
      unfold mOp
      rw [hoj]
      refine mStep_mono hne (fun a2 D2 hne2 h3 => ih (listed.setIfInBounds j true) a2 D2 hne2 hfree' hri ?_) H3
      unfold mOp
      rw [hi, Array.setIfInBounds_comm _ _ hji]
      exact h3
/-- The walk of the text's order. -/
def wpMix (P : Program) (ops : Array Oper) (w : World) (kd : Nat → Kd) (sp : Nat → Told) (E : Act → (World → Prop) → Prop) : List Oper → Nat → Act → (World → Prop) → Prop
  | [], _, a, D => E a D
  | o :: rest, k, a, D => mStep P ops w kd sp o k (wpMix P ops w kd sp E rest (k + 1)) a D
def mixB (md : Region.Mode) (ops : Array Oper) (kd : Nat → Kd) : Bool :=
  Region.lexB md ops && (List.range ops.size).all fun i => (List.range ops.size).all fun j => decide (j = i) || (swapOk (kd i) (kd j) || (Region.waitsFor md ops j i || Region.waitsFor md ops i j))
theorem wpAnyK_lex {E : Act → (World → Prop) → Prop} (hs : Region.noSelect ops = true) (hsw : ∀ i j, i < ops.size → j < ops.size → j ≠ i → swapOk (kd i) (kd j) = false → Region.waitsFor md ops j i = true ∨ Region.waitsFor md ops i j = true) :
    ∀ (l : List Oper) (k : Nat) (listed : Array Bool) (a : Act) (D : World → Prop), Ne D → (∀ j, l[j]? = ops[k + j]?) →
    Region.lexFrom md ops l.length k listed = true → wpMix P ops w kd sp E l k a D → wpAnyK P md ops w kd sp E l.length listed a D
  | [], _, _, _, _, _, _, hB, h => ⟨by simpa [Region.lexFrom] using hB, h⟩
  | o :: l, k, listed, a, D, hne, hl, hB, h => by
    have h0 : ops[k]? = some o := by simpa using (hl 0).symm
    simp only [List.length_cons, Region.lexFrom, Bool.and_eq_true] at hB
    obtain ⟨⟨hr, hf⟩, hB'⟩ := hB
    have hk : k < ops.size := (Array.getElem?_eq_some_iff.1 h0).1
    refine wpAnyK_first h0 (Region.noSelect_spec hs) (fun j hjl hj hsw' => hsw k j hk hjl hj hsw') l.length listed a D hne (Region.free_spec h0 hf) (by simpa using hr) ?_
    unfold mOp
    rw [h0]
    exact mStep_mono hne (fun a' D' hne' h' => wpAnyK_lex hs hsw l (k + 1) _ a' D' hne' (fun j => by have := hl (j + 1); simpa [Nat.add_assoc, Nat.add_comm 1 j] using this) hB' h') h
/-- **The law.** -/
theorem wp_region_mixed {id : Nat} {Q : Exit → Act → World → Prop} {a : Act} {w : World} {l : List Oper} (kds : List Kd) (sp : Nat → Told) (hm : P.follows .mixedOrders = true) (hB : mixB .any l.toArray (fun i => kds.getD i .pure) = true)
    (h : wpMix P l.toArray w (fun i => kds.getD i .pure) sp (fun a D => ∀ W, D W → Q .normal a W) l 0 a (Grown w)) : (Code.region id l.toArray true).wp P Q a w := by
  simp only [mixB, Bool.and_eq_true] at hB
  obtain ⟨hlex, hall⟩ := hB
  simp only [Region.lexB, Bool.and_eq_true] at hlex
  have hg0 : Grown w { w with drawn := w.drawn + 1 } := (Below.refl _ _).drew
  refine wp_region_any hm (wpAny_of_K (w := w) (kd := fun i => kds.getD i .pure) (sp := sp) _ _ _ (Grown w) _ hg0 ?_)
  have := wpAnyK_lex (P := P) (md := .any) (w := w) (kd := fun i => kds.getD i .pure) (sp := sp) (E := fun a D => ∀ W, D W → Q .normal a W) hlex.1 (fun i j hi hjl hj hs => by
    have h1 := List.all_eq_true.1 (List.all_eq_true.1 hall i (List.mem_range.2 hi)) j (List.mem_range.2 hjl)
    simp only [Bool.or_eq_true, decide_eq_true_eq] at h1
    rcases h1 with h1 | h1 | h1 | h1
    · exact absurd h1 hj
    · rw [hs] at h1; cases h1
    · exact .inl h1
    · exact .inr h1) l 0 (Array.replicate l.toArray.size false) a (Grown w) ⟨w, Grown.refl w⟩ (by simp) (by simpa using hlex.2) h
  simpa using this
/-! ### the walk's steps -/
theorem Keeps.base (w : World) : Keeps w (Grown w) := ⟨fun _ h => h, fun _ _ h k => h.trans k⟩
theorem Keeps.and {D : World → Prop} (h : Keeps w D) {R : World → Prop} (hR : ∀ W U, R W → Grown W U → R U) : Keeps w (fun W => D W ∧ R W) :=
  ⟨fun W hW => h.out W hW.1, fun W U hW hg => ⟨h.grow W U hW.1 hg, hR W U hW.2 hg⟩⟩
/-- Operations that yield a value, and call nothing. -/
def valOp : Op → Bool
  | .call _ | .go _ | .defer _ | .send .. | .recv .. | .select .. | .store .. | .ready _ | .mapUpdate .. | .insert .. | .entryStore .. => false
  | _ => true
theorem val_no_skip (s : Sem Value) (W : World) (w' : World) : (s >>= fun x => (Pure.pure (Next.value x) : Sem Next)).run P W ≠ .ok .skip w' := by
  intro e
  rw [Sem.run_bind] at e
  generalize s.run P W = r at e
  cases r with
  | ok a w1 => simp [Result.andThen] at e
  | halt x w1 => simp [Result.andThen] at e
theorem no_skip {o : Oper} {ρ : Operand → Value} (h : valOp o.op = true) (W : World) (w' : World) : (execOp ρ o).run P W ≠ .ok .skip w' := by
  obtain ⟨dst, op, ty, pos, after, guard⟩ := o
  cases op
  case call c => simp [valOp] at h
  case go c => simp [valOp] at h
  case defer c => simp [valOp] at h
  case send => simp [valOp] at h
  case recv => simp [valOp] at h
  case select => simp [valOp] at h
  case store => simp [valOp] at h
  case ready => simp [valOp] at h
  case mapUpdate => simp [valOp] at h
  case insert => simp [valOp] at h
  case entryStore => simp [valOp] at h
  case move x => simp [execOp]
  case assign x => simp [execOp]
  case pick c a b =>
    simp only [execOp, Sem.run_bind]
    generalize (asBool (ρ c)).run P W = r
    cases r <;> simp [Result.andThen]
  case nilCheck x =>
    simp only [execOp]
    have hrt : (runtimePanic .nilDeref : Sem Next).run P W ≠ .ok .skip w' := by
      simp [runtimePanic, goPanic, Sem.run_bind, run_program, Sem.run]
    split
    · exact hrt
    · exact hrt
    · exact hrt
    · split
      · exact hrt
      · simp only [Sem.run_bind]
        generalize (program).run P W = r
        cases r with
        | halt x w1 => simp [Result.andThen]
        | ok p w1 =>
          simp only [Result.andThen]
          generalize Sem.run P (nilAhead _ _ _ _) w1 = r2
          cases r2 with
          | halt x w2 => simp
          | ok b w2 =>
            simp only
            split
            · simp [unsupported, Sem.run]
            · simp
      · simp
    · simp
  all_goals exact val_no_skip _ _ _
theorem valOp_plain {o : Op} (h : valOp o = true) : plainOp o = true := by cases o <;> simp_all [valOp, plainOp]
theorem runs_of_quiet {C : World → Prop} {o : Oper} {a : Act} {W : World} {v : Value} (hv : valOp o.op = true) (h : o.quietAt P a C W v) : RunsTo P o a W v := by
  unfold Oper.quietAt at h
  unfold RunsTo
  have hne := no_enter (P := P) (ρ := a.eval) (valOp_plain hv) W
  have hns := no_skip (P := P) (ρ := a.eval) hv W
  generalize (execOp a.eval o).run P W = r at *
  cases r with
  | ok n w' =>
    cases n <;> simp only [Oper.quietUpon] at h
    case value u => obtain ⟨rfl, rfl⟩ := h; rfl
    case skip => exact absurd rfl (hns w')
    case enter f args => exact absurd rfl (hne f args w')
  | halt x w' => simp only [Oper.quietUpon] at h
section
variable {E : Act → (World → Prop) → Prop} {a : Act} {o : Oper} {rest : List Oper} {k : Nat} {D : World → Prop}
theorem mix_pure (hw : Region.wanted o (yielded ops a.tmps) = true) (hk : kd k = .pure) (hp : valOp o.op = true)
    (h : ∀ K : Act → Prop, (∀ a, wpMix P ops w kd sp E rest (k + 1) a D → K a) → o.quiet P a (fun _ => True) K) : wpMix P ops w kd sp E (o :: rest) k a D := by
  unfold wpMix mStep
  rw [if_pos hw, hk]
  obtain ⟨v, h1, h2⟩ := h _ fun _ h => h
  exact ⟨v, fun W => runs_of_quiet hp (h1 W trivial), h2⟩
theorem mix_held (hw : Region.wanted o (yielded ops a.tmps) = true) (hk : kd k = .held) (hp : valOp o.op = true) (hD : Keeps w D)
    (h : ∀ K : Act → Prop, (∀ a, wpMix P ops w kd sp E rest (k + 1) a D → K a) → o.quiet P a (fun w' => ∃ x : Ext w, w' = x.world) K) : wpMix P ops w kd sp E (o :: rest) k a D := by
  unfold wpMix mStep
  rw [if_pos hw, hk]
  obtain ⟨v, h1, h2⟩ := h _ fun _ h => h
  exact ⟨hD, v, fun W hW => runs_of_quiet hp (h1 W ⟨⟨W, hW⟩, rfl⟩), h2⟩
theorem mix_load (hw : Region.wanted o (yielded ops a.tmps) = true) (hk : kd k = .held) (hD : Keeps w D) (ty : TypeId) (x : Operand) (ho : o.op = .load ty x)
    (b i : Nat) (hx : a.eval x = .pointer (some ⟨b, i, none⟩)) (cs : List Value) (d : TypeDesc) (hb : b < w.heap.size) (hc : w.rangeAt b i cs)
    (hu : P.underlying ty = some d) (hd : d.isRow = true) (hi : (P.info? ty).map (·.size) = some cs.length)
    (h : wpMix P ops w kd sp E rest (k + 1) (a.put o.dst (.agg cs.toArray)) D) : wpMix P ops w kd sp E (o :: rest) k a D := by
  unfold wpMix mStep
  rw [if_pos hw, hk]
  refine ⟨hD, _, fun W hW => ?_, h⟩
  have hc' : W.rangeAt b i cs := fun j v hv => (Below.cell (p := ⟨b, i + j, none⟩) hW hb).trans (hc j v hv)
  unfold RunsTo execOp
  simp only [ho, hx, Instr.loadAt, Instr.sureAddr, Sem.run_bind, Sem.run_pure, Result.andThen_ok, run_loadVar_mid W b i ty cs d hc' hu hd hi]
theorem mix_make (hw : Region.wanted o (yielded ops a.tmps) = true) (hk : kd k = .make) (hD : Keeps w D) (hst : ∀ v W U, (sp k).R v W → Grown W U → (sp k).R v U) (hM : Makes P w o (sp k).S (sp k).R a)
    (h : ∀ v, (sp k).S v → Keeps w (fun W => D W ∧ (sp k).R v W) → wpMix P ops w kd sp E rest (k + 1) (a.put o.dst v) (fun W => D W ∧ (sp k).R v W)) : wpMix P ops w kd sp E (o :: rest) k a D := by
  unfold wpMix mStep
  rw [if_pos hw, hk]
  exact ⟨hD, hst, hM, fun v hv _ => h v hv (hD.and (hst v))⟩
/-- A last operation that writes. -/
theorem mix_tail (hw : Region.wanted o (yielded ops a.tmps) = true) (hk : kd k = .tail) (T : World → World) (hT : ∀ W, D W → (execOp a.eval o).run P W = .ok .skip (T W))
    (h : wpMix P ops w kd sp E rest (k + 1) (a.put o.dst undef) (fun W' => ∃ W, D W ∧ W' = T W)) : wpMix P ops w kd sp E (o :: rest) k a D := by
  unfold wpMix mStep
  rw [if_pos hw, hk]
  refine ⟨fun v => v = undef, fun _ W' => ∃ W, D W ∧ W' = T W, fun W hW => ?_, fun v hv _ => by subst hv; exact h⟩
  unfold Oper.goes
  rw [hT W hW]
  exact ⟨rfl, W, hW, rfl⟩
theorem mix_store (hw : Region.wanted o (yielded ops a.tmps) = true) (hk : kd k = .tail) (ty : TypeId) (x y : Operand) (ho : o.op = .store ty x y)
    (b i : Nat) (cs : Array Value) (hx : a.eval x = .pointer (some ⟨b, i, none⟩)) (hy : a.eval y = .agg cs) (ht : ∀ W, D W → W.there b i cs.size) (hi : (P.info? ty).map (·.size) = some cs.size) (h1 : cs.all (·.oneCell') = true)
    (h : wpMix P ops w kd sp E rest (k + 1) (a.put o.dst undef) (fun W' => ∃ W, D W ∧ W' = W.setCells b i cs.toList)) : wpMix P ops w kd sp E (o :: rest) k a D :=
  mix_tail hw hk (fun W => W.setCells b i cs.toList) (fun W hW => by
    unfold execOp
    simp only [ho, hx, hy, Instr.storeAt, Instr.sureAddr, Sem.run_bind, Sem.run_pure, Result.andThen_ok, run_storeVar_mid W b i ty cs (ht W hW) hi h1]) h
theorem mix_nil (h : E a D) : wpMix P ops w kd sp E [] k a D := h
end
end
end Go.Proofs.YtnaclkaapicelaaGreat

namespace Go.Proofs.YtnaclkaapicelaaGreat
open Go.RowKit
section
variable {F : World → Prop} {w : World} {T0 T1 T2 : TypeId} {c0 c1 c2 : Array Value}
theorem named1 (h : ∀ W, Blk W w.heap.size T0 c0 → Below w.heap.size w W → W.heap.size = w.heap.size + 1 → F W) : F (w.alloc (.cells c0 T0)) :=
  h _ (Blk.new _ _ _) (bAlloc (Below.refl _ _) _) (by simp)
theorem named2 (h : ∀ W, Blk W w.heap.size T0 c0 → Blk W (w.heap.size + 1) T1 c1 → Below w.heap.size w W → W.heap.size = w.heap.size + 1 + 1 → F W) : F ((w.alloc (.cells c0 T0)).alloc (.cells c1 T1)) :=
  h _ ((Blk.new _ _ _).alloc _) (by have := Blk.new (w.alloc (.cells c0 T0)) T1 c1; simpa using this) (bAlloc (bAlloc (Below.refl _ _) _) _) (by simp)
theorem named3 (h : ∀ W, Blk W w.heap.size T0 c0 → Blk W (w.heap.size + 1) T1 c1 → Blk W (w.heap.size + 1 + 1) T2 c2 → Below w.heap.size w W → W.heap.size = w.heap.size + 1 + 1 + 1 → F W) : F (((w.alloc (.cells c0 T0)).alloc (.cells c1 T1)).alloc (.cells c2 T2)) :=
  h _ (((Blk.new _ _ _).alloc _).alloc _) (by have := (Blk.new (w.alloc (.cells c0 T0)) T1 c1).alloc (.cells c2 T2); simpa using this) (by have := Blk.new ((w.alloc (.cells c0 T0)).alloc (.cells c1 T1)) T2 c2; simpa using this) (bAlloc (bAlloc (bAlloc (Below.refl _ _) _) _) _) (by simp)
end
theorem there_new (w : World) (cs : Array Value) (T : TypeId) {n : Nat} (h : cs.size = n) : (w.alloc (.cells cs T)).there w.heap.size 0 n := Blk.there (Blk.new w T cs) (by omega)
/-- A variable of many cells, made and set at once. -/
theorem named_put {F : World → Prop} {w : World} {zs : Array Value} {T : TypeId} {vs : List Value} (hn : vs.length = zs.size) (h : ∀ W, Blk W w.heap.size T vs.toArray → Below w.heap.size w W → W.heap.size = w.heap.size + 1 → F W) : F ((w.alloc (.cells zs T)).setCells w.heap.size 0 vs) :=
  h _ ((Blk.new w T zs).whole vs hn) (bSetCells (bAlloc (Below.refl _ _) _) (Nat.le_refl _) 0 vs) (by rw [setCells_size]; simp)
theorem fold_put (cs : List Value) : ∀ (k off : Nat) (z : Array Value), (cs.zipIdx k).foldl (fun (z : Array Value) (p : Value × Nat) => z.setIfInBounds (off + p.2) p.1) z = putAt z (off + k) cs := by
  induction cs with
  | nil => intro k off z; rfl
  | cons c r ih =>
    intro k off z
    rw [List.zipIdx_cons, List.foldl_cons, ih, putAt]
    rfl
theorem fill_put (place : Nat → Option (Nat × Nat)) (z : Array Value) (i off : Nat) (cs : List Value) (v : Value) (rest : List (Nat × Value)) (hv : v.cells = cs.toArray) (hp : place i = some (off, cs.length)) (hz : off + cs.length ≤ z.size) :
    Instr.fill place z ((i, v) :: rest) = Instr.fill place (putAt z off cs) rest := by
  rw [Instr.fill, hp]
  simp only [hv, List.size_toArray]
  rw [if_neg (by simp; omega)]
  congr 1
  have := fold_put cs 0 off z
  rw [Nat.add_zero] at this
  rw [← this, ← Array.foldl_toList]
  simp
theorem fill_two (place : Nat → Option (Nat × Nat)) (z : Array Value) (c d : List Value) (v u : Value) (hv : v.cells = c.toArray) (hu : u.cells = d.toArray) (h0 : place 0 = some (0, c.length)) (h1 : place 1 = some (c.length, d.length)) (hz : z.size = c.length + d.length) :
    Instr.fill place z [(0, v), (1, u)] = some (c ++ d).toArray := by
  rw [fill_put place z 0 0 c v _ hv h0 (by omega), fill_put place _ 1 c.length d u _ hu h1 (by rw [putAt_size]; omega), Instr.fill]
  congr 1
  apply Array.ext_getElem?
  intro j
  rw [putAt_get, putAt_get, putAt_size]
  simp only [List.getElem?_toArray, List.getElem?_append]
  by_cases hj : j < c.length
  · rw [if_neg (by omega), if_pos (by omega), if_pos hj]; simp
  · by_cases hj2 : j < c.length + d.length
    · rw [if_pos (by omega), if_neg hj]
    · rw [if_neg (by omega), if_neg (by omega), if_neg hj, Array.getElem?_eq_none (by omega), List.getElem?_eq_none (by omega)]
theorem built_struct {P : Program} {t : TypeId} {fs : Array Field} {z : Value} {places : List (Nat × Nat)} (hu : P.underlying t = some (.struct fs)) (hz : (P.info? t).bind (·.zero) = some z) (hp : (fs.toList.mapM fun f => (P.info? f.type).map fun i => (f.offset, i.size)) = some places) (parts : List (Nat × Value)) :
    P.built t parts = Instr.fill (places.toArray[·]?) z.cells parts := by
  unfold Program.built
  cases hi : P.info? t with
  | none => rw [hi] at hz; simp at hz
  | some it =>
    rw [hi] at hz
    simp only [Option.bind_some] at hz
    simp only [hu, hz, hp]
section
variable {P : Program} {fn : Func} {tmps : Array Value} {w : World} {a x y z : Tmp} {t : TypeId} {p : Addr} {v : Value}
theorem results_c0 (hr : fn.results = #[.cell a t]) (ha : tmps.getD a undef = .pointer (some p)) (hl : (loadVar t p).run P w = .ok v w) : (results fn tmps).run P w = .ok v w := by
  unfold results
  rw [hr]
  simp only [List.mapM_toArray, List.mapM_cons, List.mapM_nil, ha, asAddr]
  simp [hl]
theorem results_c2 (hr : fn.results = #[.cell a t, .tmp x, .tmp y]) (ha : tmps.getD a undef = .pointer (some p)) (hl : (loadVar t p).run P w = .ok v w) :
    (results fn tmps).run P w = .ok (.tuple #[v, tmps.getD x undef, tmps.getD y undef]) w := by
  unfold results
  rw [hr]
  simp only [List.mapM_toArray, List.mapM_cons, List.mapM_nil, ha, asAddr]
  simp [hl]
theorem results_c3 (hr : fn.results = #[.cell a t, .tmp x, .tmp y, .tmp z]) (ha : tmps.getD a undef = .pointer (some p)) (hl : (loadVar t p).run P w = .ok v w) :
    (results fn tmps).run P w = .ok (.tuple #[v, tmps.getD x undef, tmps.getD y undef, tmps.getD z undef]) w := by
  unfold results
  rw [hr]
  simp only [List.mapM_toArray, List.mapM_cons, List.mapM_nil, ha, asAddr]
  simp [hl]
end
/-- A struct or an array put together, its cells known. -/
theorem wpList_built {P : Program} {w : World} {ops : Array Oper} {rest : List Oper} {o : Oper} {a : Act} {Q : Exit → Act → World → Prop} (hgd : o.guard = none) (t : TypeId) (parts : List (Nat × Operand)) (ho : o.op = .build t parts.toArray) (cells : Array Value)
    (vs : List (Nat × Value)) (hv : parts.map (fun (i, x) => (i, a.eval x)) = vs) (hc : P.built t vs = some cells) (h : wpList P ops Q rest (a.put o.dst (.agg cells)) w) : wpList P ops Q (o :: rest) a w :=
  wpList_plain hgd fun _ hK => by
    have e : ((parts.toArray.map fun (i, x) => (i, a.eval x)).toList) = vs := by rw [← hv]; simp
    unfold Oper.wp execOp
    simp only [ho, Sem.run_bind, run_build w t _ cells (by rw [e]; exact hc), Result.andThen_ok]
    exact hK _ _ h
end Go.Proofs.YtnaclkaapicelaaGreat

namespace Go.Proofs.YtnaclkaapicelaaGreat
open Go.RowKit
set_option maxRecDepth 100000
set_option linter.unusedSimpArgs false
theorem st_setRange {w : World} {g : Nat} {S : Nat → Int} (h : Blk w g 33 (stCells S).toArray) (o : Nat) (vs : List Value) (T : Nat → Int) (_hb : o + vs.length ≤ 60) (hin : ∀ j, j < vs.length → vs[j]? = some (.int (kdS (o + j)) (T (o + j)))) (hout : ∀ j, (j < o ∨ o + vs.length ≤ j) → T j = S j) :
    Blk (w.setCells g o vs) g 33 (stCells T).toArray := by
  have := h.setCells vs o
  have e : putAt (stCells S).toArray o vs = (stCells T).toArray := by
    apply Array.ext_getElem?
    intro j
    rw [putAt_get]
    simp only [List.getElem?_toArray, List.size_toArray, stCells_length]
    by_cases hj : o ≤ j ∧ j < o + vs.length ∧ j < 60
    · rw [if_pos hj, hin (j - o) (by omega)]
      simp [stCells, rowOf, show j < 60 by omega, show o + (j - o) = j by omega]
    · rw [if_neg hj]
      by_cases hj6 : j < 60
      · simp only [stCells, rowOf, List.getElem?_map, List.getElem?_range hj6, Option.map_some]
        rw [hout j (by omega)]
      · rw [List.getElem?_eq_none (by rw [stCells_length]; omega), List.getElem?_eq_none (by rw [stCells_length]; omega)]
  rw [← e]; exact this
theorem st_set {w : World} {g : Nat} {S : Nat → Int} (h : Blk w g 33 (stCells S).toArray) (i : Nat) (hi : i < 60) {k : IntKind} (hk : kdS i = k) (v : Int) : Blk (w.setCell ⟨g, i, none⟩ (.int k v)) g 33 (stCells (upd S i v)).toArray := by
  refine st_setRange h i [.int k v] _ (by show i + 1 ≤ 60; omega) (fun j hj => ?_) (fun j hj => ?_)
  · have : j = 0 := by simpa using hj
    subst this
    rw [Nat.add_zero, hk, upd_same]; rfl
  · exact upd_other _ _ _ _ (by have : [Value.int k v].length = 1 := rfl; omega)
theorem pl_range {w : World} {g : Nat} {S : Nat → Int} (h : Blk w g 33 (stCells S).toArray) {i : Nat} (hi : i < 2) : w.rangeAt g (4 + i * 10) (plCells (getP S i)) := fun j v hv => by
  have hj : j < 10 := by have := (List.getElem?_eq_some_iff.1 hv).1; rwa [plCells_length] at this
  have := st_cell h (4 + i * 10 + j) (by omega)
  rw [this, kdS_p i j hi hj, ← hv]
  simp [plCells, rowOf, hj, getP]
theorem pl_put {w : World} {g : Nat} {S : Nat → Int} (h : Blk w g 33 (stCells S).toArray) {i : Nat} (hi : i < 2) (p : Nat → Int) : Blk (w.setCells g (4 + i * 10) (plCells p)) g 33 (stCells (putP S i p)).toArray := by
  refine st_setRange h (4 + i * 10) (plCells p) _ (by rw [plCells_length]; omega) (fun j hj => ?_) (fun j hj => ?_)
  · rw [plCells_length] at hj
    rw [putP_at S i p j hj, kdS_p i j hi hj]
    simp [plCells, rowOf, hj]
  · rw [plCells_length] at hj
    exact putP_other S i p j hj
theorem pl_one (p : Nat → Int) : ∀ v ∈ plCells p, v.oneCell' = true := fun v hv => by
  unfold plCells rowOf at hv
  obtain ⟨j, -, rfl⟩ := List.mem_map.1 hv
  rfl
theorem pl_set (p : Nat → Int) (j : Nat) (hj : j < 10) {k : IntKind} (hk : kdP j = k) (v : Int) : ((plCells p).toArray).setIfInBounds j (.int k v) = (plCells (upd p j v)).toArray := by
  apply Array.ext'
  simp only [Array.toList_setIfInBounds]
  unfold plCells
  rw [rowOf_set]
  refine rowOf_congr fun m _ => ?_
  unfold upd
  by_cases hm : m = j
  · subst hm; rw [if_pos rfl, if_pos rfl, hk]
  · rw [if_neg hm, if_neg hm]
section
variable {P : Program} {fn : Func} {tmps : Array Value} {w : World} {a x : Tmp} {t : TypeId} {p : Addr} {v : Value}
theorem results_c1 (hr : fn.results = #[.cell a t, .tmp x]) (ha : tmps.getD a undef = .pointer (some p)) (hl : (loadVar t p).run P w = .ok v w) :
    (results fn tmps).run P w = .ok (.tuple #[v, tmps.getD x undef]) w := by
  unfold results
  rw [hr]
  simp only [List.mapM_toArray, List.mapM_cons, List.mapM_nil, ha, asAddr]
  simp [hl]
end
end Go.Proofs.YtnaclkaapicelaaGreat

namespace Go.Proofs.YtnaclkaapicelaaGreat
open Go.RowKit
section
variable {P : Program} {ops : Array Oper} {md : Region.Mode} {w : World} {kd : Nat → Kd} {sp : Nat → Told}
/-- One operation waits for another, directly or through others. -/
def waitsT (md : Region.Mode) (ops : Array Oper) : Nat → Nat → Nat → Bool
  | 0, j, i => Region.waitsFor md ops j i
  | n + 1, j, i => Region.waitsFor md ops j i || (List.range ops.size).any fun k => Region.waitsFor md ops j k && waitsT md ops n k i
/-- What is listed has all listed for which it waits. -/
def Closed (md : Region.Mode) (ops : Array Oper) (listed : Array Bool) : Prop := ∀ j oj, ops[j]? = some oj → listed.getD j false = true → ∀ e ∈ oj.after, Region.binds md e = true → listed.getD e.on false = true
theorem Closed.none (md : Region.Mode) (ops : Array Oper) (n : Nat) : Closed md ops (Array.replicate n false) := fun j _ _ h => by
  rw [Array.getD_eq_getD_getElem?, Array.getElem?_replicate] at h
  split at h <;> simp at h
theorem Closed.set {listed : Array Bool} (h : Closed md ops listed) {i : Nat} (hi : i ∈ Region.ready md ops listed) : Closed md ops (listed.setIfInBounds i true) := fun j oj hj hl e he hb => by
  by_cases hij : i = j
  · subst hij
    obtain ⟨-, o, ho, hall⟩ := mem_ready.1 hi
    obtain rfl : o = oj := Option.some.inj (ho.symm.trans hj)
    exact getD_set_true (hall e he hb)
  · rw [getD_set_ne false hij] at hl
    exact getD_set_true (h j oj hj hl e he hb)
theorem waitsT_done {listed : Array Bool} (h : Closed md ops listed) : ∀ (n j i : Nat), (∀ oj, ops[j]? = some oj → ∀ e ∈ oj.after, Region.binds md e = true → listed.getD e.on false = true) → waitsT md ops n j i = true → listed.getD i false = true
  | 0, j, i, hd, hw => by
    obtain ⟨oj, hoj, e, he, hb, hon⟩ := Region.waitsFor_spec hw
    rw [← hon]; exact hd oj hoj e he hb
  | n + 1, j, i, hd, hw => by
    simp only [waitsT, Bool.or_eq_true, List.any_eq_true, Bool.and_eq_true] at hw
    rcases hw with hw | ⟨k, -, hk, hw⟩
    · obtain ⟨oj, hoj, e, he, hb, hon⟩ := Region.waitsFor_spec hw
      rw [← hon]; exact hd oj hoj e he hb
    · obtain ⟨oj, hoj, e, he, hb, hon⟩ := Region.waitsFor_spec hk
      have hkl : listed.getD k false = true := by rw [← hon]; exact hd oj hoj e he hb
      exact waitsT_done h n k i (fun ok hok e he hb => h k ok hok hkl e he hb) hw
theorem waitsT_ready {listed : Array Bool} (h : Closed md ops listed) (n j i : Nat) (hj : j ∈ Region.ready md ops listed) (hw : waitsT md ops n j i = true) : listed.getD i false = true :=
  waitsT_done h n j i (fun oj hoj e he hb => by
    obtain ⟨-, o, ho, hall⟩ := mem_ready.1 hj
    obtain rfl : o = oj := Option.some.inj (ho.symm.trans hoj)
    exact hall e he hb) hw
theorem wpAnyKT_first {E : Act → (World → Prop) → Prop} {i : Nat} {oi : Oper} (hi : ops[i]? = some oi) (hsel : ∀ (j : Nat) (o : Oper) cs b, ops[j]? = some o → o.op ≠ .select cs b)
    (hsw : ∀ j, j < ops.size → j ≠ i → swapOk (kd i) (kd j) = false → waitsT md ops 2 j i = true ∨ waitsT md ops 2 i j = true) :
    ∀ (f : Nat) (listed : Array Bool) (a : Act) (D : World → Prop), Ne D → Closed md ops listed →
      (∀ j oj, ops[j]? = some oj → j ≠ i → listed.getD j true = false → (∀ e ∈ oj.after, Region.binds md e = true → e.on ≠ i) → oi.apart ops oj = true) →
      i ∈ Region.ready md ops listed → mOp P ops w kd sp i (wpAnyK P md ops w kd sp E f (listed.setIfInBounds i true)) a D → wpAnyK P md ops w kd sp E (f + 1) listed a D := by
  intro f
  induction f with
  | zero =>
    intro listed a D hne _ _ hr H
    refine ⟨fun h => (by rw [h] at hr; cases hr), fun j hj => ?_⟩
    by_cases hji : j = i
    · subst hji; exact H
    · unfold mOp at H
      rw [hi] at H
      obtain ⟨a', D', -, h0, -⟩ := mStep_some hne H
      have := ready_mono hj hji
      rw [h0] at this; cases this
  | succ f ih =>
    intro listed a D hne hcl hfree hr H
    refine ⟨fun h => (by rw [h] at hr; cases hr), fun j hj => ?_⟩
    by_cases hji : j = i
    · subst hji; exact H
    · obtain ⟨hjun, oj, hoj, hall⟩ := mem_ready.1 hj
      have hun := (mem_ready.1 hr).1
      have hnot : ∀ e ∈ oj.after, Region.binds md e = true → e.on ≠ i := fun e he hb heq => by
        have h1 := hall e he hb
        rw [heq, getD_both hun] at h1
        cases h1
      have hap := hfree j oj hoj hji hjun hnot
      have hswap : swapOk (kd i) (kd j) = true := by
        cases hs : swapOk (kd i) (kd j) with
        | true => rfl
        | false =>
          rcases hsw j (Array.getElem?_eq_some_iff.1 hoj).1 hji hs with h1 | h1
          · have h2 := waitsT_ready hcl 2 j i hj h1
            rw [getD_both hun] at h2; cases h2
          · have h2 := waitsT_ready hcl 2 i j hr h1
            rw [getD_both hjun] at h2; cases h2
      have hfree' : ∀ k ok, ops[k]? = some ok → k ≠ i → (listed.setIfInBounds j true).getD k true = false →
          (∀ e ∈ ok.after, Region.binds md e = true → e.on ≠ i) → oi.apart ops ok = true := fun k ok hk hki hun' hno => by
        refine hfree k ok hk hki ?_ hno
        by_cases hjk : j = k
        · subst hjk; exact hjun
        · rw [getD_set_ne true hjk] at hun'; exact hun'
      have hri := ready_mono hr (Ne.symm hji)
      unfold mOp at H
      rw [hi] at H
      have H2 : mStep P ops w kd sp oi i (fun a1 D1 => mStep P ops w kd sp oj j (wpAnyK P md ops w kd sp E f ((listed.setIfInBounds i true).setIfInBounds j true)) a1 D1) a D :=
        mStep_mono hne (fun a1 D1 _ hK => by
          have := hK.2 j (ready_mono hj hji)
          unfold mOp at this
          rw [hoj] at this
          exact this) H
      have H3 := mStep_swap hap (fun cs b => hsel i oi cs b hi) (fun cs b => hsel j oj cs b hoj) hswap hne H2
      unfold mOp
      rw [hoj]
      refine mStep_mono hne (fun a2 D2 hne2 h3 => ih (listed.setIfInBounds j true) a2 D2 hne2 (hcl.set hj) hfree' hri ?_) H3
      unfold mOp
      rw [hi, Array.setIfInBounds_comm _ _ hji]
      exact h3
def mixTB (md : Region.Mode) (ops : Array Oper) (kd : Nat → Kd) : Bool :=
  Region.lexB md ops && (List.range ops.size).all fun i => (List.range ops.size).all fun j => decide (j = i) || (swapOk (kd i) (kd j) || (waitsT md ops 2 j i || waitsT md ops 2 i j))
theorem wpAnyKT_lex {E : Act → (World → Prop) → Prop} (hs : Region.noSelect ops = true) (hsw : ∀ i j, i < ops.size → j < ops.size → j ≠ i → swapOk (kd i) (kd j) = false → waitsT md ops 2 j i = true ∨ waitsT md ops 2 i j = true) :
    ∀ (l : List Oper) (k : Nat) (listed : Array Bool) (a : Act) (D : World → Prop), Ne D → Closed md ops listed → (∀ j, l[j]? = ops[k + j]?) →
    Region.lexFrom md ops l.length k listed = true → wpMix P ops w kd sp E l k a D → wpAnyK P md ops w kd sp E l.length listed a D
  | [], _, _, _, _, _, _, _, hB, h => ⟨by simpa [Region.lexFrom] using hB, h⟩
  | o :: l, k, listed, a, D, hne, hcl, hl, hB, h => by
    have h0 : ops[k]? = some o := by simpa using (hl 0).symm
    simp only [List.length_cons, Region.lexFrom, Bool.and_eq_true] at hB
    obtain ⟨⟨hr, hf⟩, hB'⟩ := hB
    have hk : k < ops.size := (Array.getElem?_eq_some_iff.1 h0).1
    refine wpAnyKT_first h0 (Region.noSelect_spec hs) (fun j hjl hj hsw' => hsw k j hk hjl hj hsw') l.length listed a D hne hcl (Region.free_spec h0 hf) (by simpa using hr) ?_
    unfold mOp
    rw [h0]
    exact mStep_mono hne (fun a' D' hne' h' => wpAnyKT_lex hs hsw l (k + 1) _ a' D' hne' (hcl.set (by simpa using hr)) (fun j => by have := hl (j + 1); simpa [Nat.add_assoc, Nat.add_comm 1 j] using this) hB' h') h
/-- **The law.** -/
theorem wp_region_mixedT {id : Nat} {Q : Exit → Act → World → Prop} {a : Act} {w : World} {l : List Oper} (kds : List Kd) (sp : Nat → Told) (hm : P.follows .mixedOrders = true) (hB : mixTB .any l.toArray (fun i => kds.getD i .pure) = true)
    (h : wpMix P l.toArray w (fun i => kds.getD i .pure) sp (fun a D => ∀ W, D W → Q .normal a W) l 0 a (Grown w)) : (Code.region id l.toArray true).wp P Q a w := by
  simp only [mixTB, Bool.and_eq_true] at hB
  obtain ⟨hlex, hall⟩ := hB
  simp only [Region.lexB, Bool.and_eq_true] at hlex
  have hg0 : Grown w { w with drawn := w.drawn + 1 } := (Below.refl _ _).drew
  refine wp_region_any hm (wpAny_of_K (w := w) (kd := fun i => kds.getD i .pure) (sp := sp) _ _ _ (Grown w) _ hg0 ?_)
  have := wpAnyKT_lex (P := P) (md := .any) (w := w) (kd := fun i => kds.getD i .pure) (sp := sp) (E := fun a D => ∀ W, D W → Q .normal a W) hlex.1 (fun i j hi hjl hj hs => by
    have h1 := List.all_eq_true.1 (List.all_eq_true.1 hall i (List.mem_range.2 hi)) j (List.mem_range.2 hjl)
    simp only [Bool.or_eq_true, decide_eq_true_eq] at h1
    rcases h1 with h1 | h1 | h1 | h1
    · exact absurd h1 hj
    · rw [hs] at h1; cases h1
    · exact .inl h1
    · exact .inr h1) l 0 (Array.replicate l.toArray.size false) a (Grown w) ⟨w, Grown.refl w⟩ (Closed.none _ _ _) (by simp) (by simpa using hlex.2) h
  simpa using this
end
end Go.Proofs.YtnaclkaapicelaaGreat

namespace Go.Proofs.YtnaclkaapicelaaGreat
open Go.RowKit
set_option maxRecDepth 100000
section
variable {P : Program} {a : Act} {o : Oper}
theorem runs_built (t : TypeId) (parts : List (Nat × Operand)) (ho : o.op = .build t parts.toArray) (cells : Array Value)
    (vs : List (Nat × Value)) (hv : parts.map (fun (i, x) => (i, a.eval x)) = vs) (hc : P.built t vs = some cells) (W : World) : RunsTo P o a W (.agg cells) := by
  have e : ((parts.toArray.map fun (i, x) => (i, a.eval x)).toList) = vs := by rw [← hv]; simp
  unfold RunsTo execOp
  simp only [ho, Sem.run_bind, run_build W t _ cells (by rw [e]; exact hc), Result.andThen_ok, Sem.run_pure]
theorem mix_built {ops : Array Oper} {w : World} {kd : Nat → Kd} {sp : Nat → Told} {E : Act → (World → Prop) → Prop} {rest : List Oper} {k : Nat} {D : World → Prop} (hw : Region.wanted o (yielded ops a.tmps) = true) (hk : kd k = .pure) (t : TypeId) (parts : List (Nat × Operand)) (ho : o.op = .build t parts.toArray) (cells : Array Value)
    (vs : List (Nat × Value)) (hv : parts.map (fun (i, x) => (i, a.eval x)) = vs) (hc : P.built t vs = some cells)
    (h : wpMix P ops w kd sp E rest (k + 1) (a.put o.dst (.agg cells)) D) : wpMix P ops w kd sp E (o :: rest) k a D := by
  unfold wpMix mStep
  rw [if_pos hw, hk]
  exact ⟨_, runs_built t parts ho cells vs hv hc, h⟩
end
end Go.Proofs.YtnaclkaapicelaaGreat

namespace Go.Proofs.YtnaclkaapicelaaGreat
open Go.RowKit
section
variable {P : Program} {ops : Array Oper} {md : Region.Mode} {w : World} {kd : Nat → Kd} {sp : Nat → Told} {fr : Nat → Bool}
def slotV (ops : Array Oper) (a : Act) (j : Nat) : Value := match (ops[j]?).bind (·.dst) with
  | some d => a.tmps.getD d undef
  | none => undef
def ptrTo (v : Value) : Option Nat := match v with
  | .pointer (some ⟨b, _, _⟩) => some b
  | _ => none
/-- The blocks in the slots of fresh operations are apart. -/
def Dist (ops : Array Oper) (fr : Nat → Bool) (a : Act) : Prop := ∀ i j b, fr i = true → fr j = true → i ≠ j → ptrTo (slotV ops a i) = some b → ptrTo (slotV ops a j) ≠ some b
def Real (ops : Array Oper) (fr : Nat → Bool) (a : Act) (W : World) : Prop := Dist ops fr a ∧ ∀ i b, fr i = true → ptrTo (slotV ops a i) = some b → b < W.heap.size
structure FrOk (P : Program) (ops : Array Oper) (w : World) (kd : Nat → Kd) (sp : Nat → Told) (fr : Nat → Bool) : Prop where
  dst : ∀ i j oi oj d, fr i = true → i ≠ j → ops[i]? = some oi → ops[j]? = some oj → oi.dst = some d → oj.dst ≠ some d
  alloc : ∀ i, fr i = true → ∃ oi T z, ops[i]? = some oi ∧ oi.op = .alloc T ∧ (∀ W, (zeroValue T).run P W = .ok z W) ∧ oi.guard = none
  make : ∀ i, fr i = true → kd i = .make
theorem FrOk.not_of (h : FrOk P ops w kd sp fr) {i : Nat} (hk : kd i ≠ .make) : fr i = false := by
  cases hf : fr i with
  | false => rfl
  | true => exact absurd (h.make i hf) hk
theorem FrOk.not_wanted (h : FrOk P ops w kd sp fr) {i : Nat} {o : Oper} {a : Act} (ho : ops[i]? = some o) (hw : Region.wanted o (yielded ops a.tmps) = false) : fr i = false := by
  cases hf : fr i with
  | false => rfl
  | true =>
    obtain ⟨oi, T, z, hoi, -, -, hg⟩ := h.alloc i hf
    obtain rfl : oi = o := Option.some.inj (hoi.symm.trans ho)
    unfold Region.wanted at hw
    rw [hg] at hw
    cases hw
theorem getD_put_ne (a : Act) {x : Option Tmp} {d : Tmp} (v : Value) (h : x ≠ some d) : (a.put x v).tmps.getD d undef = a.tmps.getD d undef := by
  cases x with
  | none => rfl
  | some e =>
    have hne : e ≠ d := fun h' => h (by rw [h'])
    simp only [Act.put, Array.getD_eq_getD_getElem?, Array.getElem?_setIfInBounds]
    rw [if_neg hne]
theorem slotV_put (h : FrOk P ops w kd sp fr) {k : Nat} {ok : Oper} (hk : ops[k]? = some ok) {j : Nat} (hj : fr j = true) (hne : j ≠ k) (a : Act) (v : Value) : slotV ops (a.put ok.dst v) j = slotV ops a j := by
  unfold slotV
  cases hd : (ops[j]?).bind (·.dst) with
  | none => rfl
  | some d =>
    cases hoj : ops[j]? with
    | none => rw [hoj] at hd; cases hd
    | some oj =>
      rw [hoj] at hd
      have hd : oj.dst = some d := hd
      exact getD_put_ne a v (h.dst j k oj ok d hj hne hoj hk hd)
theorem dist_put (h : FrOk P ops w kd sp fr) {k : Nat} {ok : Oper} (hk : ops[k]? = some ok) (hf : fr k = false) (a : Act) (v : Value) : Dist ops fr (a.put ok.dst v) ↔ Dist ops fr a := by
  have hs : ∀ j, fr j = true → slotV ops (a.put ok.dst v) j = slotV ops a j := fun j hj => slotV_put h hk hj (fun e => by rw [e, hf] at hj; cases hj) a v
  constructor
  · intro hd i j b hi hj hne h1 h2
    exact hd i j b hi hj hne (by rw [hs i hi]; exact h1) (by rw [hs j hj]; exact h2)
  · intro hd i j b hi hj hne h1 h2
    rw [hs i hi] at h1
    rw [hs j hj] at h2
    exact hd i j b hi hj hne h1 h2
theorem Real.put {a : Act} {W W' : World} (hI : Real ops fr a W) (h : FrOk P ops w kd sp fr) {k : Nat} {ok : Oper} (hk : ops[k]? = some ok) (hf : fr k = false) (v : Value) (hz : W.heap.size ≤ W'.heap.size) : Real ops fr (a.put ok.dst v) W' :=
  ⟨(dist_put h hk hf a v).2 hI.1, fun i b hi hb => by
    rw [slotV_put h hk hi (fun e => by rw [e, hf] at hi; cases hi) a v] at hb
    exact Nat.lt_of_lt_of_le (hI.2 i b hi hb) hz⟩
theorem slotV_self {k : Nat} {ok : Oper} (hk : ops[k]? = some ok) (a : Act) (v : Value) {b : Nat} (hb : ptrTo (slotV ops (a.put ok.dst v) k) = some b) : ptrTo v = some b := by
  unfold slotV at hb
  rw [hk] at hb
  cases hd : ok.dst with
  | none =>
    simp only [Option.bind_some, hd] at hb
    cases hb
  | some d =>
    simp only [Option.bind_some, hd, Act.put, Array.getD_eq_getD_getElem?, Array.getElem?_setIfInBounds, if_true] at hb
    split at hb
    · exact hb
    · cases hb
theorem Real.fresh {a : Act} {W : World} (hI : Real ops fr a W) (h : FrOk P ops w kd sp fr) {k : Nat} {ok : Oper} (hk : ops[k]? = some ok) (_hf : fr k = true) (W' : World) (hz : W'.heap.size = W.heap.size + 1) : Real ops fr (a.put ok.dst (.pointer (some ⟨W.heap.size, 0, none⟩))) W' := by
  have hother : ∀ i, fr i = true → i ≠ k → slotV ops (a.put ok.dst (.pointer (some ⟨W.heap.size, 0, none⟩))) i = slotV ops a i := fun i hi hne => slotV_put h hk hi hne a _
  have hself : ∀ b, ptrTo (slotV ops (a.put ok.dst (.pointer (some ⟨W.heap.size, 0, none⟩))) k) = some b → b = W.heap.size := fun b hb => by
    have := slotV_self hk a _ hb
    simpa [ptrTo] using this.symm
  refine ⟨fun i j b hi hj hne h1 h2 => ?_, fun i b hi hb => ?_⟩
  · by_cases ei : i = k
    · subst ei
      have := hself b h1
      rw [hother j hj (fun e => hne e.symm)] at h2
      have := hI.2 j b hj h2
      omega
    · by_cases ej : j = k
      · subst ej
        have := hself b h2
        rw [hother i hi ei] at h1
        have := hI.2 i b hi h1
        omega
      · rw [hother i hi ei] at h1
        rw [hother j hj ej] at h2
        exact hI.1 i j b hi hj hne h1 h2
  · by_cases ei : i = k
    · subst ei
      have := hself b hb
      omega
    · rw [hother i hi ei] at hb
      have := hI.2 i b hi hb
      omega
def frDst (ops : Array Oper) (fl : List Nat) : Bool := fl.all fun i => (List.range ops.size).all fun j => decide (j = i) || match (ops[i]?).bind (·.dst), (ops[j]?).bind (·.dst) with
  | some d, some e => decide (d ≠ e)
  | _, _ => true
def frAct (ops : Array Oper) (fl : List Nat) (a : Act) : Bool := fl.all fun i => (ptrTo (slotV ops a i)).isNone
theorem FrOk.of {kds : List Kd} {fl : List Nat} (hd : frDst ops fl = true) (hal : ∀ i ∈ fl, ∃ oi T z, ops[i]? = some oi ∧ oi.op = .alloc T ∧ (∀ W, (zeroValue T).run P W = .ok z W) ∧ oi.guard = none ∧ kds.getD i .pure = .make) : FrOk P ops w (fun i => kds.getD i .pure) sp (fun i => fl.contains i) := by
  refine ⟨fun i j oi oj d hi hne hoi hoj hdi hdj => ?_, fun i hi => ?_, fun i hi => ?_⟩
  · have h1 := List.all_eq_true.1 (List.all_eq_true.1 hd i (by simpa using hi)) j (List.mem_range.2 (Array.getElem?_eq_some_iff.1 hoj).1)
    rw [hoi, hoj] at h1
    simp only [Option.bind_some, hdi, hdj] at h1
    simp at h1
    exact hne h1.symm
  · obtain ⟨oi, T, z, h1, h2, h3, h4, -⟩ := hal i (by simpa using hi)
    exact ⟨oi, T, z, h1, h2, h3, h4⟩
  · obtain ⟨oi, T, z, -, -, -, -, h5⟩ := hal i (by simpa using hi)
    exact h5
theorem Real.of {fl : List Nat} {a : Act} (h : frAct ops fl a = true) (W : World) : Real ops (fun i => fl.contains i) a W := by
  have hn : ∀ i, fl.contains i = true → ptrTo (slotV ops a i) = none := fun i hi => by
    have := List.all_eq_true.1 h i (by simpa using hi)
    simpa using this
  exact ⟨fun i j b hi _ _ h1 => (by rw [hn i hi] at h1; cases h1), fun i b hi h1 => (by rw [hn i hi] at h1; cases h1)⟩
def mStepF (P : Program) (ops : Array Oper) (w : World) (kd : Nat → Kd) (sp : Nat → Told) (fr : Nat → Bool) (o : Oper) (i : Nat) (K : Act → (World → Prop) → Prop) (a : Act) (D : World → Prop) : Prop :=
  if Region.wanted o (yielded ops a.tmps) = true then
    match kd i with
    | .pure => ∃ v, (∀ W, RunsTo P o a W v) ∧ K (a.put o.dst v) D
    | .held => Keeps w D ∧ ∃ v, (∀ W, Grown w W → RunsTo P o a W v) ∧ K (a.put o.dst v) D
    | .make => Keeps w D ∧ (∀ v W U, (sp i).R v W → Grown W U → (sp i).R v U) ∧ Makes P w o (sp i).S (sp i).R a ∧ ∀ v, (sp i).S v → Ne (fun W => D W ∧ (sp i).R v W) → K (a.put o.dst v) (fun W => D W ∧ (sp i).R v W)
    | .tail => ∃ (S : Value → Prop) (R : Value → World → Prop), (∃ v, S v ∧ Ne (R v)) ∧ (Dist ops fr a → ∀ W, D W → Oper.goes P o a W (fun u W' => (S u ∧ R u W') ∧ W.heap.size ≤ W'.heap.size)) ∧ ∀ v, S v → Ne (R v) → K (a.put o.dst v) (R v)
  else K (a.put o.dst undef) D
def mOpF (P : Program) (ops : Array Oper) (w : World) (kd : Nat → Kd) (sp : Nat → Told) (fr : Nat → Bool) (i : Nat) (K : Act → (World → Prop) → Prop) (a : Act) (D : World → Prop) : Prop :=
  match ops[i]? with
  | none => K a D
  | some o => mStepF P ops w kd sp fr o i K a D
theorem mStep_monoF {o : Oper} {i : Nat} {a : Act} {D : World → Prop} {K K' : Act → (World → Prop) → Prop} (hne : Ne D) (h : ∀ a D, Ne D → K a D → K' a D) (hh : mStepF P ops w kd sp fr o i K a D) : mStepF P ops w kd sp fr o i K' a D := by
  unfold mStepF at *
  split
  · rename_i hw
    rw [if_pos hw] at hh
    cases hk : kd i <;> rw [hk] at hh <;> simp only at hh ⊢
    · obtain ⟨v, h1, h2⟩ := hh; exact ⟨v, h1, h _ _ hne h2⟩
    · obtain ⟨h0, v, h1, h2⟩ := hh; exact ⟨h0, v, h1, h _ _ hne h2⟩
    · obtain ⟨h0, h1, h2, h3⟩ := hh; exact ⟨h0, h1, h2, fun v hv hn => h _ _ hn (h3 v hv hn)⟩
    · obtain ⟨S, R, h0, h1, h2⟩ := hh; exact ⟨S, R, h0, h1, fun v hv hn => h _ _ hn (h2 v hv hn)⟩
  · rename_i hw; rw [if_neg hw] at hh; exact h _ _ hne hh
theorem mStep_someF {o : Oper} {i : Nat} {a : Act} {D : World → Prop} {K : Act → (World → Prop) → Prop} (hne : Ne D) (hh : mStepF P ops w kd sp fr o i K a D) : ∃ a' D', Ne D' ∧ K a' D' := by
  unfold mStepF at hh
  split at hh
  · cases hk : kd i <;> rw [hk] at hh <;> simp only at hh
    · obtain ⟨v, -, h2⟩ := hh; exact ⟨_, _, hne, h2⟩
    · obtain ⟨-, v, -, h2⟩ := hh; exact ⟨_, _, hne, h2⟩
    · obtain ⟨h0, h1, h2, h3⟩ := hh
      obtain ⟨W, hW⟩ := hne
      obtain ⟨v, W', ⟨hs, hr⟩, hg⟩ := goes_some (h2 W (h0.out W hW))
      have hn : Ne (fun W => D W ∧ (sp i).R v W) := ⟨W', h0.grow W W' hW hg, hr⟩
      exact ⟨_, _, hn, h3 v hs hn⟩
    · obtain ⟨S, R, ⟨v, hs, hn⟩, -, h2⟩ := hh
      exact ⟨_, _, hn, h2 v hs hn⟩
  · exact ⟨_, _, hne, hh⟩
theorem mStep_swapF {i j : Nat} {oi oj : Oper} (hap : oi.apart ops oj = true) (hsi : ∀ cs b, oi.op ≠ .select cs b) (hsj : ∀ cs b, oj.op ≠ .select cs b) (hk : swapOk (kd i) (kd j) = true) {K : Act → (World → Prop) → Prop} {a : Act} {D : World → Prop} (hne : Ne D) (hfr : FrOk P ops w kd sp fr) (hoi : ops[i]? = some oi) (hoj : ops[j]? = some oj)
    (h : mStepF P ops w kd sp fr oi i (fun a1 D1 => mStepF P ops w kd sp fr oj j K a1 D1) a D) : mStepF P ops w kd sp fr oj j (fun a2 D2 => mStepF P ops w kd sp fr oi i K a2 D2) a D := by
  obtain ⟨h1, h2, h3⟩ := Oper.apart_spec hap
  have ei : ∀ (a : Act) u, execOp (a.put oj.dst u).eval oi = execOp a.eval oi := fun a u => execOp_put oi hsi a oj.dst u h3
  have ej : ∀ (a : Act) u, execOp (a.put oi.dst u).eval oj = execOp a.eval oj := fun a u => execOp_put oj hsj a oi.dst u h1
  have wi : ∀ (a : Act) u, Region.wanted oi (yielded ops (a.put oj.dst u).tmps) = Region.wanted oi (yielded ops a.tmps) := fun a u => wanted_put oi a oj.dst u h3
  have wj : ∀ (a : Act) u, Region.wanted oj (yielded ops (a.put oi.dst u).tmps) = Region.wanted oj (yielded ops a.tmps) := fun a u => wanted_put oj a oi.dst u h1
  have pc : ∀ (a : Act) u v, (a.put oi.dst u).put oj.dst v = (a.put oj.dst v).put oi.dst u := fun a u v => Act.put_comm a u v h2
  have ri : ∀ (a : Act) u W v, RunsTo P oi (a.put oj.dst u) W v ↔ RunsTo P oi a W v := fun a u W v => by unfold RunsTo; rw [ei]
  have rj : ∀ (a : Act) u W v, RunsTo P oj (a.put oi.dst u) W v ↔ RunsTo P oj a W v := fun a u W v => by unfold RunsTo; rw [ej]
  have gi : ∀ (a : Act) u W T, Oper.goes P oi (a.put oj.dst u) W T ↔ Oper.goes P oi a W T := fun a u W T => by unfold Oper.goes; rw [ei]
  have gj : ∀ (a : Act) u W T, Oper.goes P oj (a.put oi.dst u) W T ↔ Oper.goes P oj a W T := fun a u W T => by unfold Oper.goes; rw [ej]
  have mi : ∀ (a : Act) u S R, Makes P w oi S R (a.put oj.dst u) ↔ Makes P w oi S R a := fun a u S R => by unfold Makes; simp only [gi]
  have mj : ∀ (a : Act) u S R, Makes P w oj S R (a.put oi.dst u) ↔ Makes P w oj S R a := fun a u S R => by unfold Makes; simp only [gj]
  have dc : ∀ (A B : World → Prop), (fun W => (D W ∧ A W) ∧ B W) = (fun W => (D W ∧ B W) ∧ A W) := fun A B => by funext W; exact propext ⟨fun ⟨⟨a, b⟩, c⟩ => ⟨⟨a, c⟩, b⟩, fun ⟨⟨a, b⟩, c⟩ => ⟨⟨a, c⟩, b⟩⟩
  have di : fr i = false → ∀ (a : Act) u, Dist ops fr (a.put oi.dst u) ↔ Dist ops fr a := fun h a u => dist_put hfr hoi h a u
  have dj : fr j = false → ∀ (a : Act) u, Dist ops fr (a.put oj.dst u) ↔ Dist ops fr a := fun h a u => dist_put hfr hoj h a u
  unfold mStepF at h ⊢
  simp only [wi, wj, ri, rj, gi, gj, mi, mj] at h ⊢
  by_cases hwi : Region.wanted oi (yielded ops a.tmps) = true
  · by_cases hwj : Region.wanted oj (yielded ops a.tmps) = true
    · simp only [hwi, hwj, if_true] at h ⊢
      cases hki : kd i <;> cases hkj : kd j <;> rw [hki, hkj] at hk <;> simp only [hki, hkj] at h ⊢
      case tail.tail => simp [swapOk] at hk
      case tail.held => simp [swapOk] at hk
      case tail.make => simp [swapOk] at hk
      case held.tail => simp [swapOk] at hk
      case make.tail => simp [swapOk] at hk
      case pure.pure =>
        obtain ⟨v, hv, u, hu, hK⟩ := h
        exact ⟨u, hu, v, hv, by rw [← pc]; exact hK⟩
      case pure.held =>
        obtain ⟨v, hv, hD, u, hu, hK⟩ := h
        exact ⟨hD, u, hu, v, hv, by rw [← pc]; exact hK⟩
      case pure.make =>
        obtain ⟨v, hv, hD, hst, hM, hK⟩ := h
        exact ⟨hD, hst, hM, fun u hu hn => ⟨v, hv, by rw [← pc]; exact hK u hu hn⟩⟩
      case pure.tail =>
        obtain ⟨v, hv, S, R, h0, hg, hK⟩ := h
        have fi : fr i = false := hfr.not_of (by rw [hki]; decide)
        exact ⟨S, R, h0, fun hd => hg ((di fi a v).2 hd), fun u hu hn => ⟨v, hv, by rw [← pc]; exact hK u hu hn⟩⟩
      case held.pure =>
        obtain ⟨hD, v, hv, u, hu, hK⟩ := h
        exact ⟨u, hu, hD, v, hv, by rw [← pc]; exact hK⟩
      case held.held =>
        obtain ⟨hD, v, hv, -, u, hu, hK⟩ := h
        exact ⟨hD, u, hu, hD, v, hv, by rw [← pc]; exact hK⟩
      case held.make =>
        obtain ⟨hD, v, hv, -, hst, hM, hK⟩ := h
        exact ⟨hD, hst, hM, fun u hu hn => ⟨⟨fun W hW => hD.out W hW.1, fun W U hW hg => ⟨hD.grow W U hW.1 hg, hst u W U hW.2 hg⟩⟩, v, hv, by rw [← pc]; exact hK u hu hn⟩⟩
      case make.pure =>
        obtain ⟨hD, hst, hM, hK⟩ := h
        obtain ⟨W, hW⟩ := hne
        obtain ⟨v0, W', ⟨hs0, hr0⟩, hg0⟩ := goes_some (hM W (hD.out W hW))
        obtain ⟨u, hu, -⟩ := hK v0 hs0 ⟨W', hD.grow W W' hW hg0, hr0⟩
        refine ⟨u, hu, hD, hst, hM, fun v hv hn => ?_⟩
        obtain ⟨u', hu', hK'⟩ := hK v hv hn
        have : u' = u := runsTo_uniq (hu' W) (hu W)
        subst this
        rw [← pc]; exact hK'
      case make.held =>
        obtain ⟨hD, hst, hM, hK⟩ := h
        obtain ⟨W, hW⟩ := hne
        obtain ⟨v0, W', ⟨hs0, hr0⟩, hg0⟩ := goes_some (hM W (hD.out W hW))
        obtain ⟨-, u, hu, -⟩ := hK v0 hs0 ⟨W', hD.grow W W' hW hg0, hr0⟩
        refine ⟨hD, u, hu, hD, hst, hM, fun v hv hn => ?_⟩
        obtain ⟨-, u', hu', hK'⟩ := hK v hv hn
        have : u' = u := runsTo_uniq (hu' W (hD.out W hW)) (hu W (hD.out W hW))
        subst this
        rw [← pc]; exact hK'
      case make.make =>
        obtain ⟨hD, hst, hM, hK⟩ := h
        obtain ⟨W, hW⟩ := hne
        obtain ⟨v0, W', ⟨hs0, hr0⟩, hg0⟩ := goes_some (hM W (hD.out W hW))
        obtain ⟨-, hst2, hM2, -⟩ := hK v0 hs0 ⟨W', hD.grow W W' hW hg0, hr0⟩
        refine ⟨hD, hst2, hM2, fun u hu hn => ⟨⟨fun W hW => hD.out W hW.1, fun W U hW hg => ⟨hD.grow W U hW.1 hg, hst2 u W U hW.2 hg⟩⟩, hst, hM, fun v hv hn2 => ?_⟩⟩
        obtain ⟨Wx, ⟨hx1, hx2⟩, hx3⟩ := hn2
        have := (hK v hv ⟨Wx, hx1, hx3⟩).2.2.2 u hu ⟨Wx, ⟨hx1, hx3⟩, hx2⟩
        rw [← pc, ← dc]
        exact this
      case tail.pure =>
        obtain ⟨S, R, ⟨v0, hs0, hn0⟩, hg, hK⟩ := h
        obtain ⟨W, hW⟩ := hne
        have fj : fr j = false := hfr.not_of (by rw [hkj]; decide)
        obtain ⟨u, hu, -⟩ := hK v0 hs0 hn0
        refine ⟨u, hu, S, R, ⟨v0, hs0, hn0⟩, fun hd => hg ((dj fj a u).1 hd), fun v hv hn => ?_⟩
        obtain ⟨u', hu', hK'⟩ := hK v hv hn
        have : u' = u := runsTo_uniq (hu' W) (hu W)
        subst this
        rw [← pc]; exact hK'
    · simp only [hwi, hwj, if_true, Bool.false_eq_true, if_false] at h ⊢
      have fj : fr j = false := hfr.not_wanted hoj (by simpa using hwj)
      cases hki : kd i <;> simp only [hki] at h ⊢
      · obtain ⟨v, hv, hK⟩ := h; exact ⟨v, hv, by rw [← pc]; exact hK⟩
      · obtain ⟨hD, v, hv, hK⟩ := h; exact ⟨hD, v, hv, by rw [← pc]; exact hK⟩
      · obtain ⟨hD, hst, hM, hK⟩ := h; exact ⟨hD, hst, hM, fun v hv hn => by rw [← pc]; exact hK v hv hn⟩
      · obtain ⟨S, R, h0, hg, hK⟩ := h; exact ⟨S, R, h0, fun hd => hg ((dj fj a _).1 hd), fun v hv hn => by rw [← pc]; exact hK v hv hn⟩
  · by_cases hwj : Region.wanted oj (yielded ops a.tmps) = true
    · simp only [hwi, hwj, if_true, Bool.false_eq_true, if_false] at h ⊢
      have fi : fr i = false := hfr.not_wanted hoi (by simpa using hwi)
      cases hkj : kd j <;> simp only [hkj] at h ⊢
      · obtain ⟨v, hv, hK⟩ := h; exact ⟨v, hv, by rw [← pc]; exact hK⟩
      · obtain ⟨hD, v, hv, hK⟩ := h; exact ⟨hD, v, hv, by rw [← pc]; exact hK⟩
      · obtain ⟨hD, hst, hM, hK⟩ := h; exact ⟨hD, hst, hM, fun v hv hn => by rw [← pc]; exact hK v hv hn⟩
      · obtain ⟨S, R, h0, hg, hK⟩ := h; exact ⟨S, R, h0, fun hd => hg ((di fi a _).2 hd), fun v hv hn => by rw [← pc]; exact hK v hv hn⟩
    · simp only [hwi, hwj, Bool.false_eq_true, if_false] at h ⊢
      rw [← pc]; exact h
def wpAnyKF (P : Program) (md : Region.Mode) (ops : Array Oper) (w : World) (kd : Nat → Kd) (sp : Nat → Told) (fr : Nat → Bool) (E : Act → (World → Prop) → Prop) : Nat → Array Bool → Act → (World → Prop) → Prop
  | 0, listed, a, D => Region.ready md ops listed = [] ∧ E a D
  | f + 1, listed, a, D => (Region.ready md ops listed = [] → E a D) ∧ ∀ i ∈ Region.ready md ops listed, mOpF P ops w kd sp fr i (wpAnyKF P md ops w kd sp fr E f (listed.setIfInBounds i true)) a D
theorem wpOp_of_mOpF {i : Nat} {a : Act} {D : World → Prop} {K : Act → (World → Prop) → Prop} {K' : Act → World → Prop} {Q' : Exit → Act → World → Prop} {W : World} (hfr : FrOk P ops w kd sp fr) (hW : D W) (hI : Real ops fr a W)
    (h : ∀ a D W', D W' → Real ops fr a W' → K a D → K' a W') (hh : mOpF P ops w kd sp fr i K a D) : wpOp P ops Q' i K' a W := by
  unfold mOpF at hh
  unfold wpOp
  split
  · rename_i ho; simp only [ho] at hh; exact h _ _ _ hW hI hh
  · rename_i o ho
    simp only [ho] at hh
    unfold mStepF at hh
    split
    · rename_i hw
      rw [if_pos hw] at hh
      left
      cases hk : kd i <;> rw [hk] at hh <;> simp only at hh
      · obtain ⟨v, h1, h2⟩ := hh
        have h1 := h1 W
        unfold RunsTo at h1
        unfold Oper.wp
        rw [h1]
        exact h _ _ _ hW (hI.put hfr ho (hfr.not_of (by rw [hk]; decide)) v (Nat.le_refl _)) h2
      · obtain ⟨hD, v, h1, h2⟩ := hh
        have h1 := h1 W (hD.out W hW)
        unfold RunsTo at h1
        unfold Oper.wp
        rw [h1]
        exact h _ _ _ hW (hI.put hfr ho (hfr.not_of (by rw [hk]; decide)) v (Nat.le_refl _)) h2
      · obtain ⟨hD, hst, hM, hK⟩ := hh
        cases hf : fr i with
        | false => exact Oper.wp_of_goes (hM W (hD.out W hW)) fun v W' ⟨⟨hs, hr⟩, hg⟩ => h _ _ W' ⟨hD.grow W W' hW hg, hr⟩ (hI.put hfr ho hf v (Below.size hg)) (hK v hs ⟨W', hD.grow W W' hW hg, hr⟩)
        | true =>
          have hgo := hM W (hD.out W hW)
          obtain ⟨oi, T, z, hoi, hop, hz, -⟩ := hfr.alloc i hf
          obtain rfl : oi = o := Option.some.inj (hoi.symm.trans ho)
          have hr : (execOp a.eval oi).run P W = .ok (.value (.pointer (some ⟨W.heap.size, 0, none⟩))) (W.alloc (.cells z.cells T)) := by
            unfold execOp
            simp only [hop, Instr.alloc, Sem.run_bind, hz, Result.andThen_ok, newVar, newRow, newObj]
            rfl
          unfold Oper.goes at hgo
          rw [hr] at hgo
          obtain ⟨⟨hs, hr2⟩, hg⟩ := hgo
          unfold Oper.wp
          rw [hr]
          exact h _ _ _ ⟨hD.grow W _ hW hg, hr2⟩ (hI.fresh hfr ho hf (W.alloc (.cells z.cells T)) (by simp)) (hK _ hs ⟨_, hD.grow W _ hW hg, hr2⟩)
      · obtain ⟨S, R, -, hg, hK⟩ := hh
        exact Oper.wp_of_goes (hg hI.1 W hW) fun v W' ⟨⟨hs, hr⟩, hz⟩ => h _ _ W' hr (hI.put hfr ho (hfr.not_of (by rw [hk]; decide)) v hz) (hK v hs ⟨W', hr⟩)
    · rename_i hw
      rw [if_neg hw] at hh
      exact h _ _ _ hW (hI.put hfr ho (hfr.not_wanted ho (by simpa using hw)) undef (Nat.le_refl _)) hh
theorem wpAny_of_KF {Q : Exit → Act → World → Prop} (hfr : FrOk P ops w kd sp fr) : ∀ (f : Nat) (listed : Array Bool) (a : Act) (D : World → Prop) (W : World), D W → Real ops fr a W → wpAnyKF P md ops w kd sp fr (fun a D => Dist ops fr a → ∀ W, D W → Q .normal a W) f listed a D → wpAny P md ops Q f listed a W
  | 0, _, _, _, _, hW, hI, h => ⟨h.1, h.2 hI.1 _ hW⟩
  | f + 1, _, _, _, _, hW, hI, h => ⟨fun h0 => h.1 h0 hI.1 _ hW, fun i hi => wpOp_of_mOpF hfr hW hI (fun a' D' W' hW' hI' h' => wpAny_of_KF hfr f _ a' D' W' hW' hI' h') (h.2 i hi)⟩
theorem wpAnyK_firstF (hfr : FrOk P ops w kd sp fr) {E : Act → (World → Prop) → Prop} {i : Nat} {oi : Oper} (hi : ops[i]? = some oi) (hsel : ∀ (j : Nat) (o : Oper) cs b, ops[j]? = some o → o.op ≠ .select cs b)
    (hsw : ∀ j, j < ops.size → j ≠ i → swapOk (kd i) (kd j) = false → waitsT md ops 2 j i = true ∨ waitsT md ops 2 i j = true) :
    ∀ (f : Nat) (listed : Array Bool) (a : Act) (D : World → Prop), Ne D → Closed md ops listed →
      (∀ j oj, ops[j]? = some oj → j ≠ i → listed.getD j true = false → (∀ e ∈ oj.after, Region.binds md e = true → e.on ≠ i) → oi.apart ops oj = true) →
      i ∈ Region.ready md ops listed → mOpF P ops w kd sp fr i (wpAnyKF P md ops w kd sp fr E f (listed.setIfInBounds i true)) a D → wpAnyKF P md ops w kd sp fr E (f + 1) listed a D := by
  intro f
  induction f with
  | zero =>
    intro listed a D hne _ _ hr H
    refine ⟨fun h => (by rw [h] at hr; cases hr), fun j hj => ?_⟩
    by_cases hji : j = i
    · subst hji; exact H
    · unfold mOpF at H
      rw [hi] at H
      obtain ⟨a', D', -, h0, -⟩ := mStep_someF hne H
      have := ready_mono hj hji
      rw [h0] at this; cases this
  | succ f ih =>
    intro listed a D hne hcl hfree hr H
    refine ⟨fun h => (by rw [h] at hr; cases hr), fun j hj => ?_⟩
    by_cases hji : j = i
    · subst hji; exact H
    · obtain ⟨hjun, oj, hoj, hall⟩ := mem_ready.1 hj
      have hun := (mem_ready.1 hr).1
      have hnot : ∀ e ∈ oj.after, Region.binds md e = true → e.on ≠ i := fun e he hb heq => by
        have h1 := hall e he hb
        rw [heq, getD_both hun] at h1
        cases h1
      have hap := hfree j oj hoj hji hjun hnot
      have hswap : swapOk (kd i) (kd j) = true := by
        cases hs : swapOk (kd i) (kd j) with
        | true => rfl
        | false =>
          rcases hsw j (Array.getElem?_eq_some_iff.1 hoj).1 hji hs with h1 | h1
          · have h2 := waitsT_ready hcl 2 j i hj h1
            rw [getD_both hun] at h2; cases h2
          · have h2 := waitsT_ready hcl 2 i j hr h1
            rw [getD_both hjun] at h2; cases h2
      have hfree' : ∀ k ok, ops[k]? = some ok → k ≠ i → (listed.setIfInBounds j true).getD k true = false →
          (∀ e ∈ ok.after, Region.binds md e = true → e.on ≠ i) → oi.apart ops ok = true := fun k ok hk hki hun' hno => by
        refine hfree k ok hk hki ?_ hno
        by_cases hjk : j = k
        · subst hjk; exact hjun
        · rw [getD_set_ne true hjk] at hun'; exact hun'
      have hri := ready_mono hr (Ne.symm hji)
      unfold mOpF at H
      rw [hi] at H
      have H2 : mStepF P ops w kd sp fr oi i (fun a1 D1 => mStepF P ops w kd sp fr oj j (wpAnyKF P md ops w kd sp fr E f ((listed.setIfInBounds i true).setIfInBounds j true)) a1 D1) a D :=
        mStep_monoF hne (fun a1 D1 _ hK => by
          have := hK.2 j (ready_mono hj hji)
          unfold mOpF at this
          rw [hoj] at this
          exact this) H
      have H3 := mStep_swapF hap (fun cs b => hsel i oi cs b hi) (fun cs b => hsel j oj cs b hoj) hswap hne hfr hi hoj H2
      unfold mOpF
      rw [hoj]
      refine mStep_monoF hne (fun a2 D2 hne2 h3 => ih (listed.setIfInBounds j true) a2 D2 hne2 (hcl.set hj) hfree' hri ?_) H3
      unfold mOpF
      rw [hi, Array.setIfInBounds_comm _ _ hji]
      exact h3
def wpMixF (P : Program) (ops : Array Oper) (w : World) (kd : Nat → Kd) (sp : Nat → Told) (fr : Nat → Bool) (E : Act → (World → Prop) → Prop) : List Oper → Nat → Act → (World → Prop) → Prop
  | [], _, a, D => E a D
  | o :: rest, k, a, D => mStepF P ops w kd sp fr o k (wpMixF P ops w kd sp fr E rest (k + 1)) a D
theorem wpAnyK_lexF (hfr : FrOk P ops w kd sp fr) {E : Act → (World → Prop) → Prop} (hs : Region.noSelect ops = true) (hsw : ∀ i j, i < ops.size → j < ops.size → j ≠ i → swapOk (kd i) (kd j) = false → waitsT md ops 2 j i = true ∨ waitsT md ops 2 i j = true) :
    ∀ (l : List Oper) (k : Nat) (listed : Array Bool) (a : Act) (D : World → Prop), Ne D → Closed md ops listed → (∀ j, l[j]? = ops[k + j]?) →
    Region.lexFrom md ops l.length k listed = true → wpMixF P ops w kd sp fr E l k a D → wpAnyKF P md ops w kd sp fr E l.length listed a D
  | [], _, _, _, _, _, _, _, hB, h => ⟨by simpa [Region.lexFrom] using hB, h⟩
  | o :: l, k, listed, a, D, hne, hcl, hl, hB, h => by
    have h0 : ops[k]? = some o := by simpa using (hl 0).symm
    simp only [List.length_cons, Region.lexFrom, Bool.and_eq_true] at hB
    obtain ⟨⟨hr, hf⟩, hB'⟩ := hB
    have hk : k < ops.size := (Array.getElem?_eq_some_iff.1 h0).1
    refine wpAnyK_firstF hfr h0 (Region.noSelect_spec hs) (fun j hjl hj hsw' => hsw k j hk hjl hj hsw') l.length listed a D hne hcl (Region.free_spec h0 hf) (by simpa using hr) ?_
    unfold mOpF
    rw [h0]
    exact mStep_monoF hne (fun a' D' hne' h' => wpAnyK_lexF hfr hs hsw l (k + 1) _ a' D' hne' (hcl.set (by simpa using hr)) (fun j => by have := hl (j + 1); simpa [Nat.add_assoc, Nat.add_comm 1 j] using this) hB' h') h
/-- **The law.** -/
theorem wp_region_mixedF {id : Nat} {Q : Exit → Act → World → Prop} {a : Act} {w : World} {l : List Oper} (kds : List Kd) (sp : Nat → Told) (fl : List Nat) (hm : P.follows .mixedOrders = true) (hB : mixTB .any l.toArray (fun i => kds.getD i .pure) = true)
    (hd : frDst l.toArray fl = true) (hs0 : frAct l.toArray fl a = true) (hal : ∀ i ∈ fl, ∃ oi T z, l.toArray[i]? = some oi ∧ oi.op = .alloc T ∧ (∀ W, (zeroValue T).run P W = .ok z W) ∧ oi.guard = none ∧ kds.getD i .pure = .make)
    (h : wpMixF P l.toArray w (fun i => kds.getD i .pure) sp (fun i => fl.contains i) (fun a D => Dist l.toArray (fun i => fl.contains i) a → ∀ W, D W → Q .normal a W) l 0 a (Grown w)) : (Code.region id l.toArray true).wp P Q a w := by
  have hfr : FrOk P l.toArray w (fun i => kds.getD i .pure) sp (fun i => fl.contains i) := FrOk.of hd hal
  simp only [mixTB, Bool.and_eq_true] at hB
  obtain ⟨hlex, hall⟩ := hB
  simp only [Region.lexB, Bool.and_eq_true] at hlex
  have hg0 : Grown w { w with drawn := w.drawn + 1 } := (Below.refl _ _).drew
  refine wp_region_any hm (wpAny_of_KF (w := w) (kd := fun i => kds.getD i .pure) (sp := sp) hfr _ _ _ (Grown w) _ hg0 (Real.of hs0 _) ?_)
  have := wpAnyK_lexF (P := P) (md := .any) (w := w) hfr (E := fun a D => Dist l.toArray (fun i => fl.contains i) a → ∀ W, D W → Q .normal a W) hlex.1 (fun i j hi hjl hj hs => by
    have h1 := List.all_eq_true.1 (List.all_eq_true.1 hall i (List.mem_range.2 hi)) j (List.mem_range.2 hjl)
    simp only [Bool.or_eq_true, decide_eq_true_eq] at h1
    rcases h1 with h1 | h1 | h1 | h1
    · exact absurd h1 hj
    · rw [hs] at h1; cases h1
    · exact .inl h1
    · exact .inr h1) l 0 (Array.replicate l.toArray.size false) a (Grown w) ⟨w, Grown.refl w⟩ (Closed.none _ _ _) (by simp) (by simpa using hlex.2) h
  simpa using this
section
variable {E : Act → (World → Prop) → Prop} {a : Act} {o : Oper} {rest : List Oper} {k : Nat} {D : World → Prop}
theorem mixF_pure (hw : Region.wanted o (yielded ops a.tmps) = true) (hk : kd k = .pure) (hp : valOp o.op = true)
    (h : ∀ K : Act → Prop, (∀ a, wpMixF P ops w kd sp fr E rest (k + 1) a D → K a) → o.quiet P a (fun _ => True) K) : wpMixF P ops w kd sp fr E (o :: rest) k a D := by
  unfold wpMixF mStepF
  rw [if_pos hw, hk]
  obtain ⟨v, h1, h2⟩ := h _ fun _ h => h
  exact ⟨v, fun W => runs_of_quiet hp (h1 W trivial), h2⟩
theorem mixF_held (hw : Region.wanted o (yielded ops a.tmps) = true) (hk : kd k = .held) (hp : valOp o.op = true) (hD : Keeps w D)
    (h : ∀ K : Act → Prop, (∀ a, wpMixF P ops w kd sp fr E rest (k + 1) a D → K a) → o.quiet P a (fun w' => ∃ x : Ext w, w' = x.world) K) : wpMixF P ops w kd sp fr E (o :: rest) k a D := by
  unfold wpMixF mStepF
  rw [if_pos hw, hk]
  obtain ⟨v, h1, h2⟩ := h _ fun _ h => h
  exact ⟨hD, v, fun W hW => runs_of_quiet hp (h1 W ⟨⟨W, hW⟩, rfl⟩), h2⟩
theorem mixF_make (hw : Region.wanted o (yielded ops a.tmps) = true) (hk : kd k = .make) (hD : Keeps w D) (hst : ∀ v W U, (sp k).R v W → Grown W U → (sp k).R v U) (hM : Makes P w o (sp k).S (sp k).R a)
    (h : ∀ v, (sp k).S v → Keeps w (fun W => D W ∧ (sp k).R v W) → Ne (fun W => D W ∧ (sp k).R v W) → wpMixF P ops w kd sp fr E rest (k + 1) (a.put o.dst v) (fun W => D W ∧ (sp k).R v W)) : wpMixF P ops w kd sp fr E (o :: rest) k a D := by
  unfold wpMixF mStepF
  rw [if_pos hw, hk]
  exact ⟨hD, hst, hM, fun v hv hn => h v hv (hD.and (hst v)) hn⟩
/-- A last operation that writes. -/
theorem mixF_tail (hw : Region.wanted o (yielded ops a.tmps) = true) (hk : kd k = .tail) (hne : Ne D) (T : World → World) (hT : Dist ops fr a → ∀ W, D W → (execOp a.eval o).run P W = .ok .skip (T W)) (hz : ∀ W, W.heap.size ≤ (T W).heap.size)
    (h : wpMixF P ops w kd sp fr E rest (k + 1) (a.put o.dst undef) (fun W' => ∃ W, D W ∧ W' = T W)) : wpMixF P ops w kd sp fr E (o :: rest) k a D := by
  unfold wpMixF mStepF
  rw [if_pos hw, hk]
  refine ⟨fun v => v = undef, fun _ W' => ∃ W, D W ∧ W' = T W, ?_, fun hd W hW => ?_, fun v hv _ => by subst hv; exact h⟩
  · obtain ⟨W, hW⟩ := hne
    exact ⟨undef, rfl, T W, W, hW, rfl⟩
  · unfold Oper.goes
    rw [hT hd W hW]
    exact ⟨⟨rfl, W, hW, rfl⟩, hz W⟩
theorem mixF_store (hw : Region.wanted o (yielded ops a.tmps) = true) (hk : kd k = .tail) (hne : Ne D) (ty : TypeId) (x y : Operand) (ho : o.op = .store ty x y)
    (b i : Nat) (cs : Array Value) (hx : a.eval x = .pointer (some ⟨b, i, none⟩)) (hy : a.eval y = .agg cs) (ht : Dist ops fr a → ∀ W, D W → W.there b i cs.size) (hi : (P.info? ty).map (·.size) = some cs.size) (h1 : cs.all (·.oneCell') = true)
    (h : wpMixF P ops w kd sp fr E rest (k + 1) (a.put o.dst undef) (fun W' => ∃ W, D W ∧ W' = W.setCells b i cs.toList)) : wpMixF P ops w kd sp fr E (o :: rest) k a D :=
  mixF_tail hw hk hne (fun W => W.setCells b i cs.toList) (fun hd W hW => by
    unfold execOp
    simp only [ho, hx, hy, Instr.storeAt, Instr.sureAddr, Sem.run_bind, Sem.run_pure, Result.andThen_ok, run_storeVar_mid W b i ty cs (ht hd W hW) hi h1]) (fun W => by rw [setCells_size]; exact Nat.le_refl _) h
theorem mixF_nil (h : E a D) : wpMixF P ops w kd sp fr E [] k a D := h
end
end
/-- A value that a callee yields in every world, told ahead. -/
def valF (v : Value) : Told := ⟨fun u => u = v, fun _ _ => True⟩
theorem valF_st {v : Value} : ∀ u W U, (valF v).R u W → Grown W U → (valF v).R u U := fun _ _ _ _ _ => trivial
theorem valF_of {P : Program} {f : FuncId} {args : Array Value} {v : Value} {W : World} (h : Calls P f args W fun e w' => e = .returned v ∧ Below W.heap.size W w') : Calls P f args W fun e w' => ∃ u, e = .returned u ∧ ((valF v).S u ∧ (valF v).R u w') ∧ Grown W w' :=
  h.mono fun _ _ ⟨he, hb⟩ => ⟨v, he, ⟨rfl, trivial⟩, hb⟩
/-- A new variable's block, told ahead. -/
def newF (w : World) (T : TypeId) (cs : Array Value) : Told := ⟨fun v => ∃ g, v = .pointer (some ⟨g, 0, none⟩), fun v W => ∀ g, v = .pointer (some ⟨g, 0, none⟩) → w.heap.size ≤ g ∧ Blk W g T cs⟩
theorem newF_st {w : World} {T : TypeId} {cs : Array Value} : ∀ v W U, (newF w T cs).R v W → Grown W U → (newF w T cs).R v U := fun _ _ _ h k g hg => ⟨(h g hg).1, (h g hg).2.on k⟩
theorem newF_makes {P : Program} {w : World} {a : Act} {o : Oper} {T : TypeId} {z : Value} {cs : Array Value} (ho : o.op = .alloc T) (hz : ∀ W, (zeroValue T).run P W = .ok z W) (hc : z.cells = cs) : Makes P w o (newF w T cs).S (newF w T cs).R a := fun W hW => by
  have hr : (execOp a.eval o).run P W = .ok (.value (.pointer (some ⟨W.heap.size, 0, none⟩))) (W.alloc (.cells cs T)) := by
    unfold execOp
    simp only [ho, Instr.alloc, Sem.run_bind, hz, Result.andThen_ok, newVar, newRow, newObj, hc]
    rfl
  unfold Oper.goes
  rw [hr]
  refine ⟨⟨⟨_, rfl⟩, fun g hg => ?_⟩, bAlloc (Below.refl _ _) _⟩
  simp only [Value.pointer.injEq, Option.some.injEq, Addr.mk.injEq, and_true] at hg
  subst hg
  exact ⟨Below.size hW, Blk.new _ _ _⟩
end Go.Proofs.YtnaclkaapicelaaGreat

namespace Go.Proofs.YtnaclkaapicelaaGreat
open Go.RowKit
section
variable {P : Program} {ops : Array Oper} {md : Region.Mode} {w : World} {kd : Nat → Kd} {sp : Nat → Told} {fr ft : Nat → Bool}
def mStepG (P : Program) (ops : Array Oper) (w : World) (kd : Nat → Kd) (sp : Nat → Told) (fr ft : Nat → Bool) (o : Oper) (i : Nat) (K : Act → (World → Prop) → Prop) (a : Act) (D : World → Prop) : Prop :=
  if Region.wanted o (yielded ops a.tmps) = true then
    match kd i with
    | .pure => ∃ v, (∀ W, RunsTo P o a W v) ∧ K (a.put o.dst v) D
    | .held => Keeps w D ∧ ∃ v, (∀ W, Grown w W → RunsTo P o a W v) ∧ K (a.put o.dst v) D
    | .make => Keeps w D ∧ (∀ v W U, (sp i).R v W → Grown W U → (sp i).R v U) ∧ Makes P w o (sp i).S (sp i).R a ∧ ∀ v, (sp i).S v → Ne (fun W => D W ∧ (sp i).R v W) → K (a.put o.dst v) (fun W => D W ∧ (sp i).R v W)
    | .tail => ∃ (S : Value → Prop) (R : Value → World → Prop), (∃ v, S v ∧ Ne (R v)) ∧ (ft i = true → Keeps w D ∧ ∀ u, S u → Keeps w (R u)) ∧ (Dist ops fr a → ∀ W, D W → Oper.goes P o a W (fun u W' => (S u ∧ R u W') ∧ W.heap.size ≤ W'.heap.size)) ∧ ∀ v, S v → Ne (R v) → K (a.put o.dst v) (R v)
  else K (a.put o.dst undef) D
def mOpG (P : Program) (ops : Array Oper) (w : World) (kd : Nat → Kd) (sp : Nat → Told) (fr ft : Nat → Bool) (i : Nat) (K : Act → (World → Prop) → Prop) (a : Act) (D : World → Prop) : Prop :=
  match ops[i]? with
  | none => K a D
  | some o => mStepG P ops w kd sp fr ft o i K a D
theorem mStep_monoG {o : Oper} {i : Nat} {a : Act} {D : World → Prop} {K K' : Act → (World → Prop) → Prop} (hne : Ne D) (h : ∀ a D, Ne D → K a D → K' a D) (hh : mStepG P ops w kd sp fr ft o i K a D) : mStepG P ops w kd sp fr ft o i K' a D := by
  unfold mStepG at *
  split
  · rename_i hw
    rw [if_pos hw] at hh
    cases hk : kd i <;> rw [hk] at hh <;> simp only at hh ⊢
    · obtain ⟨v, h1, h2⟩ := hh; exact ⟨v, h1, h _ _ hne h2⟩
    · obtain ⟨h0, v, h1, h2⟩ := hh; exact ⟨h0, v, h1, h _ _ hne h2⟩
    · obtain ⟨h0, h1, h2, h3⟩ := hh; exact ⟨h0, h1, h2, fun v hv hn => h _ _ hn (h3 v hv hn)⟩
    · obtain ⟨S, R, h0, hf, h1, h2⟩ := hh; exact ⟨S, R, h0, hf, h1, fun v hv hn => h _ _ hn (h2 v hv hn)⟩
  · rename_i hw; rw [if_neg hw] at hh; exact h _ _ hne hh
theorem mStep_someG {o : Oper} {i : Nat} {a : Act} {D : World → Prop} {K : Act → (World → Prop) → Prop} (hne : Ne D) (hh : mStepG P ops w kd sp fr ft o i K a D) : ∃ a' D', Ne D' ∧ K a' D' := by
  unfold mStepG at hh
  split at hh
  · cases hk : kd i <;> rw [hk] at hh <;> simp only at hh
    · obtain ⟨v, -, h2⟩ := hh; exact ⟨_, _, hne, h2⟩
    · obtain ⟨-, v, -, h2⟩ := hh; exact ⟨_, _, hne, h2⟩
    · obtain ⟨h0, h1, h2, h3⟩ := hh
      obtain ⟨W, hW⟩ := hne
      obtain ⟨v, W', ⟨hs, hr⟩, hg⟩ := goes_some (h2 W (h0.out W hW))
      have hn : Ne (fun W => D W ∧ (sp i).R v W) := ⟨W', h0.grow W W' hW hg, hr⟩
      exact ⟨_, _, hn, h3 v hs hn⟩
    · obtain ⟨S, R, ⟨v, hs, hn⟩, -, -, h2⟩ := hh
      exact ⟨_, _, hn, h2 v hs hn⟩
  · exact ⟨_, _, hne, hh⟩
/-- Which may come in either order, the first of the text ahead. -/
def swapG (kd : Nat → Kd) (ft : Nat → Bool) (i j : Nat) : Bool := swapOk (kd i) (kd j) || (decide (kd i = .held) && (decide (kd j = .tail) && ft j))
theorem mStep_swapG {i j : Nat} {oi oj : Oper} (hap : oi.apart ops oj = true) (hsi : ∀ cs b, oi.op ≠ .select cs b) (hsj : ∀ cs b, oj.op ≠ .select cs b) (hk : swapG kd ft i j = true) {K : Act → (World → Prop) → Prop} {a : Act} {D : World → Prop} (hne : Ne D) (hfr : FrOk P ops w kd sp fr) (hoi : ops[i]? = some oi) (hoj : ops[j]? = some oj)
    (h : mStepG P ops w kd sp fr ft oi i (fun a1 D1 => mStepG P ops w kd sp fr ft oj j K a1 D1) a D) : mStepG P ops w kd sp fr ft oj j (fun a2 D2 => mStepG P ops w kd sp fr ft oi i K a2 D2) a D := by
  obtain ⟨h1, h2, h3⟩ := Oper.apart_spec hap
  have ei : ∀ (a : Act) u, execOp (a.put oj.dst u).eval oi = execOp a.eval oi := fun a u => execOp_put oi hsi a oj.dst u h3
  have ej : ∀ (a : Act) u, execOp (a.put oi.dst u).eval oj = execOp a.eval oj := fun a u => execOp_put oj hsj a oi.dst u h1
  have wi : ∀ (a : Act) u, Region.wanted oi (yielded ops (a.put oj.dst u).tmps) = Region.wanted oi (yielded ops a.tmps) := fun a u => wanted_put oi a oj.dst u h3
  have wj : ∀ (a : Act) u, Region.wanted oj (yielded ops (a.put oi.dst u).tmps) = Region.wanted oj (yielded ops a.tmps) := fun a u => wanted_put oj a oi.dst u h1
  have pc : ∀ (a : Act) u v, (a.put oi.dst u).put oj.dst v = (a.put oj.dst v).put oi.dst u := fun a u v => Act.put_comm a u v h2
  have ri : ∀ (a : Act) u W v, RunsTo P oi (a.put oj.dst u) W v ↔ RunsTo P oi a W v := fun a u W v => by unfold RunsTo; rw [ei]
  have rj : ∀ (a : Act) u W v, RunsTo P oj (a.put oi.dst u) W v ↔ RunsTo P oj a W v := fun a u W v => by unfold RunsTo; rw [ej]
  have gi : ∀ (a : Act) u W T, Oper.goes P oi (a.put oj.dst u) W T ↔ Oper.goes P oi a W T := fun a u W T => by unfold Oper.goes; rw [ei]
  have gj : ∀ (a : Act) u W T, Oper.goes P oj (a.put oi.dst u) W T ↔ Oper.goes P oj a W T := fun a u W T => by unfold Oper.goes; rw [ej]
  have mi : ∀ (a : Act) u S R, Makes P w oi S R (a.put oj.dst u) ↔ Makes P w oi S R a := fun a u S R => by unfold Makes; simp only [gi]
  have mj : ∀ (a : Act) u S R, Makes P w oj S R (a.put oi.dst u) ↔ Makes P w oj S R a := fun a u S R => by unfold Makes; simp only [gj]
  have dc : ∀ (A B : World → Prop), (fun W => (D W ∧ A W) ∧ B W) = (fun W => (D W ∧ B W) ∧ A W) := fun A B => by funext W; exact propext ⟨fun ⟨⟨a, b⟩, c⟩ => ⟨⟨a, c⟩, b⟩, fun ⟨⟨a, b⟩, c⟩ => ⟨⟨a, c⟩, b⟩⟩
  have di : fr i = false → ∀ (a : Act) u, Dist ops fr (a.put oi.dst u) ↔ Dist ops fr a := fun h a u => dist_put hfr hoi h a u
  have dj : fr j = false → ∀ (a : Act) u, Dist ops fr (a.put oj.dst u) ↔ Dist ops fr a := fun h a u => dist_put hfr hoj h a u
  unfold mStepG at h ⊢
  simp only [wi, wj, ri, rj, gi, gj, mi, mj] at h ⊢
  by_cases hwi : Region.wanted oi (yielded ops a.tmps) = true
  · by_cases hwj : Region.wanted oj (yielded ops a.tmps) = true
    · simp only [hwi, hwj, if_true] at h ⊢
      unfold swapG at hk
      cases hki : kd i <;> cases hkj : kd j <;> rw [hki, hkj] at hk <;> simp only [hki, hkj] at h ⊢
      case tail.tail => simp [swapOk] at hk
      case tail.held => simp [swapOk] at hk
      case tail.make => simp [swapOk] at hk
      case held.tail =>
        obtain ⟨hD, v, hv, S, R, h0, hf, hg, hK⟩ := h
        have hft : ft j = true := by simpa [swapOk] using hk
        have fi : fr i = false := hfr.not_of (by rw [hki]; decide)
        exact ⟨S, R, h0, hf, fun hd => hg ((di fi a v).2 hd), fun u hu hn => ⟨(hf hft).2 u hu, v, hv, by rw [← pc]; exact hK u hu hn⟩⟩
      case make.tail => simp [swapOk] at hk
      case pure.pure =>
        obtain ⟨v, hv, u, hu, hK⟩ := h
        exact ⟨u, hu, v, hv, by rw [← pc]; exact hK⟩
      case pure.held =>
        obtain ⟨v, hv, hD, u, hu, hK⟩ := h
        exact ⟨hD, u, hu, v, hv, by rw [← pc]; exact hK⟩
      case pure.make =>
        obtain ⟨v, hv, hD, hst, hM, hK⟩ := h
        exact ⟨hD, hst, hM, fun u hu hn => ⟨v, hv, by rw [← pc]; exact hK u hu hn⟩⟩
      case pure.tail =>
        obtain ⟨v, hv, S, R, h0, hf, hg, hK⟩ := h
        have fi : fr i = false := hfr.not_of (by rw [hki]; decide)
        exact ⟨S, R, h0, hf, fun hd => hg ((di fi a v).2 hd), fun u hu hn => ⟨v, hv, by rw [← pc]; exact hK u hu hn⟩⟩
      case held.pure =>
        obtain ⟨hD, v, hv, u, hu, hK⟩ := h
        exact ⟨u, hu, hD, v, hv, by rw [← pc]; exact hK⟩
      case held.held =>
        obtain ⟨hD, v, hv, -, u, hu, hK⟩ := h
        exact ⟨hD, u, hu, hD, v, hv, by rw [← pc]; exact hK⟩
      case held.make =>
        obtain ⟨hD, v, hv, -, hst, hM, hK⟩ := h
        exact ⟨hD, hst, hM, fun u hu hn => ⟨⟨fun W hW => hD.out W hW.1, fun W U hW hg => ⟨hD.grow W U hW.1 hg, hst u W U hW.2 hg⟩⟩, v, hv, by rw [← pc]; exact hK u hu hn⟩⟩
      case make.pure =>
        obtain ⟨hD, hst, hM, hK⟩ := h
        obtain ⟨W, hW⟩ := hne
        obtain ⟨v0, W', ⟨hs0, hr0⟩, hg0⟩ := goes_some (hM W (hD.out W hW))
        obtain ⟨u, hu, -⟩ := hK v0 hs0 ⟨W', hD.grow W W' hW hg0, hr0⟩
        refine ⟨u, hu, hD, hst, hM, fun v hv hn => ?_⟩
        obtain ⟨u', hu', hK'⟩ := hK v hv hn
        have : u' = u := runsTo_uniq (hu' W) (hu W)
        subst this
        rw [← pc]; exact hK'
      case make.held =>
        obtain ⟨hD, hst, hM, hK⟩ := h
        obtain ⟨W, hW⟩ := hne
        obtain ⟨v0, W', ⟨hs0, hr0⟩, hg0⟩ := goes_some (hM W (hD.out W hW))
        obtain ⟨-, u, hu, -⟩ := hK v0 hs0 ⟨W', hD.grow W W' hW hg0, hr0⟩
        refine ⟨hD, u, hu, hD, hst, hM, fun v hv hn => ?_⟩
        obtain ⟨-, u', hu', hK'⟩ := hK v hv hn
        have : u' = u := runsTo_uniq (hu' W (hD.out W hW)) (hu W (hD.out W hW))
        subst this
        rw [← pc]; exact hK'
      case make.make =>
        obtain ⟨hD, hst, hM, hK⟩ := h
        obtain ⟨W, hW⟩ := hne
        obtain ⟨v0, W', ⟨hs0, hr0⟩, hg0⟩ := goes_some (hM W (hD.out W hW))
        obtain ⟨-, hst2, hM2, -⟩ := hK v0 hs0 ⟨W', hD.grow W W' hW hg0, hr0⟩
        refine ⟨hD, hst2, hM2, fun u hu hn => ⟨⟨fun W hW => hD.out W hW.1, fun W U hW hg => ⟨hD.grow W U hW.1 hg, hst2 u W U hW.2 hg⟩⟩, hst, hM, fun v hv hn2 => ?_⟩⟩
        obtain ⟨Wx, ⟨hx1, hx2⟩, hx3⟩ := hn2
        have := (hK v hv ⟨Wx, hx1, hx3⟩).2.2.2 u hu ⟨Wx, ⟨hx1, hx3⟩, hx2⟩
        rw [← pc, ← dc]
        exact this
      case tail.pure =>
        obtain ⟨S, R, ⟨v0, hs0, hn0⟩, hf, hg, hK⟩ := h
        obtain ⟨W, hW⟩ := hne
        have fj : fr j = false := hfr.not_of (by rw [hkj]; decide)
        obtain ⟨u, hu, -⟩ := hK v0 hs0 hn0
        refine ⟨u, hu, S, R, ⟨v0, hs0, hn0⟩, hf, fun hd => hg ((dj fj a u).1 hd), fun v hv hn => ?_⟩
        obtain ⟨u', hu', hK'⟩ := hK v hv hn
        have : u' = u := runsTo_uniq (hu' W) (hu W)
        subst this
        rw [← pc]; exact hK'
    · simp only [hwi, hwj, if_true, Bool.false_eq_true, if_false] at h ⊢
      have fj : fr j = false := hfr.not_wanted hoj (by simpa using hwj)
      cases hki : kd i <;> simp only [hki] at h ⊢
      · obtain ⟨v, hv, hK⟩ := h; exact ⟨v, hv, by rw [← pc]; exact hK⟩
      · obtain ⟨hD, v, hv, hK⟩ := h; exact ⟨hD, v, hv, by rw [← pc]; exact hK⟩
      · obtain ⟨hD, hst, hM, hK⟩ := h; exact ⟨hD, hst, hM, fun v hv hn => by rw [← pc]; exact hK v hv hn⟩
      · obtain ⟨S, R, h0, hf, hg, hK⟩ := h; exact ⟨S, R, h0, hf, fun hd => hg ((dj fj a _).1 hd), fun v hv hn => by rw [← pc]; exact hK v hv hn⟩
  · by_cases hwj : Region.wanted oj (yielded ops a.tmps) = true
    · simp only [hwi, hwj, if_true, Bool.false_eq_true, if_false] at h ⊢
      have fi : fr i = false := hfr.not_wanted hoi (by simpa using hwi)
      cases hkj : kd j <;> simp only [hkj] at h ⊢
      · obtain ⟨v, hv, hK⟩ := h; exact ⟨v, hv, by rw [← pc]; exact hK⟩
      · obtain ⟨hD, v, hv, hK⟩ := h; exact ⟨hD, v, hv, by rw [← pc]; exact hK⟩
      · obtain ⟨hD, hst, hM, hK⟩ := h; exact ⟨hD, hst, hM, fun v hv hn => by rw [← pc]; exact hK v hv hn⟩
      · obtain ⟨S, R, h0, hf, hg, hK⟩ := h; exact ⟨S, R, h0, hf, fun hd => hg ((di fi a _).2 hd), fun v hv hn => by rw [← pc]; exact hK v hv hn⟩
    · simp only [hwi, hwj, Bool.false_eq_true, if_false] at h ⊢
      rw [← pc]; exact h
def wpAnyKG (P : Program) (md : Region.Mode) (ops : Array Oper) (w : World) (kd : Nat → Kd) (sp : Nat → Told) (fr ft : Nat → Bool) (E : Act → (World → Prop) → Prop) : Nat → Array Bool → Act → (World → Prop) → Prop
  | 0, listed, a, D => Region.ready md ops listed = [] ∧ E a D
  | f + 1, listed, a, D => (Region.ready md ops listed = [] → E a D) ∧ ∀ i ∈ Region.ready md ops listed, mOpG P ops w kd sp fr ft i (wpAnyKG P md ops w kd sp fr ft E f (listed.setIfInBounds i true)) a D
theorem wpOp_of_mOpG {i : Nat} {a : Act} {D : World → Prop} {K : Act → (World → Prop) → Prop} {K' : Act → World → Prop} {Q' : Exit → Act → World → Prop} {W : World} (hfr : FrOk P ops w kd sp fr) (hW : D W) (hI : Real ops fr a W)
    (h : ∀ a D W', D W' → Real ops fr a W' → K a D → K' a W') (hh : mOpG P ops w kd sp fr ft i K a D) : wpOp P ops Q' i K' a W := by
  unfold mOpG at hh
  unfold wpOp
  split
  · rename_i ho; simp only [ho] at hh; exact h _ _ _ hW hI hh
  · rename_i o ho
    simp only [ho] at hh
    unfold mStepG at hh
    split
    · rename_i hw
      rw [if_pos hw] at hh
      left
      cases hk : kd i <;> rw [hk] at hh <;> simp only at hh
      · obtain ⟨v, h1, h2⟩ := hh
        have h1 := h1 W
        unfold RunsTo at h1
        unfold Oper.wp
        rw [h1]
        exact h _ _ _ hW (hI.put hfr ho (hfr.not_of (by rw [hk]; decide)) v (Nat.le_refl _)) h2
      · obtain ⟨hD, v, h1, h2⟩ := hh
        have h1 := h1 W (hD.out W hW)
        unfold RunsTo at h1
        unfold Oper.wp
        rw [h1]
        exact h _ _ _ hW (hI.put hfr ho (hfr.not_of (by rw [hk]; decide)) v (Nat.le_refl _)) h2
      · obtain ⟨hD, hst, hM, hK⟩ := hh
        cases hf : fr i with
        | false => exact Oper.wp_of_goes (hM W (hD.out W hW)) fun v W' ⟨⟨hs, hr⟩, hg⟩ => h _ _ W' ⟨hD.grow W W' hW hg, hr⟩ (hI.put hfr ho hf v (Below.size hg)) (hK v hs ⟨W', hD.grow W W' hW hg, hr⟩)
        | true =>
          have hgo := hM W (hD.out W hW)
          obtain ⟨oi, T, z, hoi, hop, hz, -⟩ := hfr.alloc i hf
          obtain rfl : oi = o := Option.some.inj (hoi.symm.trans ho)
          have hr : (execOp a.eval oi).run P W = .ok (.value (.pointer (some ⟨W.heap.size, 0, none⟩))) (W.alloc (.cells z.cells T)) := by
            unfold execOp
            simp only [hop, Instr.alloc, Sem.run_bind, hz, Result.andThen_ok, newVar, newRow, newObj]
            rfl
          unfold Oper.goes at hgo
          rw [hr] at hgo
          obtain ⟨⟨hs, hr2⟩, hg⟩ := hgo
          unfold Oper.wp
          rw [hr]
          exact h _ _ _ ⟨hD.grow W _ hW hg, hr2⟩ (hI.fresh hfr ho hf (W.alloc (.cells z.cells T)) (by simp)) (hK _ hs ⟨_, hD.grow W _ hW hg, hr2⟩)
      · obtain ⟨S, R, -, -, hg, hK⟩ := hh
        exact Oper.wp_of_goes (hg hI.1 W hW) fun v W' ⟨⟨hs, hr⟩, hz⟩ => h _ _ W' hr (hI.put hfr ho (hfr.not_of (by rw [hk]; decide)) v hz) (hK v hs ⟨W', hr⟩)
    · rename_i hw
      rw [if_neg hw] at hh
      exact h _ _ _ hW (hI.put hfr ho (hfr.not_wanted ho (by simpa using hw)) undef (Nat.le_refl _)) hh
theorem wpAny_of_KG {Q : Exit → Act → World → Prop} (hfr : FrOk P ops w kd sp fr) : ∀ (f : Nat) (listed : Array Bool) (a : Act) (D : World → Prop) (W : World), D W → Real ops fr a W → wpAnyKG P md ops w kd sp fr ft (fun a D => Dist ops fr a → ∀ W, D W → Q .normal a W) f listed a D → wpAny P md ops Q f listed a W
  | 0, _, _, _, _, hW, hI, h => ⟨h.1, h.2 hI.1 _ hW⟩
  | f + 1, _, _, _, _, hW, hI, h => ⟨fun h0 => h.1 h0 hI.1 _ hW, fun i hi => wpOp_of_mOpG hfr hW hI (fun a' D' W' hW' hI' h' => wpAny_of_KG hfr f _ a' D' W' hW' hI' h') (h.2 i hi)⟩
theorem getD_set_self {listed : Array Bool} {k : Nat} (h : listed.getD k true = false) : (listed.setIfInBounds k true).getD k false = true := by
  rw [Array.getD_eq_getD_getElem?] at h ⊢
  have hk : k < listed.size := by
    rcases Nat.lt_or_ge k listed.size with h1 | h1
    · exact h1
    · rw [Array.getElem?_eq_none h1] at h; cases h
  simp [hk]
theorem wpAnyK_firstG (hfr : FrOk P ops w kd sp fr) {E : Act → (World → Prop) → Prop} {i : Nat} {oi : Oper} (hi : ops[i]? = some oi) (hsel : ∀ (j : Nat) (o : Oper) cs b, ops[j]? = some o → o.op ≠ .select cs b)
    (hsw : ∀ j, j < ops.size → i < j → swapG kd ft i j = false → waitsT md ops 2 j i = true ∨ waitsT md ops 2 i j = true) :
    ∀ (f : Nat) (listed : Array Bool) (a : Act) (D : World → Prop), Ne D → Closed md ops listed → (∀ m, m < i → listed.getD m false = true) →
      (∀ j oj, ops[j]? = some oj → j ≠ i → listed.getD j true = false → (∀ e ∈ oj.after, Region.binds md e = true → e.on ≠ i) → oi.apart ops oj = true) →
      i ∈ Region.ready md ops listed → mOpG P ops w kd sp fr ft i (wpAnyKG P md ops w kd sp fr ft E f (listed.setIfInBounds i true)) a D → wpAnyKG P md ops w kd sp fr ft E (f + 1) listed a D := by
  intro f
  induction f with
  | zero =>
    intro listed a D hne _ _ _ hr H
    refine ⟨fun h => (by rw [h] at hr; cases hr), fun j hj => ?_⟩
    by_cases hji : j = i
    · subst hji; exact H
    · unfold mOpG at H
      rw [hi] at H
      obtain ⟨a', D', -, h0, -⟩ := mStep_someG hne H
      have := ready_mono hj hji
      rw [h0] at this; cases this
  | succ f ih =>
    intro listed a D hne hcl hlow hfree hr H
    refine ⟨fun h => (by rw [h] at hr; cases hr), fun j hj => ?_⟩
    by_cases hji : j = i
    · subst hji; exact H
    · obtain ⟨hjun, oj, hoj, hall⟩ := mem_ready.1 hj
      have hun := (mem_ready.1 hr).1
      have hnot : ∀ e ∈ oj.after, Region.binds md e = true → e.on ≠ i := fun e he hb heq => by
        have h1 := hall e he hb
        rw [heq, getD_both hun] at h1
        cases h1
      have hap := hfree j oj hoj hji hjun hnot
      have hswap : swapG kd ft i j = true := by
        cases hs : swapG kd ft i j with
        | true => rfl
        | false =>
          have hij : i < j := by
            rcases Nat.lt_trichotomy i j with h | h | h
            · exact h
            · exact absurd h.symm hji
            · have := hlow j h
              rw [getD_both hjun] at this; cases this
          rcases hsw j (Array.getElem?_eq_some_iff.1 hoj).1 hij hs with h1 | h1
          · have h2 := waitsT_ready hcl 2 j i hj h1
            rw [getD_both hun] at h2; cases h2
          · have h2 := waitsT_ready hcl 2 i j hr h1
            rw [getD_both hjun] at h2; cases h2
      have hfree' : ∀ k ok, ops[k]? = some ok → k ≠ i → (listed.setIfInBounds j true).getD k true = false →
          (∀ e ∈ ok.after, Region.binds md e = true → e.on ≠ i) → oi.apart ops ok = true := fun k ok hk hki hun' hno => by
        refine hfree k ok hk hki ?_ hno
        by_cases hjk : j = k
        · subst hjk; exact hjun
        · rw [getD_set_ne true hjk] at hun'; exact hun'
      have hri := ready_mono hr (Ne.symm hji)
      unfold mOpG at H
      rw [hi] at H
      have H2 : mStepG P ops w kd sp fr ft oi i (fun a1 D1 => mStepG P ops w kd sp fr ft oj j (wpAnyKG P md ops w kd sp fr ft E f ((listed.setIfInBounds i true).setIfInBounds j true)) a1 D1) a D :=
        mStep_monoG hne (fun a1 D1 _ hK => by
          have := hK.2 j (ready_mono hj hji)
          unfold mOpG at this
          rw [hoj] at this
          exact this) H
      have H3 := mStep_swapG hap (fun cs b => hsel i oi cs b hi) (fun cs b => hsel j oj cs b hoj) hswap hne hfr hi hoj H2
      unfold mOpG
      rw [hoj]
      refine mStep_monoG hne (fun a2 D2 hne2 h3 => ih (listed.setIfInBounds j true) a2 D2 hne2 (hcl.set hj) (fun m hm => getD_set_true (hlow m hm)) hfree' hri ?_) H3
      unfold mOpG
      rw [hi, Array.setIfInBounds_comm _ _ hji]
      exact h3
def wpMixG (P : Program) (ops : Array Oper) (w : World) (kd : Nat → Kd) (sp : Nat → Told) (fr ft : Nat → Bool) (E : Act → (World → Prop) → Prop) : List Oper → Nat → Act → (World → Prop) → Prop
  | [], _, a, D => E a D
  | o :: rest, k, a, D => mStepG P ops w kd sp fr ft o k (wpMixG P ops w kd sp fr ft E rest (k + 1)) a D
theorem wpAnyK_lexG (hfr : FrOk P ops w kd sp fr) {E : Act → (World → Prop) → Prop} (hs : Region.noSelect ops = true) (hsw : ∀ i j, i < ops.size → j < ops.size → i < j → swapG kd ft i j = false → waitsT md ops 2 j i = true ∨ waitsT md ops 2 i j = true) :
    ∀ (l : List Oper) (k : Nat) (listed : Array Bool) (a : Act) (D : World → Prop), Ne D → Closed md ops listed → (∀ m, m < k → listed.getD m false = true) → (∀ j, l[j]? = ops[k + j]?) →
    Region.lexFrom md ops l.length k listed = true → wpMixG P ops w kd sp fr ft E l k a D → wpAnyKG P md ops w kd sp fr ft E l.length listed a D
  | [], _, _, _, _, _, _, _, _, hB, h => ⟨by simpa [Region.lexFrom] using hB, h⟩
  | o :: l, k, listed, a, D, hne, hcl, hlow, hl, hB, h => by
    have h0 : ops[k]? = some o := by simpa using (hl 0).symm
    simp only [List.length_cons, Region.lexFrom, Bool.and_eq_true] at hB
    obtain ⟨⟨hr, hf⟩, hB'⟩ := hB
    have hk : k < ops.size := (Array.getElem?_eq_some_iff.1 h0).1
    refine wpAnyK_firstG hfr h0 (Region.noSelect_spec hs) (fun j hjl hj hsw' => hsw k j hk hjl hj hsw') l.length listed a D hne hcl hlow (Region.free_spec h0 hf) (by simpa using hr) ?_
    unfold mOpG
    rw [h0]
    exact mStep_monoG hne (fun a' D' hne' h' => wpAnyK_lexG hfr hs hsw l (k + 1) _ a' D' hne' (hcl.set (by simpa using hr)) (fun m hm => by
      by_cases hmk : m = k
      · subst hmk; exact getD_set_self (mem_ready.1 (by simpa using hr)).1
      · exact getD_set_true (hlow m (by omega))) (fun j => by have := hl (j + 1); simpa [Nat.add_assoc, Nat.add_comm 1 j] using this) hB' h') h
def mixGB (md : Region.Mode) (ops : Array Oper) (kd : Nat → Kd) (ft : Nat → Bool) : Bool :=
  Region.lexB md ops && (List.range ops.size).all fun i => (List.range ops.size).all fun j => decide (j ≤ i) || (swapG kd ft i j || (waitsT md ops 2 j i || waitsT md ops 2 i j))
/-- **The law.** -/
theorem wp_region_mixedG {id : Nat} {Q : Exit → Act → World → Prop} {a : Act} {w : World} {l : List Oper} (kds : List Kd) (sp : Nat → Told) (fl tl : List Nat) (hm : P.follows .mixedOrders = true) (hB : mixGB .any l.toArray (fun i => kds.getD i .pure) (fun i => tl.contains i) = true)
    (hd : frDst l.toArray fl = true) (hs0 : frAct l.toArray fl a = true) (hal : ∀ i ∈ fl, ∃ oi T z, l.toArray[i]? = some oi ∧ oi.op = .alloc T ∧ (∀ W, (zeroValue T).run P W = .ok z W) ∧ oi.guard = none ∧ kds.getD i .pure = .make)
    (h : wpMixG P l.toArray w (fun i => kds.getD i .pure) sp (fun i => fl.contains i) (fun i => tl.contains i) (fun a D => Dist l.toArray (fun i => fl.contains i) a → ∀ W, D W → Q .normal a W) l 0 a (Grown w)) : (Code.region id l.toArray true).wp P Q a w := by
  have hfr : FrOk P l.toArray w (fun i => kds.getD i .pure) sp (fun i => fl.contains i) := FrOk.of hd hal
  simp only [mixGB, Bool.and_eq_true] at hB
  obtain ⟨hlex, hall⟩ := hB
  simp only [Region.lexB, Bool.and_eq_true] at hlex
  have hg0 : Grown w { w with drawn := w.drawn + 1 } := (Below.refl _ _).drew
  refine wp_region_any hm (wpAny_of_KG (w := w) (kd := fun i => kds.getD i .pure) (sp := sp) (ft := fun i => tl.contains i) hfr _ _ _ (Grown w) _ hg0 (Real.of hs0 _) ?_)
  have := wpAnyK_lexG (P := P) (md := .any) (w := w) (ft := fun i => tl.contains i) hfr (E := fun a D => Dist l.toArray (fun i => fl.contains i) a → ∀ W, D W → Q .normal a W) hlex.1 (fun i j hi hjl hj hs => by
    have h1 := List.all_eq_true.1 (List.all_eq_true.1 hall i (List.mem_range.2 hi)) j (List.mem_range.2 hjl)
    simp only [Bool.or_eq_true, decide_eq_true_eq] at h1
    rcases h1 with h1 | h1 | h1 | h1
    · exact absurd h1 (by omega)
    · rw [hs] at h1; cases h1
    · exact .inl h1
    · exact .inr h1) l 0 (Array.replicate l.toArray.size false) a (Grown w) ⟨w, Grown.refl w⟩ (Closed.none _ _ _) (fun m hm => absurd hm (Nat.not_lt_zero m)) (by simp) (by simpa using hlex.2) h
  simpa using this
section
variable {E : Act → (World → Prop) → Prop} {a : Act} {o : Oper} {rest : List Oper} {k : Nat} {D : World → Prop}
theorem mixG_pure (hw : Region.wanted o (yielded ops a.tmps) = true) (hk : kd k = .pure) (hp : valOp o.op = true)
    (h : ∀ K : Act → Prop, (∀ a, wpMixG P ops w kd sp fr ft E rest (k + 1) a D → K a) → o.quiet P a (fun _ => True) K) : wpMixG P ops w kd sp fr ft E (o :: rest) k a D := by
  unfold wpMixG mStepG
  rw [if_pos hw, hk]
  obtain ⟨v, h1, h2⟩ := h _ fun _ h => h
  exact ⟨v, fun W => runs_of_quiet hp (h1 W trivial), h2⟩
theorem mixG_load (hw : Region.wanted o (yielded ops a.tmps) = true) (hk : kd k = .held) (hD : Keeps w D) (ty : TypeId) (x : Operand) (ho : o.op = .load ty x)
    (b i : Nat) (hx : a.eval x = .pointer (some ⟨b, i, none⟩)) (cs : List Value) (d : TypeDesc) (hb : b < w.heap.size) (hc : w.rangeAt b i cs)
    (hu : P.underlying ty = some d) (hd : d.isRow = true) (hi : (P.info? ty).map (·.size) = some cs.length)
    (h : wpMixG P ops w kd sp fr ft E rest (k + 1) (a.put o.dst (.agg cs.toArray)) D) : wpMixG P ops w kd sp fr ft E (o :: rest) k a D := by
  unfold wpMixG mStepG
  rw [if_pos hw, hk]
  refine ⟨hD, _, fun W hW => ?_, h⟩
  have hc' : W.rangeAt b i cs := fun j v hv => (Below.cell (p := ⟨b, i + j, none⟩) hW hb).trans (hc j v hv)
  unfold RunsTo execOp
  simp only [ho, hx, Instr.loadAt, Instr.sureAddr, Sem.run_bind, Sem.run_pure, Result.andThen_ok, run_loadVar_mid W b i ty cs d hc' hu hd hi]
theorem mixG_make (hw : Region.wanted o (yielded ops a.tmps) = true) (hk : kd k = .make) (hD : Keeps w D) (hst : ∀ v W U, (sp k).R v W → Grown W U → (sp k).R v U) (hM : Makes P w o (sp k).S (sp k).R a)
    (h : ∀ v, (sp k).S v → Keeps w (fun W => D W ∧ (sp k).R v W) → Ne (fun W => D W ∧ (sp k).R v W) → wpMixG P ops w kd sp fr ft E rest (k + 1) (a.put o.dst v) (fun W => D W ∧ (sp k).R v W)) : wpMixG P ops w kd sp fr ft E (o :: rest) k a D := by
  unfold wpMixG mStepG
  rw [if_pos hw, hk]
  exact ⟨hD, hst, hM, fun v hv hn => h v hv (hD.and (hst v)) hn⟩
/-- A last operation that writes. -/
theorem mixG_tail (hft : ft k = false) (hw : Region.wanted o (yielded ops a.tmps) = true) (hk : kd k = .tail) (hne : Ne D) (T : World → World) (hT : Dist ops fr a → ∀ W, D W → (execOp a.eval o).run P W = .ok .skip (T W)) (hz : ∀ W, W.heap.size ≤ (T W).heap.size)
    (h : wpMixG P ops w kd sp fr ft E rest (k + 1) (a.put o.dst undef) (fun W' => ∃ W, D W ∧ W' = T W)) : wpMixG P ops w kd sp fr ft E (o :: rest) k a D := by
  unfold wpMixG mStepG
  rw [if_pos hw, hk]
  refine ⟨fun v => v = undef, fun _ W' => ∃ W, D W ∧ W' = T W, ?_, fun h => (by rw [hft] at h; cases h), fun hd W hW => ?_, fun v hv _ => by subst hv; exact h⟩
  · obtain ⟨W, hW⟩ := hne
    exact ⟨undef, rfl, T W, W, hW, rfl⟩
  · unfold Oper.goes
    rw [hT hd W hW]
    exact ⟨⟨rfl, W, hW, rfl⟩, hz W⟩
theorem mixG_store (hft : ft k = false) (hw : Region.wanted o (yielded ops a.tmps) = true) (hk : kd k = .tail) (hne : Ne D) (ty : TypeId) (x y : Operand) (ho : o.op = .store ty x y)
    (b i : Nat) (cs : Array Value) (hx : a.eval x = .pointer (some ⟨b, i, none⟩)) (hy : a.eval y = .agg cs) (ht : Dist ops fr a → ∀ W, D W → W.there b i cs.size) (hi : (P.info? ty).map (·.size) = some cs.size) (h1 : cs.all (·.oneCell') = true)
    (h : wpMixG P ops w kd sp fr ft E rest (k + 1) (a.put o.dst undef) (fun W' => ∃ W, D W ∧ W' = W.setCells b i cs.toList)) : wpMixG P ops w kd sp fr ft E (o :: rest) k a D :=
  mixG_tail hft hw hk hne (fun W => W.setCells b i cs.toList) (fun hd W hW => by
    unfold execOp
    simp only [ho, hx, hy, Instr.storeAt, Instr.sureAddr, Sem.run_bind, Sem.run_pure, Result.andThen_ok, run_storeVar_mid W b i ty cs (ht hd W hW) hi h1]) (fun W => by rw [setCells_size]; exact Nat.le_refl _) h
/-- A store into a new block: held loads may come behind it. -/
theorem mixG_new (hw : Region.wanted o (yielded ops a.tmps) = true) (hk : kd k = .tail) (hne : Ne D) (hD : Keeps w D) (ty : TypeId) (x y : Operand) (ho : o.op = .store ty x y)
    (b i : Nat) (cs : Array Value) (hx : a.eval x = .pointer (some ⟨b, i, none⟩)) (hy : a.eval y = .agg cs) (hb : w.heap.size ≤ b) (ht : Dist ops fr a → ∀ W, D W → W.there b i cs.size) (hi : (P.info? ty).map (·.size) = some cs.size) (h1 : cs.all (·.oneCell') = true)
    (h : wpMixG P ops w kd sp fr ft E rest (k + 1) (a.put o.dst undef) (fun W' => ∃ W, D W ∧ Grown (W.setCells b i cs.toList) W')) : wpMixG P ops w kd sp fr ft E (o :: rest) k a D := by
  unfold wpMixG mStepG
  rw [if_pos hw, hk]
  refine ⟨fun v => v = undef, fun _ W' => ∃ W, D W ∧ Grown (W.setCells b i cs.toList) W', ?_, fun _ => ⟨hD, fun _ _ => ⟨fun W' hW' => ?_, fun W' U hW' hU => ?_⟩⟩, fun hd W hW => ?_, fun v hv _ => by subst hv; exact h⟩
  · obtain ⟨W, hW⟩ := hne
    exact ⟨undef, rfl, _, W, hW, Grown.refl _⟩
  · obtain ⟨W, hW, hg⟩ := hW'
    exact bTrans (bSetCells (hD.out W hW) hb i cs.toList) hg
  · obtain ⟨W, hW, hg⟩ := hW'
    exact ⟨W, hW, bTrans hg hU⟩
  · have hr : (execOp a.eval o).run P W = .ok .skip (W.setCells b i cs.toList) := by
      unfold execOp
      simp only [ho, hx, hy, Instr.storeAt, Instr.sureAddr, Sem.run_bind, Sem.run_pure, Result.andThen_ok, run_storeVar_mid W b i ty cs (ht hd W hW) hi h1]
    unfold Oper.goes
    rw [hr]
    exact ⟨⟨rfl, W, hW, Grown.refl _⟩, by rw [setCells_size]; exact Nat.le_refl _⟩
theorem mixG_nil (h : E a D) : wpMixG P ops w kd sp fr ft E [] k a D := h
end
end
end Go.Proofs.YtnaclkaapicelaaGreat

/-
  Values that are made of integers alone, held against each other: equal if and only if the integers are. No program is named here.
-/
namespace Go.Proofs.YtnaclkaapicelaaGreat
open Go.RowKit

/-- The kinds of a type's cells, if they all are integers. -/
def kindsOf (P : Program) : Nat → TypeId → Option (List IntKind)
  | 0, _ => none
  | m + 1, t => match P.underlying t with
    | some (.int k) => some [k]
    | some (.struct fs) => if P.stoodInHeld t = true then none else
        fs.toList.foldlM (fun acc f => if f.name ≠ "_" ∧ f.offset = acc.length then (kindsOf P m f.type).bind fun ks => if P.cellsOf f.type = ks.length then some (acc ++ ks) else none else none) []
    | some (.array n e) => (kindsOf P m e).bind fun ks => if P.cellsOf e = ks.length then some (List.replicate n ks).flatten else none
    | _ => none
def ivals (ks : List IntKind) (X : List Int) : List Value := List.zipWith Value.int ks X
def valOf (P : Program) (t : TypeId) (cs : List Value) : Value := match P.underlying t with
  | some (.int _) => cs.headD undef
  | _ => .agg cs.toArray
theorem ivals_length {ks : List IntKind} {X : List Int} (h : X.length = ks.length) : (ivals ks X).length = ks.length := by unfold ivals; rw [List.length_zipWith]; omega
theorem ivals_mid {a b c : List IntKind} {X : List Int} : ((ivals (a ++ b ++ c) X).drop a.length).take b.length = ivals b ((X.drop a.length).take b.length) := by
  unfold ivals
  rw [List.drop_zipWith, List.take_zipWith, List.append_assoc, List.drop_left, List.take_left]
section
variable {P : Program}
theorem part_ints {t : TypeId} {ks : List IntKind} {m : Nat} (h : kindsOf P m t = some ks) (hc : P.cellsOf t = ks.length) (cs : List Value) (off : Nat) (hl : off + ks.length ≤ cs.length) (w : World) :
    (part t cs.toArray off).run P w = .ok (valOf P t ((cs.drop off).take ks.length)) w := by
  cases m with
  | zero => simp [kindsOf] at h
  | succ m =>
    unfold kindsOf at h
    cases hu : P.underlying t with
    | none => simp [hu] at h
    | some kd =>
      obtain ⟨i, hi⟩ := info_of_underlying hu
      cases kd
      case int k =>
        simp only [hu, Option.some.injEq] at h
        subst h
        have hoff : off < cs.length := by simp at hl; omega
        have h1 : (part t cs.toArray off).run P w = .ok cs[off] w := by
          simp [part, isAgg, run_underlying hu, hoff]
        rw [h1]
        unfold valOf
        rw [hu]
        simp only [List.length_singleton]
        rw [List.drop_eq_getElem_cons hoff]
        rfl
      case array n e =>
        have h1 : (part t cs.toArray off).run P w = .ok (.agg (cs.toArray.extract off (off + P.cellsOf t))) w := by
          simp [part, isAgg, run_underlying hu, run_sizeOf w hi]
        rw [h1]
        unfold valOf
        rw [hu, hc]
        simp [List.extract]
      case struct fs =>
        have h1 : (part t cs.toArray off).run P w = .ok (.agg (cs.toArray.extract off (off + P.cellsOf t))) w := by
          simp [part, isAgg, run_underlying hu, run_sizeOf w hi]
        rw [h1]
        unfold valOf
        rw [hu, hc]
        simp [List.extract]
      all_goals (simp [hu] at h; done)
/-- Held against each other at a depth. -/
def EqI (P : Program) (d : Nat) (t : TypeId) (ks : List IntKind) : Prop := ∀ (X Y : List Int), X.length = ks.length → Y.length = ks.length → ∀ w : World,
  (Op.equalIn d t (valOf P t (ivals ks X)) (valOf P t (ivals ks Y))).run P w = .ok (decide (X = Y)) w
theorem decide_split (a b : List Int) (n : Nat) : decide (a = b) = (decide (a.take n = b.take n) && decide (a.drop n = b.drop n)) := by
  rw [Bool.eq_iff_iff]
  simp only [decide_eq_true_eq, Bool.and_eq_true]
  constructor
  · rintro rfl; exact ⟨rfl, rfl⟩
  · rintro ⟨h1, h2⟩
    rw [← List.take_append_drop n a, ← List.take_append_drop n b, h1, h2]
theorem eqFields_ints {d m : Nat} (IH : ∀ t ks, kindsOf P m t = some ks → EqI P d t ks) : ∀ (fs : List Field) (acc ks : List IntKind),
    fs.foldlM (fun acc f => if f.name ≠ "_" ∧ f.offset = acc.length then (kindsOf P m f.type).bind fun ks => if P.cellsOf f.type = ks.length then some (acc ++ ks) else none else none) acc = some ks →
    (∃ rest, ks = acc ++ rest) ∧ ∀ (X Y : List Int), X.length = ks.length → Y.length = ks.length → ∀ w : World, (Op.eqFields d (ivals ks X).toArray (ivals ks Y).toArray fs).run P w = .ok (decide (X.drop acc.length = Y.drop acc.length)) w
  | [], acc, ks, h => by
    simp only [List.foldlM_nil, pure, Option.some.injEq] at h
    subst h
    refine ⟨⟨[], by simp⟩, fun X Y hX hY w => ?_⟩
    rw [List.drop_of_length_le (by omega), List.drop_of_length_le (by omega)]
    simp [Op.eqFields]
  | f :: fs, acc, ks, h => by
    simp only [List.foldlM_cons, bind, Option.bind_eq_some_iff] at h
    obtain ⟨acc', h1, h2⟩ := h
    by_cases hn : f.name ≠ "_" ∧ f.offset = acc.length
    · rw [if_pos hn] at h1
      simp only [Option.bind_eq_some_iff] at h1
      obtain ⟨kf, h3, h4⟩ := h1
      by_cases hc : P.cellsOf f.type = kf.length
      · rw [if_pos hc] at h4
        simp only [Option.some.injEq] at h4
        subst h4
        obtain ⟨⟨rest, hr⟩, hrun⟩ := eqFields_ints IH fs _ ks h2
        refine ⟨⟨kf ++ rest, by rw [hr, List.append_assoc]⟩, fun X Y hX hY w => ?_⟩
        have hlen : ks.length = acc.length + kf.length + rest.length := by rw [hr]; simp only [List.length_append]
        have pX : (part f.type (ivals ks X).toArray f.offset).run P w = .ok (valOf P f.type (ivals kf ((X.drop acc.length).take kf.length))) w := by
          rw [part_ints h3 hc _ _ (by rw [ivals_length hX, hn.2]; omega), hn.2, hr, ivals_mid]
        have pY : (part f.type (ivals ks Y).toArray f.offset).run P w = .ok (valOf P f.type (ivals kf ((Y.drop acc.length).take kf.length))) w := by
          rw [part_ints h3 hc _ _ (by rw [ivals_length hY, hn.2]; omega), hn.2, hr, ivals_mid]
        have hE := IH f.type kf h3 ((X.drop acc.length).take kf.length) ((Y.drop acc.length).take kf.length) (by simp; omega) (by simp; omega) w
        have hS := decide_split (X.drop acc.length) (Y.drop acc.length) kf.length
        have hR := hrun X Y hX hY w
        rw [List.length_append, ← List.drop_drop, ← List.drop_drop] at hR
        simp only [Op.eqFields, hn.1, ne_eq, not_false_eq_true, if_true, Sem.run_bind, pX, pY, hE, Result.andThen_ok]
        rw [hS]
        cases decide (((X.drop acc.length).take kf.length) = ((Y.drop acc.length).take kf.length))
        · simp
        · simpa using hR
      · rw [if_neg hc] at h4; cases h4
    · rw [if_neg hn] at h1; cases h1
theorem eqItems_ints {d : Nat} {e : TypeId} {ks : List IntKind} {m : Nat} (hk : kindsOf P m e = some ks) (hc : P.cellsOf e = ks.length) (IH : EqI P d e ks) (n : Nat) (X Y : List Int) (hX : X.length = n * ks.length) (hY : Y.length = n * ks.length) (w : World) :
    ∀ (j i : Nat), i + j = n → (Op.eqItems d e (P.cellsOf e) (ivals (List.replicate n ks).flatten X).toArray (ivals (List.replicate n ks).flatten Y).toArray (List.range' i j)).run P w = .ok (decide (X.drop (i * ks.length) = Y.drop (i * ks.length))) w
  | 0, i, h => by
    obtain rfl : i = n := by omega
    rw [List.drop_of_length_le (by omega), List.drop_of_length_le (by omega)]
    simp [Op.eqItems, List.range']
  | j + 1, i, h => by
    have hr := eqItems_ints hk hc IH n X Y hX hY w j (i + 1) (by omega)
    have hlen : (List.replicate n ks).flatten.length = n * ks.length := by simp
    have hsplit : (List.replicate n ks).flatten = (List.replicate i ks).flatten ++ ks ++ (List.replicate j ks).flatten := by
      obtain rfl : n = i + (1 + j) := by omega
      rw [← List.replicate_append_replicate, List.flatten_append, ← List.replicate_append_replicate, List.flatten_append]
      simp
    have hil : (List.replicate i ks).flatten.length = i * ks.length := by simp
    have hin : i * ks.length + ks.length ≤ n * ks.length := by
      have := Nat.mul_le_mul_right ks.length (show i + 1 ≤ n by omega)
      rw [Nat.add_mul, Nat.one_mul] at this
      exact this
    have pp : ∀ Z : List Int, Z.length = n * ks.length → (part e (ivals (List.replicate n ks).flatten Z).toArray (i * P.cellsOf e)).run P w = .ok (valOf P e (ivals ks ((Z.drop (i * ks.length)).take ks.length))) w := fun Z hZ => by
      rw [part_ints hk hc _ _ (by rw [ivals_length (by rw [hlen]; exact hZ), hlen, hc]; exact hin), hc]
      have := ivals_mid (a := (List.replicate i ks).flatten) (b := ks) (c := (List.replicate j ks).flatten) (X := Z)
      rw [hil, ← hsplit] at this
      rw [this]
    have hE := IH ((X.drop (i * ks.length)).take ks.length) ((Y.drop (i * ks.length)).take ks.length) (by simp; omega) (by simp; omega) w
    have hS := decide_split (X.drop (i * ks.length)) (Y.drop (i * ks.length)) ks.length
    rw [Nat.add_mul, Nat.one_mul, ← List.drop_drop, ← List.drop_drop] at hr
    simp only [List.range'_succ, Op.eqItems, Sem.run_bind, pp X hX, pp Y hY, hE, Result.andThen_ok]
    rw [hS]
    cases decide (((X.drop (i * ks.length)).take ks.length) = ((Y.drop (i * ks.length)).take ks.length))
    · simp
    · simpa using hr
theorem equalIn_ints (d : Nat) : ∀ (m : Nat) (t : TypeId) (ks : List IntKind), kindsOf P m t = some ks → EqI P (d + m) t ks
  | 0, _, _, h => by simp [kindsOf] at h
  | m + 1, t, ks, h => by
    have h0 := h
    unfold kindsOf at h
    cases hu : P.underlying t with
    | none => simp [hu] at h
    | some kd =>
      cases kd
      case int k =>
        simp only [hu, Option.some.injEq] at h
        subst h
        intro X Y hX hY w
        match X, hX, Y, hY with
        | [x], _, [y], _ =>
          have : (Op.equalIn (d + m + 1) t (.int k x) (.int k y)).run P w = .ok (x == y) w := run_equalIn_int w (d + m) t k k x y hu
          unfold valOf
          simp only [hu, ivals, List.zipWith_cons_cons, List.zipWith_nil_left, List.headD_cons]
          rw [show d + (m + 1) = d + m + 1 from rfl, this]
          congr 1
          rw [Bool.eq_iff_iff]; simp
      case array n e =>
        simp only [hu, Option.bind_eq_some_iff] at h
        obtain ⟨ke, h1, h2⟩ := h
        by_cases hc : P.cellsOf e = ke.length
        · rw [if_pos hc] at h2
          simp only [Option.some.injEq] at h2
          subst h2
          intro X Y hX hY w
          have hpe : ∃ i, P.info? e = some i := by
            cases m with
            | zero => simp [kindsOf] at h1
            | succ m' =>
              unfold kindsOf at h1
              cases hue : P.underlying e with
              | none => simp [hue] at h1
              | some _ => exact info_of_underlying hue
          obtain ⟨i, hi⟩ := hpe
          have hlen : (List.replicate n ke).flatten.length = n * ke.length := by simp
          have hv : ∀ Z, valOf P t (ivals (List.replicate n ke).flatten Z) = .agg (ivals (List.replicate n ke).flatten Z).toArray := fun Z => by unfold valOf; rw [hu]
          rw [hv, hv, show d + (m + 1) = (d + m) + 1 from rfl, run_equalIn_array w (d + m) _ _ hu hi, List.range_eq_range']
          have := eqItems_ints h1 hc (equalIn_ints d m e ke h1) n X Y (by rw [hX, hlen]) (by rw [hY, hlen]) w n 0 (by omega)
          simpa using this
        · rw [if_neg hc] at h2; cases h2
      case struct fs =>
        simp only [hu] at h
        by_cases hs : P.stoodInHeld t = true
        · rw [if_pos hs] at h; cases h
        · rw [if_neg hs] at h
          have hs' : P.stoodInHeld t = false := by simpa using hs
          obtain ⟨-, hrun⟩ := eqFields_ints (equalIn_ints d m) fs.toList [] ks h
          intro X Y hX hY w
          have hfs : P.fieldsOf t = fs := by simp [Program.fieldsOf, hu]
          have hv : ∀ Z, valOf P t (ivals ks Z) = .agg (ivals ks Z).toArray := fun Z => by unfold valOf; rw [hu]
          rw [hv, hv, show d + (m + 1) = (d + m) + 1 from rfl, run_equalIn_struct w (d + m) t _ _ (by rw [hfs]; exact hu) hs', hfs]
          simpa using hrun X Y hX hY w
      all_goals (simp [hu] at h; done)
/-- Structs and arrays of integers, held against each other. -/
theorem eql_ints {t : TypeId} {ks : List IntKind} (h : kindsOf P 100 t = some ks) (hg : ∀ cs, valOf P t cs = .agg cs.toArray) {xs ys : List Value} (X Y : List Int) (hX : X.length = ks.length) (hY : Y.length = ks.length) (ex : xs = ivals ks X) (ey : ys = ivals ks Y) (w : World) :
    (binOp .eql t (.agg xs.toArray) (.agg ys.toArray)).run P w = .ok (.bool (decide (X = Y))) w := by
  subst ex ey
  have := equalIn_ints (P := P) 9900 100 t ks h X Y hX hY w
  rw [hg, hg] at this
  rw [run_eql_struct]
  rw [this]
  rfl
theorem neq_ints {t : TypeId} {ks : List IntKind} (h : kindsOf P 100 t = some ks) (hg : ∀ cs, valOf P t cs = .agg cs.toArray) {xs ys : List Value} (X Y : List Int) (hX : X.length = ks.length) (hY : Y.length = ks.length) (ex : xs = ivals ks X) (ey : ys = ivals ks Y) (w : World) :
    (binOp .neq t (.agg xs.toArray) (.agg ys.toArray)).run P w = .ok (.bool (!decide (X = Y))) w := by
  subst ex ey
  have := equalIn_ints (P := P) 9900 100 t ks h X Y hX hY w
  rw [hg, hg] at this
  rw [run_neq_struct]
  rw [this]
  rfl
end
end Go.Proofs.YtnaclkaapicelaaGreat

namespace Go.Proofs.YtnaclkaapicelaaGreat
open Go.RowKit Go.WideShapes Go.ChangeShapes
def wfAll (ks : List IntKind) (X : List Int) : Prop := ∀ (i : Nat) k x, ks[i]? = some k → X[i]? = some x → (Lit.int k x).wf = true
theorem wfAll.nil : wfAll [] [] := fun i k x h => by simp at h
theorem wfAll.app {ks ls : List IntKind} {X Y : List Int} (h : wfAll ks X) (k : wfAll ls Y) (hl : X.length = ks.length) : wfAll (ks ++ ls) (X ++ Y) := fun i a x h1 h2 => by
  rcases Nat.lt_or_ge i ks.length with hi | hi
  · rw [List.getElem?_append_left hi] at h1
    rw [List.getElem?_append_left (by omega)] at h2
    exact h i a x h1 h2
  · rw [List.getElem?_append_right hi] at h1
    rw [List.getElem?_append_right (by omega), hl] at h2
    exact k _ a x h1 h2
theorem ivals_app {ks ls : List IntKind} {X Y : List Int} (hl : X.length = ks.length) : ivals (ks ++ ls) (X ++ Y) = ivals ks X ++ ivals ls Y := by
  unfold ivals
  exact List.zipWith_append hl.symm
section
variable {H : Type} {enc : TypeId × Value → H} {P : Program} {w : World} {base : Nat} {spare : Nat → Bool} {held : Bool}
/-- What reads at a type of integers is integers. -/
def ReadsI (H : Type) (enc : TypeId × Value → H) (P : Program) (w : World) (base : Nat) (spare : Nat → Bool) (held : Bool) (t : TypeId) (ks : List IntKind) : Prop :=
  ∀ fuel cs (y : DataW H × List MemPlace), DataW.trod enc P w base spare held fuel t cs = some y → ∃ X, cs = ivals ks X ∧ X.length = ks.length ∧ wfAll ks X
theorem fields_ints {m n : Nat} (IH : ∀ t ks, kindsOf P m t = some ks → P.cellsOf t = ks.length → ReadsI H enc P w base spare held t ks) (cs : List Value) : ∀ (fs : List Field) (acc ks : List IntKind),
    fs.foldlM (fun acc f => if f.name ≠ "_" ∧ f.offset = acc.length then (kindsOf P m f.type).bind fun ks => if P.cellsOf f.type = ks.length then some (acc ++ ks) else none else none) acc = some ks →
    (∀ f ∈ fs, ∃ z, DataW.trod enc P w base spare held n f.type ((cs.drop f.offset).take (P.cellsOf f.type)) = some z) → ∃ rest X, ks = acc ++ rest ∧ (cs.drop acc.length).take rest.length = ivals rest X ∧ X.length = rest.length ∧ wfAll rest X
  | [], acc, ks, h, _ => by
    simp only [List.foldlM_nil, pure, Option.some.injEq] at h
    exact ⟨[], [], by rw [← h]; simp, rfl, rfl, wfAll.nil⟩
  | f :: fs, acc, ks, h, hall => by
    simp only [List.foldlM_cons, bind, Option.bind_eq_some_iff] at h
    obtain ⟨acc', h1, h2⟩ := h
    by_cases hn : f.name ≠ "_" ∧ f.offset = acc.length
    · rw [if_pos hn] at h1
      simp only [Option.bind_eq_some_iff] at h1
      obtain ⟨kf, h3, h4⟩ := h1
      by_cases hc : P.cellsOf f.type = kf.length
      · rw [if_pos hc] at h4
        simp only [Option.some.injEq] at h4
        subst h4
        obtain ⟨z, hz⟩ := hall f (by simp)
        obtain ⟨Xf, e1, e2, e3⟩ := IH f.type kf h3 hc n _ z hz
        obtain ⟨rest, X, hr, hx, hl, hw⟩ := fields_ints IH cs fs _ ks h2 (fun g hg => hall g (by simp [hg]))
        refine ⟨kf ++ rest, Xf ++ X, by rw [hr, List.append_assoc], ?_, by simp; omega, e3.app hw e2⟩
        rw [ivals_app e2, ← e1, ← hx, hn.2, hc, List.length_append, List.length_append, ← List.drop_drop, List.take_add]
      · rw [if_neg hc] at h4; cases h4
    · rw [if_neg hn] at h1; cases h1
theorem items_ints {e : TypeId} {ks : List IntKind} {n : Nat} (IH : ReadsI H enc P w base spare held e ks) (hc : P.cellsOf e = ks.length) (cs : List Value) : ∀ (k : Nat),
    (∀ i, i < k → ∃ z, DataW.trod enc P w base spare held n e ((cs.drop (i * P.cellsOf e)).take (P.cellsOf e)) = some z) → ∃ X, cs.take (k * ks.length) = ivals (List.replicate k ks).flatten X ∧ X.length = k * ks.length ∧ wfAll (List.replicate k ks).flatten X
  | 0, _ => ⟨[], by simp [ivals], by simp, wfAll.nil⟩
  | k + 1, h => by
    obtain ⟨X, h1, h2, h3⟩ := items_ints IH hc cs k (fun i hi => h i (by omega))
    obtain ⟨z, hz⟩ := h k (by omega)
    obtain ⟨Y, e1, e2, e3⟩ := IH n _ z hz
    rw [List.replicate_succ', List.flatten_append]
    have hl : X.length = ((List.replicate k ks).flatten).length := by rw [h2]; simp
    refine ⟨X ++ Y, ?_, by rw [List.length_append, h2, e2, Nat.add_mul]; omega, ?_⟩
    · rw [Nat.add_mul, Nat.one_mul, List.take_add, h1, ← hc, e1]
      simp only [List.flatten_cons, List.flatten_nil, List.append_nil]
      rw [ivals_app hl]
    · simp only [List.flatten_cons, List.flatten_nil, List.append_nil]
      exact h3.app e3 hl
theorem trod_ints : ∀ (m : Nat) (t : TypeId) (ks : List IntKind), kindsOf P m t = some ks → P.cellsOf t = ks.length → ReadsI H enc P w base spare held t ks
  | 0, _, _, h, _ => by simp [kindsOf] at h
  | m + 1, t, ks, h, hct => by
    unfold kindsOf at h
    intro fuel cs y hy
    cases hu : P.underlying t with
    | none => simp [hu] at h
    | some kd =>
      cases kd
      case int k =>
        simp only [hu, Option.some.injEq] at h
        subst h
        obtain ⟨a, rfl, -, hw⟩ := DataW.trod_int hu hy
        refine ⟨[a], rfl, rfl, fun i k' x h1 h2 => ?_⟩
        match i with
        | 0 =>
          simp only [List.getElem?_cons_zero, Option.some.injEq] at h1 h2
          subst h1 h2; exact hw
        | i + 1 => simp at h1
      case array n e =>
        simp only [hu, Option.bind_eq_some_iff] at h
        obtain ⟨ke, h1, h2⟩ := h
        by_cases hc : P.cellsOf e = ke.length
        · rw [if_pos hc] at h2
          simp only [Option.some.injEq] at h2
          subst h2
          obtain ⟨xs, q, -, -, hlen, hxl, hg⟩ := DataW.trod_array hu hy
          obtain ⟨X, e1, e2, e3⟩ := items_ints (n := q) (trod_ints m e ke h1 hc) hc cs n (fun i hi => by
            have := hg i hi
            exact ⟨xs[i]'(by omega), by rw [this, List.getElem?_eq_getElem (by omega)]⟩)
          have hf : cs.length = n * ke.length := by rw [hlen, hct]; simp
          rw [← hf, List.take_length] at e1
          exact ⟨X, e1, by rw [e2]; simp, e3⟩
        · rw [if_neg hc] at h2; cases h2
      case struct fs =>
        simp only [hu] at h
        by_cases hs : P.stoodInHeld t = true
        · rw [if_pos hs] at h; cases h
        · rw [if_neg hs] at h
          obtain ⟨xs, q, -, -, hlen, hxl, hg⟩ := DataW.trod_struct hu hy
          obtain ⟨rest, X, e0, e1, e2, e3⟩ := fields_ints (n := q) (trod_ints m) cs fs.toList [] ks h (fun f hf => by
            obtain ⟨i, hi, rfl⟩ := List.mem_iff_getElem.1 hf
            have hi' : i < fs.size := by simpa using hi
            have := hg i fs[i] (by simp [hi'])
            rw [List.getElem?_eq_getElem (by omega)] at this
            exact ⟨_, by simpa using this⟩)
          rw [List.nil_append] at e0
          subst e0
          have : (cs.drop 0).take ks.length = cs := by rw [List.drop_zero, ← hct, ← hlen, List.take_length]
          exact ⟨X, by rw [← e1]; exact this.symm, e2, e3⟩
      all_goals (simp [hu] at h; done)
end
end Go.Proofs.YtnaclkaapicelaaGreat

namespace Go.Proofs.YtnaclkaapicelaaGreat
open Go.RowKit Go.WideShapes Go.ChangeShapes
set_option maxRecDepth 100000
theorem st_kinds : kindsOf Tryz.prog 100 33 = some (rowOf 60 kdS) := by kernel_rfl
theorem pb_kinds : kindsOf Tryz.prog 100 34 = some [.u8, .u8] := by kernel_rfl
theorem ivals_row (kd : Nat → IntKind) (n : Nat) (X : List Int) (h : X.length = n) : ivals (rowOf n kd) X = rowOf n fun i => Value.int (kd i) (X.getD i 0) := by
  subst h
  apply List.ext_getElem
  · simp [ivals, rowOf]
  · intro i h1 h2
    simp [ivals, rowOf] at h1 h2 ⊢
    rw [List.getElem?_eq_getElem h1]; simp
def pbCells (p : Nat × Nat) : List Value := [.int .u8 p.1, .int .u8 p.2]
theorem pbCells_length (p : Nat × Nat) : (pbCells p).length = 2 := rfl
section
variable {H : Type} {enc : TypeId × Value → H} {w : World} {held : Bool} {r : Reach} {b0 : Nat} {v : Value} {d : DataW H} {p : List MemPlace}
end
end Go.Proofs.YtnaclkaapicelaaGreat

namespace Go.Proofs.YtnaclkaapicelaaGreat
open Go.RowKit
set_option maxRecDepth 100000
/-- A state is itself. -/
theorem st_eql (T : Nat → Int) (w : World) : (binOp .eql 33 (.agg (stCells T).toArray) (.agg (stCells T).toArray)).run Tryz.prog w = .ok (.bool true) w := by
  have hX : (rowOf 60 T).length = (rowOf 60 kdS).length := by rw [rowOf_length, rowOf_length]
  have e : stCells T = ivals (rowOf 60 kdS) (rowOf 60 T) := by
    rw [ivals_row _ _ _ (rowOf_length _ _)]
    unfold stCells rowOf
    refine List.map_congr_left fun i hi => ?_
    have : i < 60 := by simpa using hi
    simp [List.getD_eq_getElem?_getD, this]
  have := eql_ints st_kinds (fun cs => by unfold valOf; rw [Tryz.underlying33]) (rowOf 60 T) (rowOf 60 T) hX hX e e w
  simpa using this
end Go.Proofs.YtnaclkaapicelaaGreat
