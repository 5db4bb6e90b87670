/-
  Cuts out of slices.Values, one by one; a cut appended to a row of the call's own inside a round.
-/
import Derived.Test.YtaegekfdbhmcaaaDoorRbP
import Derived.Test.YtaegekfdbhmcaaaDoorAppAny
import Derived.RangeFuncNested
import Derived.RangeFuncBound
import Derived.RangeFuncCalls
import Derived.RangeFuncLeaves
import Derived.Shelf.Abstract
import Derived.Shelf.RegionOpen
import Derived.OwnWalkIn
import Derived.TacticsInMore
import Derived.LoopNIn
import Derived.LoopIn
import Derived.Maps.AppendAt
namespace Go.Proofs.YtaegekfdbhmcaaaDoor
open Go.RowKit Go.Shelf
attribute [local go_sem] Oper.semAt_some
set_option maxRecDepth 100000
set_option linter.unusedSimpArgs false
theorem lgInfoCut : (Tryd.prog.info? 48).map (fun i => (i.zero, i.size, i.bytes)) = some (some (.agg #[.int .i64 0, .int .i64 0, .int .i64 0]), 3, 24) := by kernel_rfl
theorem lg_oneCellC (M : List Cut) : ∀ u ∈ M.flatMap Cut.cells, u.oneCell' = true := fun u hu => by
  obtain ⟨e, -, he⟩ := List.mem_flatMap.1 hu
  simp only [Cut.cells, List.mem_cons, List.not_mem_nil, or_false] at he
  rcases he with rfl | rfl | rfl <;> rfl
theorem lg_rd1 (w : World) (x : Cut) : Rd (w.alloc (.cells #[.int .i64 x.frm, .int .i64 x.to_, .int .i64 x.weight] 48)) (w.heap.size + 1) (some ⟨w.heap.size, 0, none⟩) ([x].flatMap Cut.cells) :=
  rd_new w _ 48 _ rfl _ (Nat.lt_succ_self _)
theorem take_snoc {α : Type} (L : List α) (k : Nat) (hk : k < L.length) : L.take (k + 1) = L.take k ++ [L[k]] := by
  rw [List.take_succ_eq_append_getElem hk]
theorem lg_owned {W W' : World} {row : Option Nat} {g B : Nat} {E : TypeId} {cs : Array Value} (h : Blk W g E cs) (hg : W.grownBy W' row) (hr : ∀ r, row = some r → B ≤ r ∧ ∃ o : Obj, W.heap[r]? = some o ∧ o.isCells = false) : Blk W' g E cs :=
  h.grown hg (fun e => by
    obtain ⟨-, _, ho, hc⟩ := hr g e
    have h' : W.heap[g]? = some (.cells cs E (0, 0)) := h
    rw [h'] at ho
    cases ho
    cases hc)
section
variable {α : Type} {A A' : World} {m : Nat} {E : TypeId} {k : Nat} {v : Value} {f : α → List Value} {l : List α}
theorem lg_isRow (h : OwnL A m E k v f l) {g : Nat} (hg : v.ownBlock = some g) : m ≤ g ∧ ∃ cur fz, A.heap[g]? = some (.cells cur E fz) := by
  rcases h.2 with ⟨rfl, _⟩ | ⟨g1, cap, cur, rfl, hb, h1, _⟩
  · simp [Value.ownBlock] at hg
  · simp only [Value.ownBlock, Option.some.injEq] at hg
    subst hg
    exact ⟨hb, _, _, h1⟩
theorem lg_ne_low (h : OwnL A m E k v f l) {b : Nat} (hb : b < m) : v.ownBlock ≠ some b := fun e => by have := (lg_isRow h e).1; omega
theorem lg_rowOwned {row : Option Nat} {B : Nat} (h : OwnL A m E k v f l) (hg : A.grownBy A' row) (hr : ∀ r, row = some r → B ≤ r ∧ ∃ o : Obj, A.heap[r]? = some o ∧ o.isCells = false) : OwnL A' m E k v f l := by
  refine h.kept hg ?_
  cases hv : v.ownBlock with
  | none => exact .inl rfl
  | some g =>
    refine .inr fun e => ?_
    obtain ⟨h1, cur, fz, h2⟩ := lg_isRow h hv
    obtain ⟨-, o, ho, hc⟩ := hr g e.symm
    rw [h2] at ho; cases ho; cases hc
end
theorem wpListIn_app_cut {F : Fence} {n : Nat} {w : World} {ops : Array Oper} {rest : List Oper} {o : Oper} {a : Act} {Q : Exit → Act → World → Prop} (hgd : o.guard = none) (s x : Operand)
    (ho : o.op = .call { callee := .builtin .append, args := #[s, x], argTypes := #[22, 22] })
    (base : Nat) (u : Value) (L M : List Cut) (hown : OwnL w base 48 3 u Cut.cells L) (hs : a.eval s = u)
    (B : Nat) (A : Option Addr) (m c : Nat) (hm : m = M.length) (hx : a.eval x = .slice A m c) (hr : Rd w B A (M.flatMap Cut.cells)) (hn : L.length + M.length ≤ 1000000000) (hbase : base ≤ w.heap.size)
    (h : ∀ A' c' n' w', Hid (n' = L.length + M.length) → OwnL w' base 48 3 (.slice A' n' c') Cut.cells (L ++ M) → w.grownBy w' u.ownBlock → wpListIn F n Tryd.prog ops Q rest (a.put o.dst (.slice A' n' c')) w') : wpListIn F n Tryd.prog ops Q (o :: rest) a w := by
  subst hm
  obtain ⟨i0, hi0, hz0, hz1, hz2⟩ := info_parts lgInfoCut
  refine wpListIn_plain hgd fun K' hK' => ?_
  obtain ⟨v', w', hrun, hw, hg, -⟩ := append_rd_run (P := Tryd.prog) w base 22 o.type 48 i0 _ 3 24 Tryd.underlying22 hi0 hz0 hz1 hz2 rfl (by decide) u L.length (L.flatMap Cut.cells) hown B A M.length c (M.flatMap Cut.cells) (length_flatMap_const _ _ Cut.cells_length _) hr (rd_none Cut.cells_length (by decide) hr) (lg_oneCellC M) (by unfold maxLen; omega) (by omega) hbase
  have ho' : OwnL w' base 48 3 v' Cut.cells (L ++ M) := OwnL.app (n := L.length + M.length) rfl hw
  obtain ⟨A', c', rfl⟩ := ho'.shape
  unfold Oper.wpIn
  refine ⟨?_, ?_⟩
  · simp [Oper.about, ho, resolve, Target.leads, Sem.run_pure]
  · rw [Oper.semAt_plain F _ _ (by rw [ho]; intro c hc'; cases hc')]
    unfold execOp
    simp only [ho, resolve, invoke, builtin, Sem.run_bind, Sem.run_pure, Result.andThen_ok, List.map_toArray, List.map_cons, List.map_nil, hs, hx, hrun]
    exact hK' _ _ (h A' c' _ w' (Lib.hid (by rw [List.length_append])) ho' hg)
set_option maxHeartbeats 1000000 in
theorem valsCut_any (A : Option Addr) (n c : Nat) (w : World) : Calls Tryd.prog 17 #[.slice A n c] w fun e w' => e = .returned (.func (.func 33) #[] #[.pointer (some ⟨w.heap.size, 0, none⟩)]) ∧ w' = w.alloc (.cells #[.slice A n c] 22) := by
  go_enter Tryd.func17, Tryd.ntmps17
  go_wp2
  go_ret
  exact ⟨rfl, rfl⟩
set_option maxHeartbeats 2000000 in
theorem valsCutC_in (n : Nat) (hn : 1 ≤ n) (l Bs n₀ : Nat) (A : Option Addr) (c : Nat) (L : List Cut) (hL : L.length ≤ 1000) (J Jx : List Cut → World → Prop) (W : World) (hJ : AbidesFrom W.heap.size J)
    (hY : ∀ pre x W, J pre W → pre.length < L.length → YieldAt Fence.wide (n - 1) Tryd.prog l #[x.val] W fun e W' =>
      (e = .returned (.bool true) ∧ J (pre ++ [x]) W' ∧ Below n₀ W W') ∨ (e = .returned (.bool false) ∧ Jx (pre ++ [x]) W'))
    (hBs : W.cell? ⟨Bs, 0, none⟩ = some (.slice A L.length c)) (hBl : Bs < n₀) (hn0 : n₀ ≤ W.heap.size) (hr : Rd W n₀ A (L.flatMap Cut.cells)) (h0 : J [] W) :
    CallsIn Fence.wide n Tryd.prog 33 #[.func (.yield l) #[] #[], .pointer (some ⟨Bs, 0, none⟩)] W fun e W' => (∃ v, e = .returned v) ∧
      ((∃ ys, ys = L ∧ J ys W') ∨ (∃ pre, (∃ k, k ≤ L.length ∧ pre = L.take k) ∧ Jx pre W')) := by
  have HR := Lib.hid hr
  have HBs := Lib.hid hBs
  have hlt0 : Bs < W.heap.size := by omega
  clear hr
  refine callsIn_of_wp Tryd.func33 rfl trivial ?_ rfl
  simp only [Tryd.ntmps33, List.size_toArray, List.length_cons, List.length_nil, Nat.reduceAdd, Nat.reduceSub, Array.replicate_succ, Array.replicate_zero, List.push_toArray, List.append_toArray, List.nil_append, List.cons_append]
  gi_wp2
  gi_loopw [7] (fun i wr => ∃ k : Nat, k ≤ L.length ∧ i = .int .i64 k ∧ J (L.take k) wr ∧ Below n₀ W wr) (fun i _ => L.length - (intOf i).toNat)
  case atStart => exact ⟨0, Nat.zero_le _, rfl, h0, Below.refl _ _⟩
  case round =>
    obtain ⟨k, hk, rfl, hJs, hb⟩ := hrel
    by_cases hlt : k < L.length
    · obtain ⟨b, off, rfl, hB, hc⟩ := (HR.out.below hb (Nat.le_refl _)).at_ Cut.cells_length (by omega) hlt
      have c0 := hc 0 _ rfl
      have c1 := hc 1 _ rfl
      have c2 := hc 2 _ rfl
      rw [Nat.add_zero] at c0
      clear hc
      have hsn := take_snoc L k hlt
      obtain ⟨x, hx⟩ : ∃ x, L[k] = x := ⟨_, rfl⟩
      rw [hx] at c0 c1 c2 hsn
      have HSN := Lib.hid hsn
      have hJ2 := hJ _ wr (wr.alloc (.cells #[.int .i64 x.frm, .int .i64 x.to_, .int .i64 x.weight] 48)) none hJs (World.grownBy_alloc _ _ none) (fun r e => by cases e)
      obtain ⟨fn, tmps, assign, body, hy, hR⟩ := hY _ x _ hJ2 (by rw [List.length_take]; omega)
      have hba := hb.alloc (Nat.le_trans hn0 hb.size) (.cells #[.int .i64 x.frm, .int .i64 x.to_, .int .i64 x.weight] 48)
      dsimp only [Cut.val] at hy
      have HJ2 := Lib.hid hba
      clear hsn hJs hJ2 hba hx
      gi_wp2
      refine hR.mono ?_
      rintro e W3 (⟨rfl, hJ3, hk3⟩ | ⟨rfl, hJx3⟩)
      · gi_wp2
        go_roundw
        case rel => exact ⟨k + 1, by omega, by go_num, by rw [HSN.out]; exact hJ3, HJ2.out.trans hk3⟩
        case measure => simp [intOf]; omega
      · gi_wp2
        refine bodyPost_ret (results_none rfl _ _ _) rfl ?_
        exact ⟨⟨_, rfl⟩, .inr ⟨_, ⟨k + 1, by omega, HSN.out.symm⟩, hJx3⟩⟩
    · obtain rfl : k = L.length := by omega
      gi_wp2
      go_end0
      exact ⟨⟨_, rfl⟩, .inl ⟨_, by rw [List.take_of_length_le (Nat.le_refl _)], hJs⟩⟩
theorem valsCut_stops (n : Nat) (hn : 1 ≤ n) (Bs n₀ : Nat) (A : Option Addr) (c : Nat) (L : List Cut) (hL : L.length ≤ 1000) (w : World) (hBs : w.cell? ⟨Bs, 0, none⟩ = some (.slice A L.length c)) (hBl : Bs < n₀) (hn0 : n₀ ≤ w.heap.size) (hr : Rd w n₀ A (L.flatMap Cut.cells)) :
    SeqStopsK Fence.wide n Tryd.prog 33 #[.pointer (some ⟨Bs, 0, none⟩)] (fun x : Cut => #[x.val]) (Below n₀) (fun xs => xs = L) (fun pre => ∃ k, k ≤ L.length ∧ pre = L.take k) L.length w := fun l J Jx W hW hJ _ hY h0 =>
  valsCutC_in n hn l Bs n₀ A c L hL J Jx W hJ hY ((hW.cell (p := ⟨Bs, 0, none⟩) (Nat.lt_of_lt_of_le hBl hn0)).trans hBs) hBl (Nat.le_trans hn0 hW.size) (hr.below hW hn0) h0
end Go.Proofs.YtaegekfdbhmcaaaDoor
