/-
  The walks beneath: MapI, Col.
-/
import Derived.RangeFuncNested
import Derived.RangeFuncBound
import Derived.RangeFuncCalls
import Derived.RangeFuncLeaves
import Derived.RangeFuncMany
import Derived.Sort.MapsRangeIn
import Derived.Shelf.Abstract
import Derived.Shelf.RegionOpen
import Derived.OwnWalkIn
import Derived.TacticsInMore
import Derived.LoopNIn
import Derived.LoopIn
import Derived.Test.YtibeihcpehikoaaGreatMq43
import Derived.Test.YtibeihcpehikoaaGreatMq31
namespace Go.Proofs.YtibeihcpehikoaaGreat
open Go.RowKit Go.Shelf
open Go.Maps (Keyed)
attribute [local go_sem] Oper.semAt_some
section
variable {κ ν : Type} {ke : κ → Value} {ve : ν → Value} {P : Program} {F : Fence} {n : Nat} (w : World) {ops : Array Oper} {rest : List Oper} {o : Oper} {a : Act} {Q : Exit → Act → World → Prop}
theorem wpListIn_rangeM (hg : o.guard = none) (m : Operand) (t : TypeId) (hop : o.op = Op.range t m) (k e : TypeId) (ht : P.underlying t = some (.map k e)) (b : Nat) (L : List (κ × ν)) (hm : a.eval m = .map (some b)) (h : MapIs ke ve P k w b L)
    (hK : ∀ w', MapGo ke ve P k w' b w.heap.size L L → w.grownBy w' none → w'.heap.size = w.heap.size + 1 → wpListIn F n P ops Q rest (a.put o.dst (.pointer (some ⟨w.heap.size, 0, none⟩))) w') : wpListIn F n P ops Q (o :: rest) a w := by
  refine wpListIn_plain hg fun K' hK' => ?_
  obtain ⟨w', hrun, r1, r2, r3⟩ := h.range ht
  unfold Oper.wpIn
  refine ⟨by simp [Oper.about, hop], ?_⟩
  rw [Oper.semAt_plain F _ _ (by rw [hop]; intro c hc'; cases hc')]
  simp [execOp, hop, hm, hrun, Result.andThen]
  exact hK' _ _ (hK w' r1 r2 r3)
theorem wpListIn_nextM (hg : o.guard = none) (it : Operand) (hop : o.op = Op.next it false) (k : TypeId) (b r : Nat) (L left : List (κ × ν)) (hit : a.eval it = .pointer (some ⟨r, 0, none⟩)) (h : MapGo ke ve P k w b r L left)
    (hDone : left = [] → wpListIn F n P ops Q rest (a.put o.dst (.tuple #[.bool false])) w)
    (hMore : ∀ (p : κ × ν) (left' : List (κ × ν)) (w' : World), left.Perm (p :: left') → MapGo ke ve P k w' b r L left' → w.grownBy w' (some r) → w'.heap.size = w.heap.size →
      (Instr.entry (.pointer (some ⟨r, 0, none⟩))).run P w' = .ok (.tuple #[ke p.1, ve p.2]) w' → wpListIn F n P ops Q rest (a.put o.dst (.tuple #[.bool true, ke p.1, ve p.2])) w') : wpListIn F n P ops Q (o :: rest) a w := by
  refine wpListIn_plain hg fun K' hK' => ?_
  unfold Oper.wpIn
  refine ⟨by simp [Oper.about, hop], ?_⟩
  rw [Oper.semAt_plain F _ _ (by rw [hop]; intro c hc'; cases hc')]
  rcases h.next o.type with ⟨h0, hrun⟩ | ⟨p, left', w', h1, hrun, h2, h3, h4, h5⟩
  · simp [execOp, hop, hit, hrun, Result.andThen]
    exact hK' _ _ (hDone h0)
  · simp [execOp, hop, hit, hrun, Result.andThen]
    exact hK' _ _ (hMore p left' w' h1 h2 h3 h4 h5)
end
section
variable {κ ν : Type} {ke : κ → Value} {ve : ν → Value} {P : Program} {k : TypeId} {w : World} {b r : Nat} {L left : List (κ × ν)}
theorem MapGo.of_walks (h : MapGo ke ve P k w b r L left) {w' : World} (hk : KeepsWalks w w') : MapGo ke ve P k w' b r L left := by
  obtain ⟨es, clock, s, q, c, hb, F, hn, hm, hr, rest⟩ := h
  exact ⟨es, clock, s, q, c, hk.same b _ hb rfl, F, hn, hm, hk.same r _ hr rfl, rest⟩
theorem MapGo.iter_walk (h : MapGo ke ve P k w b r L left) : ∃ o : Obj, w.heap[r]? = some o ∧ o.isWalk = true := by
  obtain ⟨_, _, _, _, _, _, _, _, _, hr, _⟩ := h
  exact ⟨_, hr, rfl⟩
theorem MapGo.left_eq (h : MapGo ke ve P k w b r L left) : w.rangeLeft b r = left.length := by
  obtain ⟨es, clock, s, q, c, hb, F, hn, hm, hr, _, _, _, hp⟩ := h
  simp only [World.rangeLeft, hb, hr]
  have := hp.length_eq
  simpa using this
end
set_option maxRecDepth 100000 in
set_option maxHeartbeats 2000000 in
/-- maps.Values' iterator, for every loop body: the entries come in some order. -/
theorem valsM_in (n : Nat) (hn : 1 ≤ n) (l Bm b : Nat) (L : List (Key4 × Ev)) (J Jx : List (Key4 × Ev) → World → Prop) (W : World) (hJ : AbidesFrom W.heap.size J)
    (hY : ∀ pre x W, J pre W → pre.length < L.length → YieldAt Fence.wide (n - 1) Tryz.prog l #[x.2.val] W fun e W' =>
      (e = .returned (.bool true) ∧ J (pre ++ [x]) W' ∧ KeepsWalks W W') ∨ (e = .returned (.bool false) ∧ Jx (pre ++ [x]) W'))
    (hm : W.cell? ⟨Bm, 0, none⟩ = some (.map (some b))) (hown : MapIs Key4.val Ev.val Tryz.prog 60 W b L) (h0 : J [] W) :
    CallsIn Fence.wide n Tryz.prog 156 #[.func (.yield l) #[] #[], .pointer (some ⟨Bm, 0, none⟩)] W fun e W' => (∃ v, e = .returned v) ∧
      ((∃ xs, xs.Perm L ∧ J xs W') ∨ (∃ pre, True ∧ Jx pre W')) := by
  have hlt0 := block_lt_of_cell hm
  refine callsIn_of_wp Tryz.func156 rfl trivial ?_ rfl
  simp only [Tryz.ntmps156, List.size_toArray, List.length_cons, List.length_nil, Nat.reduceAdd, Nat.reduceSub, Array.replicate_succ, Array.replicate_zero, List.push_toArray, List.append_toArray, List.nil_append, List.cons_append]
  gi_wp2_with (first
    | (gi_at_range; refine wpListIn_rangeM _ rfl _ 148 rfl 60 62 Tryz.underlying148 b L rfl hown ?_; intro w0 hrg0 hg0 hs0)
    | gi_in)
  try go_frame
  gi_loopw [4] (fun _ wr => ∃ (left ps : List (Key4 × Ev)), MapGo Key4.val Ev.val Tryz.prog 60 wr b W.heap.size L left ∧ (ps ++ left).Perm L ∧ J ps wr) (fun _ wr => wr.rangeLeft b W.heap.size)
  case atStart => exact ⟨_, [], hrg0, List.Perm.refl _, hJ [] W w0 none h0 hg0 (fun r e => by cases e)⟩
  case round =>
    obtain ⟨left, ps, hrg, hps, hJs⟩ := hrel
    clear hrg0 hg0 hs0
    gi_wp2_with (first
      | (gi_at_next; refine wpListIn_nextM _ rfl _ rfl 60 b W.heap.size L left rfl hrg ?_ ?_)
      | gi_in)
    · intro hnil
      gi_wp2
      go_end0
      exact ⟨⟨_, rfl⟩, .inl ⟨ps, by rw [hnil, List.append_nil] at hps; exact hps, hJs⟩⟩
    · intro kx e left2 w2 hp2 hrg2 hg2 hs2 hen
      have hJ2 : J ps w2 := hJ ps wr w2 (some W.heap.size) hJs hg2 (fun r e => by cases e; exact ⟨Nat.le_refl _, hrg.iter_walk⟩)
      have hlen : ps.length < L.length := by
        have := hps.length_eq
        have h2 := hp2.length_eq
        rw [List.length_append] at this
        rw [List.length_cons] at h2
        omega
      have hps2 : ((ps ++ [(kx, e)]) ++ left2).Perm L := by
        rw [List.append_assoc]
        exact ((hp2.symm.append_left ps)).trans hps
      have hmeas := hp2.length_eq
      have hJ3 := hJ _ w2 (w2.alloc (.cells #[.int .i64 e.frame, .int .i64 e.emitter, .int .i64 e.kind, .int .i64 e.ord, .int .i64 e.asset, .int .i64 e.gain, .int .i64 e.pan, .int .i64 e.prio, .int .i64 e.len] 62)) none hJ2 (World.grownBy_alloc _ _ none) (fun r e => by cases e)
      have hrg3 : MapGo Key4.val Ev.val Tryz.prog 60 (w2.alloc (.cells #[.int .i64 e.frame, .int .i64 e.emitter, .int .i64 e.kind, .int .i64 e.ord, .int .i64 e.asset, .int .i64 e.gain, .int .i64 e.pan, .int .i64 e.prio, .int .i64 e.len] 62)) b W.heap.size L left2 := hrg2.of_walks (KeepsWalks.alloc _ _)
      obtain ⟨fn, tmps, assign, body, hy, hR⟩ := hY ps (kx, e) _ hJ3 hlen
      dsimp only [Ev.val] at hy hen
      dsimp only [Ev.val]
      have HRG := Lib.hid hrg3
      have HMS := Lib.hid hmeas
      have HLE := Lib.hid hrg.left_eq
      have HPS := Lib.hid hps2
      clear hs2 hrg2 hrg3 hrg hps hps2 hp2 hJ2 hJ3 hJs hmeas
      gi_wp2
      refine hR.mono ?_
      rintro e W3 (⟨rfl, hJ4, hk4⟩ | ⟨rfl, hJx4⟩)
      · gi_wp2
        have hrg4 := HRG.out.of_walks hk4
        go_roundw
        case rel => exact ⟨left2, _, hrg4, HPS.out, hJ4⟩
        case measure => rw [hrg4.left_eq, HLE.out, HMS.out]; simp
      · gi_wp2
        refine bodyPost_ret (results_none rfl _ _ _) rfl ?_
        exact ⟨⟨_, rfl⟩, .inr ⟨_, trivial, hJx4⟩⟩
theorem valsM_stops (n : Nat) (hn : 1 ≤ n) (Bm b : Nat) (L : List (Key4 × Ev)) (w : World) (hm : w.cell? ⟨Bm, 0, none⟩ = some (.map (some b))) (hown : MapIs Key4.val Ev.val Tryz.prog 60 w b L) :
    SeqStopsK Fence.wide n Tryz.prog 156 #[.pointer (some ⟨Bm, 0, none⟩)] (fun x : Key4 × Ev => #[x.2.val]) KeepsWalks (fun xs => xs.Perm L) (fun _ => True) L.length w := fun l J Jx W hW hJ _ hY h0 =>
  valsM_in n hn l Bm b L J Jx W hJ hY ((hW.cell (p := ⟨Bm, 0, none⟩) (block_lt_of_cell hm)).trans hm) (hown.same (hW.block b hown.lt)) h0
end Go.Proofs.YtibeihcpehikoaaGreat

namespace Go.Proofs.YtibeihcpehikoaaGreat
open Go.RowKit Go.Shelf
attribute [local go_sem] Oper.semAt_some
set_option maxRecDepth 100000
set_option linter.unusedSimpArgs false
theorem lgInfoEv : (Tryz.prog.info? 62).map (fun i => (i.zero, i.size, i.bytes)) = some (some (.agg #[.int .i64 0, .int .i64 0, .int .i64 0, .int .i64 0, .int .i64 0, .int .i64 0, .int .i64 0, .int .i64 0, .int .i64 0]), 9, 72) := by kernel_rfl
theorem lg_oneCell (M : List Ev) : ∀ u ∈ M.flatMap Ev.cells, u.oneCell' = true := fun u hu => by
  obtain ⟨e, -, he⟩ := List.mem_flatMap.1 hu
  simp only [Ev.cells, List.mem_cons, List.not_mem_nil, or_false] at he
  rcases he with rfl | rfl | rfl | rfl | rfl | rfl | rfl | rfl | rfl <;> rfl
theorem lg_rd1 (w : World) (x : Ev) : Rd (w.alloc (.cells #[.int .i64 x.frame, .int .i64 x.emitter, .int .i64 x.kind, .int .i64 x.ord, .int .i64 x.asset, .int .i64 x.gain, .int .i64 x.pan, .int .i64 x.prio, .int .i64 x.len] 62)) (w.heap.size + 1) (some ⟨w.heap.size, 0, none⟩) ([x].flatMap Ev.cells) :=
  rd_new w _ 62 _ rfl _ (Nat.lt_succ_self _)
theorem lg_owned {W W' : World} {row : Option Nat} {g B : Nat} {E : TypeId} {cs : Array Value} (h : Blk W g E cs) (hg : W.grownBy W' row) (hr : ∀ r, row = some r → B ≤ r ∧ ∃ o : Obj, W.heap[r]? = some o ∧ o.isCells = false) : Blk W' g E cs :=
  h.grown hg (fun e => by
    obtain ⟨-, _, ho, hc⟩ := hr g e
    have h' : W.heap[g]? = some (.cells cs E (0, 0)) := h
    rw [h'] at ho
    cases ho
    cases hc)
section
variable {α : Type} {A A' : World} {m : Nat} {E : TypeId} {k : Nat} {v : Value} {f : α → List Value} {l : List α}
theorem lg_isRow (h : OwnL A m E k v f l) {g : Nat} (hg : v.ownBlock = some g) : m ≤ g ∧ ∃ cur fz, A.heap[g]? = some (.cells cur E fz) := by
  rcases h.2 with ⟨rfl, _⟩ | ⟨g1, cap, cur, rfl, hb, h1, _⟩
  · simp [Value.ownBlock] at hg
  · simp only [Value.ownBlock, Option.some.injEq] at hg
    subst hg
    exact ⟨hb, _, _, h1⟩
theorem lg_ne_low (h : OwnL A m E k v f l) {b : Nat} (hb : b < m) : v.ownBlock ≠ some b := fun e => by have := (lg_isRow h e).1; omega
theorem lg_rowOwned {row : Option Nat} {B : Nat} (h : OwnL A m E k v f l) (hg : A.grownBy A' row) (hr : ∀ r, row = some r → B ≤ r ∧ ∃ o : Obj, A.heap[r]? = some o ∧ o.isCells = false) : OwnL A' m E k v f l := by
  refine h.kept hg ?_
  cases hv : v.ownBlock with
  | none => exact .inl rfl
  | some g =>
    refine .inr fun e => ?_
    obtain ⟨h1, cur, fz, h2⟩ := lg_isRow h hv
    obtain ⟨-, o, ho, hc⟩ := hr g e.symm
    rw [h2] at ho; cases ho; cases hc
end
theorem wpListIn_app_ev {F : Fence} {n : Nat} {w : World} {ops : Array Oper} {rest : List Oper} {o : Oper} {a : Act} {Q : Exit → Act → World → Prop} (hgd : o.guard = none) (s x : Operand)
    (ho : o.op = .call { callee := .builtin .append, args := #[s, x], argTypes := #[52, 52] })
    (base : Nat) (u : Value) (L M : List Ev) (hown : OwnL w base 62 9 u Ev.cells L) (hs : a.eval s = u)
    (B : Nat) (A : Option Addr) (m c : Nat) (hm : m = M.length) (hx : a.eval x = .slice A m c) (hr : Rd w B A (M.flatMap Ev.cells)) (hn : L.length + M.length ≤ 1000000000) (hbase : base ≤ w.heap.size)
    (h : ∀ A' c' n' w', Hid (n' = L.length + M.length) → OwnL w' base 62 9 (.slice A' n' c') Ev.cells (L ++ M) → w.grownBy w' u.ownBlock → wpListIn F n Tryz.prog ops Q rest (a.put o.dst (.slice A' n' c')) w') : wpListIn F n Tryz.prog ops Q (o :: rest) a w := by
  subst hm
  obtain ⟨i0, hi0, hz0, hz1, hz2⟩ := info_parts lgInfoEv
  refine wpListIn_plain hgd fun K' hK' => ?_
  obtain ⟨v', w', hrun, hw, hg, -⟩ := append_rd_run (P := Tryz.prog) w base 52 o.type 62 i0 _ 9 72 Tryz.underlying52 hi0 hz0 hz1 hz2 rfl (by decide) u L.length (L.flatMap Ev.cells) hown B A M.length c (M.flatMap Ev.cells) (length_flatMap_const _ _ Ev.cells_length _) hr (rd_none Ev.cells_length (by decide) hr) (lg_oneCell M) (by unfold maxLen; omega) (by omega) hbase
  have ho' : OwnL w' base 62 9 v' Ev.cells (L ++ M) := OwnL.app (n := L.length + M.length) rfl hw
  obtain ⟨A', c', rfl⟩ := ho'.shape
  unfold Oper.wpIn
  refine ⟨?_, ?_⟩
  · simp [Oper.about, ho, resolve, Target.leads, Sem.run_pure]
  · rw [Oper.semAt_plain F _ _ (by rw [ho]; intro c hc'; cases hc')]
    unfold execOp
    simp only [ho, resolve, invoke, builtin, Sem.run_bind, Sem.run_pure, Result.andThen_ok, List.map_toArray, List.map_cons, List.map_nil, hs, hx, hrun]
    exact hK' _ _ (h A' c' _ w' (Lib.hid (by rw [List.length_append])) ho' hg)
/-- AppendSeq to nothing. -/
theorem appendSeq_in (gf : Nat) (lb : Array Value) (hent : ∀ args w, (callFunc gf args).run Tryz.prog w = .ok (.enter gf args) w) (L : List (Key4 × Ev)) (hL : L.length ≤ 1000000) (w : World)
    (hst : ∀ W, Below w.heap.size w W → SeqStopsK Fence.wide 2 Tryz.prog gf lb (fun x : Key4 × Ev => #[x.2.val]) KeepsWalks (fun xs => xs.Perm L) (fun _ => True) L.length W) :
    CallsIn Fence.wide 3 Tryz.prog 154 #[.slice none 0 0, .func (.func gf) #[] lb] w fun e w' => ∃ (A : Option Addr) (c : Nat) (xs : List (Key4 × Ev)), e = .returned (.slice A xs.length c) ∧ xs.Perm L ∧ OwnL w' w.heap.size 62 9 (.slice A xs.length c) Ev.cells (xs.map (·.2)) ∧ Below w.heap.size w w' := by
  have HST := Lib.hid hst
  clear hst
  refine callsIn_of_wp_marks Tryz.func154 rfl trivial ?_ rfl
  simp only [Tryz.ntmps154, List.size_toArray, List.length_cons, List.length_nil, Nat.reduceAdd, Nat.reduceSub, Array.replicate_succ, Array.replicate_zero, List.push_toArray, List.append_toArray, List.nil_append, List.cons_append]
  gi_wp2
  have k0 := Blk.new w 52 #[.slice none 0 0]
  have hb2 : Below w.heap.size w (w.alloc (.cells #[.slice none 0 0] 52)) := bAlloc (Below.refl _ _) _
  have hz2 : (w.alloc (.cells #[.slice none 0 0] 52)).heap.size = w.heap.size + 1 := by simp
  obtain ⟨W2, hW2⟩ : ∃ W2, w.alloc (.cells #[.slice none 0 0] 52) = W2 := ⟨_, rfl⟩
  rw [hW2] at k0 hb2 hz2 ⊢
  clear hW2
  refine wpIn_rangeFunc_ownH rfl (by decide) (gf := gf) (lb := lb) rfl trivial hent
    (HST.out W2 hb2) KeepsWalks.trans (fun W l o o' _ h _ hw => KeepsWalks.putObj o' h hw) (Below.refl _ _) (fun _ => rfl)
    (fun pre W => (∃ A1 c1, Blk W w.heap.size 52 #[.slice A1 pre.length c1] ∧ OwnL W (w.heap.size + 1) 62 9 (.slice A1 pre.length c1) Ev.cells (pre.map (·.2))) ∧ Below w.heap.size w W)
    (fun _ _ _ => False)
    (OwnFrom.and (fun s A B row hs hg hr => by obtain ⟨A1, c1, h1, h2⟩ := hs; exact ⟨A1, c1, lg_owned h1 hg hr, lg_rowOwned h2 hg hr⟩) (ownFrom_below (Nat.le_refl _) (by omega)))
    (fun _ _ _ _ _ h _ _ => h)
    ⟨⟨none, 0, k0, OwnL.nil⟩, hb2⟩
    (fun x a' W => ∃ Bx, w.heap.size < Bx ∧ Blk W Bx 62 x.2.cells.toArray ∧ a' = { tmps := #[.slice none 0 0, .func (.func gf) #[] lb, .pointer (some ⟨w.heap.size, 0, none⟩), undef, .slice none 0 0, .pointer (some ⟨Bx, 0, none⟩), .func (.func gf) #[] lb, x.2.val, undef, undef, undef, undef, undef], defers := [] })
    (fun x a' s A B row hs hg hr => by obtain ⟨Bx, h1, h2, h3⟩ := hs; exact ⟨Bx, h1, lg_owned h2 hg hr, h3⟩)
    ?assign ?body ?done ?stop
  case assign =>
    rintro l pre ⟨kx, x⟩ W K ⟨⟨A1, c1, h0, h1⟩, hB⟩ hK
    have hx : x.val = .agg #[.int .i64 x.frame, .int .i64 x.emitter, .int .i64 x.kind, .int .i64 x.ord, .int .i64 x.asset, .int .i64 x.gain, .int .i64 x.pan, .int .i64 x.prio, .int .i64 x.len] := rfl
    dsimp only at hK ⊢
    rw [hx]
    have hl1 := h0.lt
    gi_wp2
    exact hK _ _ ((KeepsOthers.alloc _ _).from _) (KeepsWalks.alloc _ _) ⟨⟨A1, c1, h0.alloc _, h1.alloc _⟩, hB.alloc hB.size _⟩ ⟨W.heap.size, hl1, Blk.new _ _ _, rfl⟩
  case body =>
    rintro l pre ⟨kx, x⟩ a' W hl - ⟨⟨A1, c1, h0, h1⟩, hB⟩ ⟨Bx, hBx, bX, rfl⟩ hlt
    have bX' : Blk W Bx 62 #[.int .i64 x.frame, .int .i64 x.emitter, .int .i64 x.kind, .int .i64 x.ord, .int .i64 x.asset, .int .i64 x.gain, .int .i64 x.pan, .int .i64 x.prio, .int .i64 x.len] := bX
    have x0 := bX'.cell 0; have x1 := bX'.cell 1; have x2 := bX'.cell 2; have x3 := bX'.cell 3; have x4 := bX'.cell 4; have x5 := bX'.cell 5; have x6 := bX'.cell 6; have x7 := bX'.cell 7; have x8 := bX'.cell 8
    have q0 := h0.cell 0
    have f0 := h0.frozen 0
    have l0 := h0.lt
    have lX := bX'.lt
    simp only [List.getElem?_toArray, List.getElem?_cons_zero, List.getElem?_cons_succ] at x0 x1 x2 x3 x4 x5 x6 x7 x8 q0
    obtain ⟨np, hnp⟩ : ∃ np, pre.length = np := ⟨_, rfl⟩
    have hnl : (pre.map (·.2)).length = np := by rw [List.length_map, hnp]
    have hlt2 : np < L.length := by omega
    rw [hnp] at h0 h1 q0
    have HNP := Lib.hid hnp
    have HNL := Lib.hid hnl
    have H0 := Lib.hid h0
    have H1 := Lib.hid h1
    have HB := Lib.hid hB
    have hw0 : w.heap.size < W.heap.size := l0
    have hxv : x.val = .agg #[.int .i64 x.frame, .int .i64 x.emitter, .int .i64 x.kind, .int .i64 x.ord, .int .i64 x.asset, .int .i64 x.gain, .int .i64 x.pan, .int .i64 x.prio, .int .i64 x.len] := rfl
    dsimp only
    clear h0 h1 hB bX bX' hnp hnl hlt
    gi_wp2_with (first
      | (refine wpListIn_app_ev rfl (.tmp 8) (.tmp 10) rfl (w.heap.size + 1) (.slice A1 np c1) (pre.map (·.2)) [x] (H1.out.alloc _) rfl (W.heap.size + 1) (some ⟨W.heap.size, 0, none⟩) 1 1 rfl rfl (lg_rd1 W x) (by rw [HNL.out]; simp; omega) (by simp; omega) ?_
         intro A7 c7 n7 w7 hn7 ho7 hg7
         have k7 : Blk w7 w.heap.size 52 #[.slice A1 np c1] := (H0.out.alloc _).grown hg7 (lg_ne_low H1.out (Nat.lt_succ_self _))
         have q7 := k7.cell 0
         have p7 := k7.frozen 0
         have ql7 := k7.lt
         simp only [List.getElem?_toArray, List.getElem?_cons_zero] at q7
         have HO7 := Lib.hid ho7
         have HG7 := Lib.hid hg7
         have K7 := Lib.hid k7
         clear ho7 hg7 k7))
    have hKO := ((KeepsOthers.alloc W (.cells #[.int .i64 x.frame, .int .i64 x.emitter, .int .i64 x.kind, .int .i64 x.ord, .int .i64 x.asset, .int .i64 x.gain, .int .i64 x.pan, .int .i64 x.prio, .int .i64 x.len] 62)).trans (KeepsOthers.of_grownBy HG7.out (fun j o ej hj => by
      obtain ⟨-, cur, fz, h2⟩ := lg_isRow (H1.out.alloc _) ej
      rw [h2] at hj; cases hj; rfl))).trans (KeepsOthers.setCell w7 ⟨w.heap.size, 0, none⟩ (.slice A7 n7 c7))
    have hlen7 : n7 = (pre ++ [(kx, x)]).length := by rw [hn7.out, HNL.out, List.length_append, HNP.out]; rfl
    refine ⟨hKO.from _, hKO.walks, ⟨A7, c7, ?_, ?_⟩, ?_⟩
    · rw [← hlen7]
      exact K7.out.set 0 (.slice A7 n7 c7)
    · rw [← hlen7, List.map_append]
      exact HO7.out.farG (lg_ne_low HO7.out (Nat.lt_succ_self _)) 0 _
    · exact ((bAlloc HB.out _).grown HG7.out (by simp; omega) (fun k e => by have := (lg_isRow H1.out e).1; omega)).setCell (p := ⟨w.heap.size, 0, none⟩) (Nat.le_refl _) _
  case done =>
    rintro D ys W hD hS ⟨⟨A1, c1, h0, h1⟩, hB⟩ hK
    have q0 := h0.cell 0
    have ql := h0.lt
    simp only [List.getElem?_toArray, List.getElem?_cons_zero] at q0
    have H1 := Lib.hid h1
    have HB := Lib.hid hB
    have HS := Lib.hid hS
    clear h1 h0 hB hS
    gi_wp2
    refine ⟨by simp, .inl ⟨_, _, rfl, run_takeDeferred hK, ?_⟩⟩
    refine ⟨.slice A1 ys.length c1, ?_, ⟨A1, c1, ys, rfl, HS.out, ?_, HB.out.trans (belowK_b (w := w) (Nat.le_refl _) W D _ _ (by omega) hK rfl rfl)⟩⟩
    · simp [results, Tryz.results154, go_sem]
    · exact (H1.out.kept (grownBy_putObj' _ D (.deferred none)) (by
        cases hv : (Value.slice A1 ys.length c1).ownBlock with
        | none => exact .inl rfl
        | some g =>
          refine .inr fun e => ?_
          obtain ⟨-, cur, fz, h2⟩ := lg_isRow H1.out hv
          cases e
          rw [hK] at h2; cases h2)).more (Nat.le_succ _)
  case stop =>
    rintro D c pre W hD - h - 
    exact h.elim
end Go.Proofs.YtibeihcpehikoaaGreat
