/-
  A map's laws inside a fence; maps.Values of a map of events.
-/
import Derived.Test.YteccmklacgpodaaMapK
import Derived.RangeFuncNested
import Derived.RangeFuncBound
import Derived.RangeFuncCalls
import Derived.RangeFuncLeaves
import Derived.RangeFuncMany
import Derived.Sort.MapsRangeIn
import Derived.Shelf.Abstract
import Derived.Shelf.RegionOpen
import Derived.OwnWalkIn
import Derived.TacticsInMore
import Derived.LoopNIn
import Derived.LoopIn
namespace Go.Proofs.Yteccmklacgpodaa
open Go.RowKit Go.Shelf
open Go.Maps (Keyed)
attribute [local go_sem] Oper.semAt_some
section
variable {κ ν : Type} {ke : κ → Value} {ve : ν → Value} {P : Program} {F : Fence} {n : Nat} (w : World) {ops : Array Oper} {rest : List Oper} {o : Oper} {a : Act} {Q : Exit → Act → World → Prop}
theorem wpListIn_rangeM (hg : o.guard = none) (m : Operand) (t : TypeId) (hop : o.op = Op.range t m) (k e : TypeId) (ht : P.underlying t = some (.map k e)) (b : Nat) (L : List (κ × ν)) (hm : a.eval m = .map (some b)) (h : MapIs ke ve P k w b L)
    (hK : ∀ w', MapGo ke ve P k w' b w.heap.size L L → w.grownBy w' none → w'.heap.size = w.heap.size + 1 → wpListIn F n P ops Q rest (a.put o.dst (.pointer (some ⟨w.heap.size, 0, none⟩))) w') : wpListIn F n P ops Q (o :: rest) a w := by
  refine wpListIn_plain hg fun K' hK' => ?_
  obtain ⟨w', hrun, r1, r2, r3⟩ := h.range ht
  unfold Oper.wpIn
  refine ⟨by simp [Oper.about, hop], ?_⟩
  rw [Oper.semAt_plain F _ _ (by rw [hop]; intro c hc'; cases hc')]
  simp [execOp, hop, hm, hrun, Result.andThen]
  exact hK' _ _ (hK w' r1 r2 r3)
theorem wpListIn_nextM (hg : o.guard = none) (it : Operand) (hop : o.op = Op.next it false) (k : TypeId) (b r : Nat) (L left : List (κ × ν)) (hit : a.eval it = .pointer (some ⟨r, 0, none⟩)) (h : MapGo ke ve P k w b r L left)
    (hDone : left = [] → wpListIn F n P ops Q rest (a.put o.dst (.tuple #[.bool false])) w)
    (hMore : ∀ (p : κ × ν) (left' : List (κ × ν)) (w' : World), left.Perm (p :: left') → MapGo ke ve P k w' b r L left' → w.grownBy w' (some r) → w'.heap.size = w.heap.size →
      (Instr.entry (.pointer (some ⟨r, 0, none⟩))).run P w' = .ok (.tuple #[ke p.1, ve p.2]) w' → wpListIn F n P ops Q rest (a.put o.dst (.tuple #[.bool true, ke p.1, ve p.2])) w') : wpListIn F n P ops Q (o :: rest) a w := by
  refine wpListIn_plain hg fun K' hK' => ?_
  unfold Oper.wpIn
  refine ⟨by simp [Oper.about, hop], ?_⟩
  rw [Oper.semAt_plain F _ _ (by rw [hop]; intro c hc'; cases hc')]
  rcases h.next o.type with ⟨h0, hrun⟩ | ⟨p, left', w', h1, hrun, h2, h3, h4, h5⟩
  · simp [execOp, hop, hit, hrun, Result.andThen]
    exact hK' _ _ (hDone h0)
  · simp [execOp, hop, hit, hrun, Result.andThen]
    exact hK' _ _ (hMore p left' w' h1 h2 h3 h4 h5)
end
section
variable {κ ν : Type} {ke : κ → Value} {ve : ν → Value} {P : Program} {k : TypeId} {w : World} {b r : Nat} {L left : List (κ × ν)}
theorem MapGo.of_walks (h : MapGo ke ve P k w b r L left) {w' : World} (hk : KeepsWalks w w') : MapGo ke ve P k w' b r L left := by
  obtain ⟨es, clock, s, q, c, hb, F, hn, hm, hr, rest⟩ := h
  exact ⟨es, clock, s, q, c, hk.same b _ hb rfl, F, hn, hm, hk.same r _ hr rfl, rest⟩
theorem MapGo.iter_walk (h : MapGo ke ve P k w b r L left) : ∃ o : Obj, w.heap[r]? = some o ∧ o.isWalk = true := by
  obtain ⟨_, _, _, _, _, _, _, _, _, hr, _⟩ := h
  exact ⟨_, hr, rfl⟩
theorem MapGo.left_eq (h : MapGo ke ve P k w b r L left) : w.rangeLeft b r = left.length := by
  obtain ⟨es, clock, s, q, c, hb, F, hn, hm, hr, _, _, _, hp⟩ := h
  simp only [World.rangeLeft, hb, hr]
  have := hp.length_eq
  simpa using this
end
set_option maxRecDepth 100000 in
set_option maxHeartbeats 2000000 in
/-- maps.Values' iterator, for every loop body: the entries come in some order. -/
theorem valsM_in (n : Nat) (hn : 1 ≤ n) (l Bm b : Nat) (L : List (Key4 × Ev)) (J Jx : List (Key4 × Ev) → World → Prop) (W : World) (hJ : AbidesFrom W.heap.size J)
    (hY : ∀ pre x W, J pre W → pre.length < L.length → YieldAt Fence.wide (n - 1) Try.prog l #[x.2.val] W fun e W' =>
      (e = .returned (.bool true) ∧ J (pre ++ [x]) W' ∧ KeepsWalks W W') ∨ (e = .returned (.bool false) ∧ Jx (pre ++ [x]) W'))
    (hm : W.cell? ⟨Bm, 0, none⟩ = some (.map (some b))) (hown : MapIs Key4.val Ev.val Try.prog 41 W b L) (h0 : J [] W) :
    CallsIn Fence.wide n Try.prog 40 #[.func (.yield l) #[] #[], .pointer (some ⟨Bm, 0, none⟩)] W fun e W' => (∃ v, e = .returned v) ∧
      ((∃ xs, xs.Perm L ∧ J xs W') ∨ (∃ pre, True ∧ Jx pre W')) := by
  have hlt0 := block_lt_of_cell hm
  refine callsIn_of_wp Try.func40 rfl trivial ?_ rfl
  simp only [Try.ntmps40, List.size_toArray, List.length_cons, List.length_nil, Nat.reduceAdd, Nat.reduceSub, Array.replicate_succ, Array.replicate_zero, List.push_toArray, List.append_toArray, List.nil_append, List.cons_append]
  gi_wp2_with (first
    | (gi_at_range; refine wpListIn_rangeM _ rfl _ 59 rfl 41 43 Try.underlying59 b L rfl hown ?_; intro w0 hrg0 hg0 hs0)
    | gi_in)
  try go_frame
  gi_loopw [4] (fun _ wr => ∃ (left ps : List (Key4 × Ev)), MapGo Key4.val Ev.val Try.prog 41 wr b W.heap.size L left ∧ (ps ++ left).Perm L ∧ J ps wr) (fun _ wr => wr.rangeLeft b W.heap.size)
  case atStart => exact ⟨_, [], hrg0, List.Perm.refl _, hJ [] W w0 none h0 hg0 (fun r e => by cases e)⟩
  case round =>
    obtain ⟨left, ps, hrg, hps, hJs⟩ := hrel
    clear hrg0 hg0 hs0
    gi_wp2_with (first
      | (gi_at_next; refine wpListIn_nextM _ rfl _ rfl 41 b W.heap.size L left rfl hrg ?_ ?_)
      | gi_in)
    · intro hnil
      gi_wp2
      go_end0
      exact ⟨⟨_, rfl⟩, .inl ⟨ps, by rw [hnil, List.append_nil] at hps; exact hps, hJs⟩⟩
    · intro kx e left2 w2 hp2 hrg2 hg2 hs2 hen
      have hJ2 : J ps w2 := hJ ps wr w2 (some W.heap.size) hJs hg2 (fun r e => by cases e; exact ⟨Nat.le_refl _, hrg.iter_walk⟩)
      have hlen : ps.length < L.length := by
        have := hps.length_eq
        have h2 := hp2.length_eq
        rw [List.length_append] at this
        rw [List.length_cons] at h2
        omega
      have hps2 : ((ps ++ [(kx, e)]) ++ left2).Perm L := by
        rw [List.append_assoc]
        exact ((hp2.symm.append_left ps)).trans hps
      have hmeas := hp2.length_eq
      have hJ3 := hJ _ w2 (w2.alloc (.cells #[.int .i64 e.frame, .int .i64 e.emitter, .int .i64 e.kind, .int .i64 e.ord, .int .i64 e.asset, .int .i64 e.gain, .int .i64 e.pan, .int .i64 e.prio, .int .i64 e.len] 43)) none hJ2 (World.grownBy_alloc _ _ none) (fun r e => by cases e)
      have hrg3 : MapGo Key4.val Ev.val Try.prog 41 (w2.alloc (.cells #[.int .i64 e.frame, .int .i64 e.emitter, .int .i64 e.kind, .int .i64 e.ord, .int .i64 e.asset, .int .i64 e.gain, .int .i64 e.pan, .int .i64 e.prio, .int .i64 e.len] 43)) b W.heap.size L left2 := hrg2.of_walks (KeepsWalks.alloc _ _)
      obtain ⟨fn, tmps, assign, body, hy, hR⟩ := hY ps (kx, e) _ hJ3 hlen
      dsimp only [Ev.val] at hy hen
      dsimp only [Ev.val]
      have HRG := Lib.hid hrg3
      have HMS := Lib.hid hmeas
      have HLE := Lib.hid hrg.left_eq
      have HPS := Lib.hid hps2
      clear hs2 hrg2 hrg3 hrg hps hps2 hp2 hJ2 hJ3 hJs hmeas
      gi_wp2
      refine hR.mono ?_
      rintro e W3 (⟨rfl, hJ4, hk4⟩ | ⟨rfl, hJx4⟩)
      · gi_wp2
        have hrg4 := HRG.out.of_walks hk4
        go_roundw
        case rel => exact ⟨left2, _, hrg4, HPS.out, hJ4⟩
        case measure => rw [hrg4.left_eq, HLE.out, HMS.out]; simp
      · gi_wp2
        refine bodyPost_ret (results_none rfl _ _ _) rfl ?_
        exact ⟨⟨_, rfl⟩, .inr ⟨_, trivial, hJx4⟩⟩
theorem valsM_stops (n : Nat) (hn : 1 ≤ n) (Bm b : Nat) (L : List (Key4 × Ev)) (w : World) (hm : w.cell? ⟨Bm, 0, none⟩ = some (.map (some b))) (hown : MapIs Key4.val Ev.val Try.prog 41 w b L) :
    SeqStopsK Fence.wide n Try.prog 40 #[.pointer (some ⟨Bm, 0, none⟩)] (fun x : Key4 × Ev => #[x.2.val]) KeepsWalks (fun xs => xs.Perm L) (fun _ => True) L.length w := fun l J Jx W hW hJ _ hY h0 =>
  valsM_in n hn l Bm b L J Jx W hJ hY ((hW.cell (p := ⟨Bm, 0, none⟩) (block_lt_of_cell hm)).trans hm) (hown.same (hW.block b hown.lt)) h0
end Go.Proofs.Yteccmklacgpodaa
