/-
  The least lateness that so many of a hundred have: a range over the meter's own iterator.
-/
import Derived.Test.YtnepjdpifbjiiaaDoorMeterNote
import Derived.RangeFuncNested
import Derived.RangeFuncBound
import Derived.RangeFuncCalls
import Derived.RangeFuncLeaves
import Derived.Shelf.Abstract
import Derived.Shelf.RegionOpen
import Derived.OwnWalkIn
import Derived.TacticsInMore
import Derived.LoopNIn
import Derived.LoopIn
import Derived.Deep.MidRow
namespace Go.Proofs.YtnepjdpifbjiiaaDoor
open Go.RowKit Go.Shelf
attribute [local go_sem] Oper.semAt_some
set_option maxRecDepth 100000

/-- A load whose run is known, inside a fence. -/
theorem wpListIn_load_run {F : Fence} {n : Nat} {P : Program} {w : World} {ops : Array Oper} {rest : List Oper} {o : Oper} {a : Act} {Q : Exit → Act → World → Prop} (hg : o.guard = none) (ty : TypeId) (x : Operand) (hop : o.op = .load ty x) (v : Value)
    (hrun : (Instr.loadAt ty (a.eval x)).run P w = .ok v w) (h : wpListIn F n P ops Q rest (a.put o.dst v) w) : wpListIn F n P ops Q (o :: rest) a w := by
  refine wpListIn_plain hg fun K hK' => ?_
  unfold Oper.wpIn
  refine ⟨?_, ?_⟩
  · simp [Oper.about, hop]
  · rw [Oper.semAt_plain F _ _ (by rw [hop]; intro c hc'; cases hc')]
    simp [execOp, hop, hrun, Result.andThen]
    exact hK' _ _ h
theorem index_arr (cs : Array Value) (k : Nat) (v : Value) (hk : k < 64) (hv : cs[k]? = some v) (w : World) : (Instr.index 49 (.agg cs) (.int .i64 (k : Int))).run Tryd.prog w = .ok v w := by
  have h2 : (0 : Int) ≤ k := by omega
  have h3 : ¬ 64 ≤ k := by omega
  simp [Instr.index, run_underlying Tryd.underlying49, part, go_sem, h2, hv, h3]
theorem rowOf_snoc {α : Type} (n : Nat) (f : Nat → α) : rowOf (n + 1) f = rowOf n f ++ [f n] := by simp [rowOf, List.range_succ]
def psum (f : Nat → Int) : Nat → Int
  | 0 => 0
  | n + 1 => psum f n + f (10 + n)
theorem psum_bd (f : Nat → Int) (B : Int) (h : Sm f B) : ∀ n : Nat, 0 ≤ psum f n ∧ psum f n ≤ B * n
  | 0 => by simp [psum]
  | n + 1 => by
    have ih := psum_bd f B h n
    have := h (10 + n) (by omega)
    rw [psum]
    have e : B * ((n + 1 : Nat) : Int) = B * n + B := by rw [Int.natCast_add, Int.mul_add]; simp
    omega
abbrev Lt64 := { x : Nat × Int // 0 ≤ x.2 ∧ x.2 ≤ 100000000 }
abbrev encL (x : Lt64) : Array Value := #[.int .i64 (x.1.1 : Int), .int .i64 x.1.2]
theorem pair_ok (f : Nat → Int) (h : Sm f 1000000) (k : Nat) (hk : k < 64) : 0 ≤ psum f (k + 1) ∧ psum f (k + 1) ≤ 100000000 := by
  have := psum_bd f _ h (k + 1)
  omega
def FL (f : Nat → Int) (h : Sm f 1000000) (k : Nat) : Lt64 := if hk : k < 64 then ⟨(k, psum f (k + 1)), pair_ok f h k hk⟩ else ⟨(0, 0), by decide⟩
theorem FL_at (f : Nat → Int) (h : Sm f 1000000) (k : Nat) (hk : k < 64) : FL f h k = ⟨(k, psum f (k + 1)), pair_ok f h k hk⟩ := dif_pos hk

set_option maxHeartbeats 1000000 in
theorem upto_in (F : Fence) (n : Nat) (hF : F.fn 31) (hro : F.round = none) (g : Nat) (w : World) :
    CallsIn F n Tryd.prog 31 #[.pointer (some ⟨g, 0, none⟩)] w fun e w' => e = .returned (.func (.func 35) #[] #[.pointer (some ⟨w.heap.size, 0, none⟩)]) ∧ w' = w.alloc (.cells #[.pointer (some ⟨g, 0, none⟩)] 70) := by
  refine callsIn_of_wp Tryd.func31 rfl hF ?_ hro
  simp only [Tryd.ntmps31, List.size_toArray, List.length_cons, List.length_nil, Nat.reduceAdd, Nat.reduceSub, Array.replicate_succ, Array.replicate_zero, List.push_toArray, List.append_toArray, List.nil_append, List.cons_append]
  gi_wp2
  go_ret
  exact ⟨rfl, rfl⟩

set_option maxHeartbeats 2000000 in
theorem uptoC_in (F : Fence) (n : Nat) (hF : F.fn 35) (hro : F.round = none) (hn : 1 ≤ n) (l Bs n₀ g : Nat) (f : Nat → Int) (hs : Sm f 1000000) (J Jx : List Lt64 → World → Prop)
    (hY : ∀ pre x W, J pre W → pre.length < 64 → YieldAt F (n - 1) Tryd.prog l (encL x) W fun e W' =>
      (e = .returned (.bool true) ∧ J (pre ++ [x]) W' ∧ Below n₀ W W') ∨ (e = .returned (.bool false) ∧ Jx (pre ++ [x]) W'))
    (W : World) (hBs : W.cell? ⟨Bs, 0, none⟩ = some (.pointer (some ⟨g, 0, none⟩))) (hI : IBlk W g 53 74 f) (h0 : J [] W) :
    CallsIn F n Tryd.prog 35 #[.func (.yield l) #[] #[], .pointer (some ⟨Bs, 0, none⟩)] W fun e W' => (∃ v, e = .returned v) ∧
      ((∃ ys, ys = rowOf 64 (FL f hs) ∧ J ys W') ∨ (∃ pre, (∃ k, k ≤ 64 ∧ pre = rowOf k (FL f hs)) ∧ Jx pre W')) := by
  have hld : (Instr.loadAt 49 (.pointer (some ⟨g, 10, none⟩))).run Tryd.prog W = .ok (.agg (rowOf 64 fun j => Value.int .i64 (f (10 + j))).toArray) W := by
    refine run_loadAt_mid W g 10 49 _ _ (fun j v hv => ?_) Tryd.underlying49 rfl (by kernel_rfl)
    have hj : j < 64 := by have := (List.getElem?_eq_some_iff.1 hv).1; rwa [rowOf_length] at this
    rw [hI.cell (10 + j) (by omega), ← hv]
    simp [rowOf, hj]
  have HS := Lib.hid hs
  have HI := Lib.hid hI
  clear hI
  refine callsIn_of_wp Tryd.func35 rfl hF ?_ hro
  simp only [Tryd.ntmps35, List.size_toArray, List.length_cons, List.length_nil, Nat.reduceAdd, Nat.reduceSub, Array.replicate_succ, Array.replicate_zero, List.push_toArray, List.append_toArray, List.nil_append, List.cons_append]
  gi_wp2_with (refine wpListIn_load_run rfl 49 (.tmp 8) rfl _ hld ?_)
  gi_loopw [3, 10] (fun s i wr => ∃ k : Nat, k ≤ 64 ∧ i = .int .i64 k ∧ s = .int .i64 (psum f k) ∧ J (rowOf k (FL f hs)) wr) (fun _ i _ => 64 - (intOf i).toNat)
  case atStart => exact ⟨0, Nat.zero_le _, rfl, rfl, h0⟩
  case round =>
    obtain ⟨k, hk, rfl, rfl, hJs⟩ := hrel
    by_cases hlt : k < 64
    · have hx := FL_at f hs k hlt
      obtain ⟨fn, tmps, assign, body, hy, hR⟩ := hY _ (FL f hs k) wr hJs (by rw [rowOf_length]; exact hlt)
      rw [hx] at hy
      dsimp only [encL] at hy
      have hix := fun w => index_arr (rowOf 64 fun j => Value.int .i64 (f (10 + j))).toArray k (.int .i64 (f (10 + k))) hlt (by simp [rowOf, hlt]) w
      have hp : psum f k + f (10 + k) = psum f (k + 1) := rfl
      have hb := pair_ok f hs k hlt
      have hsn := rowOf_snoc k (FL f hs)
      have HSN := Lib.hid hsn
      have HX := Lib.hid hx
      clear hsn hx hJs
      have hbk := psum_bd f _ hs k
      have hfk := hs (10 + k) (by omega)
      gi_wp2
      refine hR.mono ?_
      rintro e W3 (⟨rfl, hJ3, hk3⟩ | ⟨rfl, hJx3⟩)
      · gi_wp2
        go_roundw
        case rel => exact ⟨k + 1, by omega, by go_num, rfl, by rw [HSN.out]; exact hJ3⟩
        case measure => simp [intOf]; omega
      · gi_wp2
        refine bodyPost_ret (results_none rfl _ _ _) rfl ?_
        exact ⟨⟨_, rfl⟩, .inr ⟨_, ⟨k + 1, by omega, HSN.out.symm⟩, hJx3⟩⟩
    · obtain rfl : k = 64 := by omega
      gi_wp2
      go_end0
      exact ⟨⟨_, rfl⟩, .inl ⟨_, rfl, hJs⟩⟩

theorem upto_stops (n : Nat) (hn : 1 ≤ n) (Bs n₀ g : Nat) (f : Nat → Int) (hs : Sm f 1000000) (w : World) (hBs : w.cell? ⟨Bs, 0, none⟩ = some (.pointer (some ⟨g, 0, none⟩))) (hlt : Bs < w.heap.size) (hI : IBlk w g 53 74 f) :
    SeqStopsK Fence.wide n Tryd.prog 35 #[.pointer (some ⟨Bs, 0, none⟩)] encL (Below n₀) (fun xs => xs = rowOf 64 (FL f hs)) (fun pre => ∃ k, k ≤ 64 ∧ pre = rowOf k (FL f hs)) 64 w := fun l J Jx W hW _ _ hY h0 =>
  uptoC_in Fence.wide n trivial rfl hn l Bs n₀ g f hs J Jx hY W ((hW.cell (p := ⟨Bs, 0, none⟩) hlt).trans hBs) (hI.on hW) h0
def clampP (p : Int) : Int := max 0 (min p 100)
def shareF (f : Nat → Int) (p : Int) : Int := if f 6 = 0 then 0 else (((List.range 64).find? fun n => decide (clampP p * f 6 ≤ psum f (n + 1) * 100)).map fun n => (n : Int)).getD 63

theorem find_at (q : Nat → Bool) (k : Nat) (hk : k < 64) (h1 : ∀ j, j < k → q j = false) (h2 : q k = true) : (List.range 64).find? q = some k := by
  rw [List.find?_eq_some_iff_append]
  refine ⟨h2, (List.range 64).take k, (List.range 64).drop (k + 1), ?_, fun a ha => ?_⟩
  · have h := List.drop_eq_getElem_cons (l := List.range 64) (i := k) (by simpa using hk)
    rw [List.getElem_range] at h
    rw [← h, List.take_append_drop]
  · obtain ⟨i, hi, rfl⟩ := List.mem_iff_getElem.1 ha
    rw [List.length_take, List.length_range] at hi
    rw [List.getElem_take, List.getElem_range, h1 i (by omega)]; rfl
theorem share_none (f : Nat → Int) (hs : Sm f 1000000) (p cp : Int) (hcp : clampP p = cp) (hd : (f 6 == 0) = false) (h : ∀ y ∈ rowOf 64 (FL f hs), y.1.2 * 100 < cp * f 6) : shareF f p = 63 := by
  unfold shareF
  rw [if_neg (by simpa using hd), hcp]
  have : (List.range 64).find? (fun n => decide (cp * f 6 ≤ psum f (n + 1) * 100)) = none := by
    rw [List.find?_eq_none]
    intro j hj
    rw [List.mem_range] at hj
    have := h (FL f hs j) (by unfold rowOf; exact List.mem_map.2 ⟨j, List.mem_range.2 hj, rfl⟩)
    rw [FL_at f hs j hj] at this
    simp only [decide_eq_true_eq]
    dsimp only at this
    omega
  rw [this]; rfl
theorem share_some (f : Nat → Int) (hs : Sm f 1000000) (p cp : Int) (hcp : clampP p = cp) (hd : (f 6 == 0) = false) (k : Nat) (hk : k ≤ 64) (pre' : List Lt64) (x : Lt64) (he : rowOf k (FL f hs) = pre' ++ [x])
    (h : ∀ y ∈ pre', y.1.2 * 100 < cp * f 6) (hx : cp * f 6 ≤ x.1.2 * 100) : shareF f p = x.1.1 := by
  have hl := congrArg List.length he
  rw [rowOf_length, List.length_append, List.length_singleton] at hl
  obtain ⟨m, rfl⟩ : ∃ m, k = m + 1 := ⟨k - 1, by omega⟩
  rw [rowOf_snoc] at he
  obtain ⟨e1, e2⟩ := List.append_inj' he rfl
  simp only [List.cons.injEq, and_true] at e2
  subst e1
  subst e2
  rw [FL_at f hs m (by omega)] at hx ⊢
  dsimp only at hx ⊢
  unfold shareF
  rw [if_neg (by simpa using hd), hcp, find_at (fun n => decide (cp * f 6 ≤ psum f (n + 1) * 100)) m (by omega) (fun j hj => ?_) (decide_eq_true hx)]
  · rfl
  · have := h (FL f hs j) (by unfold rowOf; exact List.mem_map.2 ⟨j, List.mem_range.2 hj, rfl⟩)
    rw [FL_at f hs j (by omega)] at this
    dsimp only at this
    exact decide_eq_false (by omega)
set_option maxHeartbeats 1000000 in
theorem share_zero (g : Nat) (f : Nat → Int) (p : Int) (w : World) (hf : IBlk w g 53 74 f) (h6 : f 6 = 0) :
    Calls Tryd.prog 18 #[.pointer (some ⟨g, 0, none⟩), .int .i64 p] w fun e w' => e = .returned (.int .i64 (shareF f p)) ∧ Below w.heap.size w w' := by
  have c6 := hf.cell 6 (by decide)
  have hlt := hf.lt
  rw [h6] at c6
  have hr : shareF f p = 0 := by unfold shareF; rw [if_pos h6]
  rw [hr]
  clear hf h6 hr
  go_enter Tryd.func18, Tryd.ntmps18
  go_wp2
  refine bodyPost_ret (v := .int .i64 0) (by simp [results, Tryd.results18, go_sem]) rfl ⟨rfl, (by repeat (first | exact Below.refl _ _ | (with_reducible assumption) | apply bAlloc | apply below_drewN | apply Below.drew))⟩

set_option maxHeartbeats 2000000 in
theorem share_in (n : Nat) (hn : 3 ≤ n) (g : Nat) (f : Nat → Int) (p : Int) (w : World) (hf : IBlk w g 53 74 f) (hs : Sm f 1000000) (h6 : f 6 ≠ 0) :
    CallsIn Fence.wide n Tryd.prog 18 #[.pointer (some ⟨g, 0, none⟩), .int .i64 p] w fun e w' => e = .returned (.int .i64 (shareF f p)) ∧ Below w.heap.size w w' := by
  have h1 : 1 ≤ n := by omega
  have c6 := hf.cell 6 (by decide)
  have b6 := hs 6 (by decide)
  have hlt := hf.lt
  have hd : (f 6 == 0) = false := by simpa using h6
  have HF := Lib.hid hf
  clear hf h6
  refine callsIn_of_wp_marks Tryd.func18 rfl trivial ?_ rfl
  simp only [Tryd.ntmps18, List.size_toArray, List.length_cons, List.length_nil, Nat.reduceAdd, Nat.reduceSub, Array.replicate_succ, Array.replicate_zero, List.push_toArray, List.append_toArray, List.nil_append, List.cons_append]
  have hcl : max 0 (min p 100) = clampP p := rfl
  have hcb : 0 ≤ clampP p ∧ clampP p ≤ 100 := by unfold clampP; omega
  obtain ⟨cp, hcp⟩ : ∃ cp, clampP p = cp := ⟨_, rfl⟩
  have hmw : ∀ W, Calls Tryd.prog 30 #[.int .i64 p, .int .i64 0, .int .i64 100] W fun e w' => e = .returned (.int .i64 cp) ∧ W = w' := fun W => by rw [← hcp, ← hcl]; exact mwithin_any _ _ _ _
  have HMW := Lib.hid hmw
  rw [hcp] at hcb
  have HCP := Lib.hid hcp
  have hmul : 0 ≤ cp * f 6 ∧ cp * f 6 ≤ 100000000 := ⟨Int.mul_nonneg hcb.1 b6.1, by
    have h1 := Int.mul_le_mul hcb.2 b6.2 b6.1 (by decide : (0 : Int) ≤ 100)
    omega⟩
  have hwr : IntKind.i64.wrap (cp * f 6) = cp * f 6 := by rw [IntKind.wrap_i64]; omega
  clear hmw hcl hcp
  refine wpIn_wide.2 ?_
  go_wp2
  go_region_held3 (fun w' => w'.cell? ⟨g, 6, none⟩ = some (.int .i64 (f 6))) (go_keep) (first | (go_at_call 30; refine (HMW.out _).mono ?_; rintro e w' ⟨rfl, rfl⟩))
  all_goals
    obtain ⟨W2, hW2⟩ : ∃ W2, W2 = ((w.alloc (.cells #[.int .i64 0] 3)).alloc (.cells #[.int .i64 (cp * f 6)] 3)).drew := ⟨_, rfl⟩
    rw [← hW2]
    have hr0 : Blk W2 w.heap.size 3 #[.int .i64 0] := by rw [hW2]; exact ((Blk.new w _ _).alloc _).drew
    have hr1 : Blk W2 (w.heap.size + 1) 3 #[.int .i64 (cp * f 6)] := by
      rw [hW2]
      have := (Blk.new (w.alloc (.cells #[.int .i64 0] 3)) 3 #[.int .i64 (cp * f 6)]).drew
      simpa using this
    have hfI : IBlk W2 g 53 74 f := by rw [hW2]; exact ((HF.out.alloc _).alloc _).drew
    have hbW : Below w.heap.size w W2 := by rw [hW2]; exact (bAlloc (bAlloc (Below.refl _ _) _) _).drew
    have hsz : W2.heap.size = w.heap.size + 2 := by rw [hW2]; simp
    clear hW2
    go_wp2_with (go_at_call 31; refine (callsIn_wide.1 (upto_in Fence.wide 3 trivial rfl g _)).mono ?_; rintro e w' ⟨rfl, rfl⟩)
    have hbx : Blk (W2.alloc (.cells #[.pointer (some ⟨g, 0, none⟩)] 70)) (w.heap.size + 2) 70 #[.pointer (some ⟨g, 0, none⟩)] := by rw [← hsz]; exact Blk.new _ _ _
    have hB3 : Below w.heap.size w (W2.alloc (.cells #[.pointer (some ⟨g, 0, none⟩)] 70)) := bAlloc hbW _
    have q0 := hr0.alloc (.cells #[.pointer (some ⟨g, 0, none⟩)] 70)
    have q1 := hr1.alloc (.cells #[.pointer (some ⟨g, 0, none⟩)] 70)
    have r0 := q0.cell 0
    have r0f := q0.frozen 0
    have r1 := q1.cell 0
    simp only [List.getElem?_toArray, List.getElem?_cons_zero] at r0 r1
    have hnw : w.heap.size ≤ (W2.alloc (.cells #[.pointer (some ⟨g, 0, none⟩)] 70)).heap.size := by simp; omega
    refine (wpIn_wide (n := n)).1 ?_
    refine wpIn_rangeFunc_ownF rfl h1 (gf := 35) (lb := #[.pointer (some ⟨w.heap.size + 2, 0, none⟩)]) rfl trivial (enters_of Tryd.func35 (by kernel_rfl) rfl)
      (upto_stops (n - 1) (by omega) (w.heap.size + 2) w.heap.size g f hs _ (by have := hbx.cell 0; simpa using this) hbx.lt (hfI.alloc _)) belowK_t (belowK_b hnw) (Below.refl _ _) (fun _ => rfl)
      (fun pre W => ((∀ y ∈ pre, y.1.2 * 100 < cp * f 6) ∧ W.cell? ⟨w.heap.size + 1, 0, none⟩ = some (.int .i64 (cp * f 6)) ∧ W.cell? ⟨w.heap.size, 0, none⟩ = some (.int .i64 0) ∧ W.frozen? ⟨w.heap.size, 0, none⟩ = false) ∧ Below w.heap.size w W)
      (fun c pre W => (c = .ret ∧ ∃ pre' x, pre = pre' ++ [x] ∧ (∀ y ∈ pre', y.1.2 * 100 < cp * f 6) ∧ cp * f 6 ≤ x.1.2 * 100 ∧ W.cell? ⟨w.heap.size, 0, none⟩ = some (.int .i64 (x.1.1 : Int))) ∧ Below w.heap.size w W)
      (OwnFrom.and (Own.from (fun s A B row hs hg hr => ⟨hs.1, cell_kept hs.2.1 hg hr, cell_kept hs.2.2.1 hg hr, (frozen_kept hs.2.2.1 hg hr).trans hs.2.2.2⟩) _) (ownFrom_below (Nat.le_refl _) hnw))
      (fun c => OwnFrom.and (Own.from (fun s A B row hs hg hr => by obtain ⟨e1, p', x, e2, e3, e4, e5⟩ := hs; exact ⟨e1, p', x, e2, e3, e4, cell_kept e5 hg hr⟩) _) (ownFrom_below (Nat.le_refl _) hnw))
      ⟨⟨by simp, r1, r0, r0f⟩, hB3⟩
      (fun x => { tmps := #[.pointer (some ⟨g, 0, none⟩), .int .i64 p, undef, undef, .pointer (some ⟨w.heap.size, 0, none⟩), .pointer (some ⟨w.heap.size + 1, 0, none⟩), .int .i64 (x.1.1 : Int), .int .i64 x.1.2, .pointer (some ⟨g, 0, none⟩), .bool false, .bool false, .pointer (some ⟨g, 0, none⟩), .pointer (some ⟨g, 0, none⟩), .pointer (some ⟨g, 0, none⟩), .pointer (some ⟨g, 5, none⟩), .pointer (some ⟨g, 6, none⟩), .int .i64 (f 6), .bool false, .bool false, .int .i64 p, .int .i64 cp, .pointer (some ⟨g, 0, none⟩), .pointer (some ⟨g, 0, none⟩), .pointer (some ⟨g, 0, none⟩), .pointer (some ⟨g, 5, none⟩), .pointer (some ⟨g, 6, none⟩), .int .i64 (f 6), .int .i64 (cp * f 6), .pointer (some ⟨g, 0, none⟩), .pointer (some ⟨g, 0, none⟩), .pointer (some ⟨g, 0, none⟩), .func (.func 35) #[] #[.pointer (some ⟨w.heap.size + 2, 0, none⟩)], .int .i64 (x.1.1 : Int), .int .i64 x.1.2, undef, undef, undef, undef, undef], defers := [] }) ?assign ?body ?done ?stop
    case assign =>
      intro l x W K hK
      gi_wp2
      exact hK
    case body =>
      rintro l pre x W ⟨⟨hp, hcw, hcr, hfr⟩, hB⟩ _
      obtain ⟨⟨x1, x2⟩, hx1, hx2⟩ := x
      dsimp only at hx1 hx2
      gi_wp2
      · have hx : cp * f 6 ≤ x2 * 100 := by assumption
        exact ⟨KeepsOthers.setCell _ _ _, ⟨rfl, pre, ⟨(x1, x2), hx1, hx2⟩, rfl, hp, hx, World.cell?_setCell_same' _ _ _ (by rw [hcr]; rfl)⟩, hB.setCell (p := ⟨w.heap.size, 0, none⟩) (Nat.le_refl _) _⟩
      · have hx : x2 * 100 < cp * f 6 := by assumption
        refine ⟨KeepsOthers.refl _, Below.refl _ _, ⟨fun y hy => ?_, hcw, hcr, hfr⟩, hB⟩
        rw [List.mem_append, List.mem_singleton] at hy
        rcases hy with hy | rfl
        · exact hp y hy
        · exact hx
    case done =>
      rintro D ys W hD rfl ⟨⟨hne, _, hcr, hfr⟩, hB⟩ hK
      go_wp2
      have hK' := (KeepsOthers.setCell W ⟨w.heap.size, 0, none⟩ (.int .i64 63)).same D _ hK rfl
      refine ⟨by simp, .inl ⟨_, _, rfl, run_takeDeferred hK', ?_⟩⟩
      have hc5 := cell_kept (World.cell?_setCell_same' W ⟨w.heap.size, 0, none⟩ (.int .i64 63) (by rw [hcr]; rfl)) (grownBy_putObj' _ D (.deferred none)) (fun r e => by cases e; exact ⟨_, hK', rfl⟩)
      refine ⟨.int .i64 63, ?_, ret_int (share_none f hs p cp HCP.out hd hne).symm, (hB.setCell (p := ⟨w.heap.size, 0, none⟩) (Nat.le_refl _) _).trans (belowK_b (w := w) (Nat.le_refl _) _ D _ _ (by simp at hD; omega) hK' rfl rfl)⟩
      simp [results, Tryd.results18, go_sem, hc5]
    case stop =>
      rintro D c pre W hD ⟨k, hk, rfl⟩ ⟨⟨rfl, pre', x, he, hp, hx, hcr⟩, hB⟩ hK
      gi_wp2
      refine ⟨by simp, .inl ⟨_, _, rfl, run_takeDeferred hK, ?_⟩⟩
      have hc5 := cell_kept hcr (grownBy_putObj' _ D (.deferred none)) (fun r e => by cases e; exact ⟨_, hK, rfl⟩)
      refine ⟨.int .i64 x.1.1, ?_, ret_int (share_some f hs p cp HCP.out hd k hk pre' x he hp hx).symm, hB.trans (belowK_b (w := w) (Nat.le_refl _) W D _ _ (by simp at hD; omega) hK rfl rfl)⟩
      simp [results, Tryd.results18, go_sem, hc5]
theorem share_any (g : Nat) (f : Nat → Int) (p : Int) (w : World) (hf : IBlk w g 53 74 f) (hs : Sm f 1000000) :
    Calls Tryd.prog 18 #[.pointer (some ⟨g, 0, none⟩), .int .i64 p] w fun e w' => e = .returned (.int .i64 (shareF f p)) ∧ Below w.heap.size w w' := by
  by_cases h6 : f 6 = 0
  · exact share_zero g f p w hf h6
  · exact callsIn_wide.1 (share_in 3 (by decide) g f p w hf hs h6)
end Go.Proofs.YtnepjdpifbjiiaaDoor
