/-
  Rows of events compared: the document's Same.
-/
import Derived.Test.YteccmklacgpodaaEventPlain
import Derived.Test.YteccmklacgpodaaOpenInt
import Derived.Test.YteccmklacgpodaaMix
import Derived.Test.YteccmklacgpodaaEv
import Derived.Outline
import Derived.Deep.Cut
namespace Go.Proofs.Yteccmklacgpodaa
open Go.RowKit
set_option maxRecDepth 100000
set_option linter.unusedSimpArgs false
def evI (e : Ev) : List Int := [e.frame, e.emitter, e.kind, e.ord, e.asset, e.gain, e.pan, e.prio, e.len]
def k9 : List IntKind := [.i64, .i64, .i64, .i64, .i64, .i64, .i64, .i64, .i64]
theorem ev_ivals (e : Ev) : e.cells = ivals k9 (evI e) := rfl
theorem evI_inj {a b : Ev} (h : evI a = evI b) : a = b := by
  cases a; cases b
  simp only [evI, List.cons.injEq, and_true] at h
  simp [h]
instance : DecidableEq Ev := fun a b => if h : evI a = evI b then isTrue (evI_inj h) else isFalse (fun e => h (by rw [e]))
theorem ev_kinds : kindsOf Try.prog 100 43 = some k9 := by kernel_rfl
theorem evI_dec (a b : Ev) : decide (evI a = evI b) = decide (a = b) := by
  by_cases h : a = b
  · subst h; simp
  · rw [decide_eq_false h, decide_eq_false (fun e => h (evI_inj e))]
theorem ev_valOf (cs : List Value) : valOf Try.prog 43 cs = .agg cs.toArray := by unfold valOf; rw [Try.underlying43]
theorem ev_neq (a b : Ev) (w : World) : (binOp .neq 43 (.agg a.cells.toArray) (.agg b.cells.toArray)).run Try.prog w = .ok (.bool (!decide (a = b))) w := by
  have := neq_ints ev_kinds ev_valOf (evI a) (evI b) rfl rfl (ev_ivals a) (ev_ivals b) w
  rwa [evI_dec] at this
theorem ev_eql (a b : Ev) (w : World) : (binOp .eql 43 (.agg a.cells.toArray) (.agg b.cells.toArray)).run Try.prog w = .ok (.bool (decide (a = b))) w := by
  have := eql_ints ev_kinds ev_valOf (evI a) (evI b) rfl rfl (ev_ivals a) (ev_ivals b) w
  rwa [evI_dec] at this
section
variable {P : Program} {a : Act} {o : Oper}
theorem runs_neq {T T' : TypeId} {x y : Operand} {xs ys : Array Value} {v : Value} (ho : o.op = .binOp .neq T x y T') (hx : a.eval x = .agg xs) (hy : a.eval y = .agg ys) (hg : P.eqGuardType P.depth T = false) (hr : ∀ W, (binOp .neq T (.agg xs) (.agg ys)).run P W = .ok v W) (W : World) : RunsTo P o a W v := by
  unfold RunsTo execOp
  simp only [ho, hx, hy, Sem.run_bind, run_eqGuard_agg W .neq T x y xs ys hg, Result.andThen_ok, hr, Sem.run_pure]
theorem runs_eql {T T' : TypeId} {x y : Operand} {xs ys : Array Value} {v : Value} (ho : o.op = .binOp .eql T x y T') (hx : a.eval x = .agg xs) (hy : a.eval y = .agg ys) (hg : P.eqGuardType P.depth T = false) (hr : ∀ W, (binOp .eql T (.agg xs) (.agg ys)).run P W = .ok v W) (W : World) : RunsTo P o a W v := by
  unfold RunsTo execOp
  simp only [ho, hx, hy, Sem.run_bind, run_eqGuard_agg W .eql T x y xs ys hg, Result.andThen_ok, hr, Sem.run_pure]
theorem mix_run {ops : Array Oper} {w : World} {kd : Nat → Kd} {sp : Nat → Told} {E : Act → (World → Prop) → Prop} {rest : List Oper} {k : Nat} {D : World → Prop} (v : Value) (hw : Region.wanted o (yielded ops a.tmps) = true) (hk : kd k = .pure) (hr : ∀ W, RunsTo P o a W v)
    (h : wpMix P ops w kd sp E rest (k + 1) (a.put o.dst v) D) : wpMix P ops w kd sp E (o :: rest) k a D := by
  unfold wpMix mStep
  rw [if_pos hw, hk]
  exact ⟨v, hr, h⟩
/-- A value known, at the list of a plain region's operations; guarded or not. -/
theorem wpList_runs {ops : Array Oper} {rest : List Oper} {w : World} {Q : Exit → Act → World → Prop} (v : Value) (hw : Region.wanted o (yielded ops a.tmps) = true) (hr : RunsTo P o a w v) (h : wpList P ops Q rest (a.put o.dst v) w) : wpList P ops Q (o :: rest) a w :=
  wpList_step fun K hK => by
    simp only [hw, if_true]
    unfold Oper.wp
    unfold RunsTo at hr
    rw [hr]
    exact hK _ _ h
end
theorem Rd.evr {w : World} {B : Nat} {A : Option Addr} {l : List Ev} (h : Rd w B A (l.flatMap Ev.cells)) {k : Nat} (hk : k < l.length) :
    ∃ b off, A = some ⟨b, off, none⟩ ∧ b < B ∧ w.rangeAt b (off + k * 9) l[k].cells := by
  obtain ⟨b, off, hA, hb, hat⟩ := h.at_ Ev.cells_length (by omega) hk
  exact ⟨b, off, hA, hb, hat⟩
set_option maxHeartbeats 4000000 in
theorem same_any (A B : Option Addr) (c d : Nat) (L M : List Ev) (w : World) (hL : L.length ≤ 1000000000) (hl : Rd w w.heap.size A (L.flatMap Ev.cells)) (hm : Rd w w.heap.size B (M.flatMap Ev.cells)) :
    Calls Try.prog 15 #[.slice A L.length c, .slice B M.length d] w fun e w' => e = .returned (.bool (decide (L = M))) ∧ Below w.heap.size w w' := by
  obtain ⟨n, hn⟩ : ∃ n, L.length = n := ⟨_, rfl⟩
  obtain ⟨m, hm'⟩ : ∃ m, M.length = m := ⟨_, rfl⟩
  by_cases hne : n = m
  · subst hne
    rw [hn] at hL ⊢
    rw [hm']
    have HL := Lib.hid hl
    have HM := Lib.hid hm
    have HN := Lib.hid hn
    have HN' := Lib.hid hm'
    clear hl hm hn hm'
    have hnn : (n != n) = false := by simp
    go_enter Try.func15, Try.ntmps15
    go_wp2_with fail
    go_loopw [5] (fun v wr => ∃ k : Nat, k ≤ n ∧ v = .int .i64 k ∧ Hid (L.take k = M.take k) ∧ Hid (Grown w wr)) (fun v _ => n - (intOf v).toNat)
    case atStart => exact ⟨0, Nat.zero_le _, rfl, Lib.hid (by simp), Lib.hid (Grown.refl _)⟩
    case round =>
      obtain ⟨k, hk, rfl, HT, HG⟩ := hrel
      by_cases hlt : k < n
      · have hkL : k < L.length := by rw [HN.out]; exact hlt
        have hkM : k < M.length := by rw [HN'.out]; exact hlt
        obtain ⟨b, off, rfl, hb, r1⟩ := (HL.out.below HG.out (Nat.le_refl _)).evr hkL
        obtain ⟨b2, off2, rfl, hb2, r2⟩ := (HM.out.below HG.out (Nat.le_refl _)).evr hkM
        have hb := Nat.lt_of_lt_of_le hb (Below.size HG.out)
        have hb2 := Nat.lt_of_lt_of_le hb2 (Below.size HG.out)
        obtain ⟨x, hx⟩ : ∃ x, L[k] = x := ⟨_, rfl⟩
        obtain ⟨y, hy⟩ : ∃ y, M[k] = y := ⟨_, rfl⟩
        rw [hx] at r1
        rw [hy] at r2
        have HX := Lib.hid hx
        have HY := Lib.hid hy
        have HR1 := Lib.hid r1
        have HR2 := Lib.hid r2
        have hKp := Keeps.base wr
        clear hx hy r1 r2
        go_upto_region 6 with fail
        refine wp_region_mixed [.pure, .pure, .pure, .held, .pure, .pure, .pure, .held, .pure] (fun _ => ⟨fun _ => True, fun _ _ => True⟩) (by kernel_rfl) (by kernel_rfl) ?_
        repeat (refine mix_pure rfl rfl rfl (fun K hK => ?_); go_big_quiet_op; refine hK _ ?_; clear hK K)
        refine mix_load rfl rfl (by assumption) 43 (.tmp 19) rfl b (off + k * 9) rfl x.cells _ hb HR1.out Try.underlying43 rfl (by kernel_rfl) ?_
        simp only [Act.put, List.setIfInBounds_toArray, List.set_cons_zero, List.set_cons_succ]
        repeat (refine mix_pure rfl rfl rfl (fun K hK => ?_); go_big_quiet_op; refine hK _ ?_; clear hK K)
        refine mix_load rfl rfl (by assumption) 43 (.tmp 23) rfl b2 (off2 + k * 9) rfl y.cells _ hb2 HR2.out Try.underlying43 rfl (by kernel_rfl) ?_
        simp only [Act.put, List.setIfInBounds_toArray, List.set_cons_zero, List.set_cons_succ]
        refine mix_run (.bool (!decide (x = y))) rfl rfl (runs_neq rfl rfl rfl (by kernel_rfl) (ev_neq x y)) ?_
        simp only [Act.put, List.setIfInBounds_toArray, List.set_cons_zero, List.set_cons_succ]
        refine mix_nil ?_
        intro W hW
        have HGW := Lib.hid (HG.out.trans hW)
        by_cases hxy : x = y
        · have hdec : (decide (x = y)) = true := decide_eq_true hxy
          rw [hdec]
          have HNX : Hid (L.take (k + 1) = M.take (k + 1)) := Lib.hid (by rw [List.take_succ_eq_append_getElem hkL, List.take_succ_eq_append_getElem hkM, HT.out, HX.out, HY.out, hxy])
          clear hxy hdec hKp hW
          go_wp2
          go_roundw
          case rel => exact ⟨k + 1, by omega, by go_num, HNX, HGW⟩
          case measure => simp [intOf]; omega
        · have hdec : (decide (x = y)) = false := decide_eq_false hxy
          rw [hdec]
          have HE : Hid (decide (L = M) = false) := Lib.hid (decide_eq_false fun e => hxy (by rw [← HX.out, ← HY.out]; simp only [e]))
          clear hxy hdec hKp hW
          go_wp2
          go_ret
          exact ⟨ret_bool HE.out.symm, HGW.out⟩
      · obtain rfl : k = n := by omega
        have HE : Hid (decide (L = M) = true) := Lib.hid (decide_eq_true (by have := HT.out; rwa [List.take_of_length_le (by rw [HN.out]; exact Nat.le_refl _), List.take_of_length_le (by rw [HN'.out]; exact Nat.le_refl _)] at this))
        go_wp2
        go_ret
        exact ⟨ret_bool HE.out.symm, HG.out⟩
  · have HE : Hid (decide (L = M) = false) := Lib.hid (decide_eq_false fun e => hne (by rw [← hn, ← hm', e]))
    rw [hn] at hL ⊢
    rw [hm']
    have hnn : (n != m) = true := by simpa using hne
    have hni : ((n : Int) != (m : Int)) = true := by simp; omega
    clear hl hm hn hm'
    go_enter Try.func15, Try.ntmps15
    go_wp2
    go_ret
    exact ⟨ret_bool HE.out.symm, Below.refl _ _⟩
end Go.Proofs.Yteccmklacgpodaa
