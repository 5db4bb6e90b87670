/-
  The law's own part: the same moves, awake; a text is parsed by both alike.
-/
import Derived.Test.YtlonefjbcooaaaaDoorScQ
import Derived.Test.YtlonefjbcooaaaaDoorScR
import Derived.Test.YtlonefjbcooaaaaDoorOpenInt
import Derived.Test.YtlonefjbcooaaaaDoorMildL
namespace Go.Proofs.YtlonefjbcooaaaaDoor
open Go.RowKit
set_option maxRecDepth 100000
set_option linter.unusedSimpArgs false
section
variable {P : Program} {a : Act} {o : Oper}
theorem runsS_neq {T T' : TypeId} {x y : Operand} {xs ys : Array Value} {v : Value} (ho : o.op = .binOp .neq T x y T') (hx : a.eval x = .agg xs) (hy : a.eval y = .agg ys) (hg : P.eqGuardType P.depth T = false) (hr : ∀ W, (binOp .neq T (.agg xs) (.agg ys)).run P W = .ok v W) (W : World) : RunsTo P o a W v := by
  unfold RunsTo execOp
  simp only [ho, hx, hy, Sem.run_bind, run_eqGuard_agg W .neq T x y xs ys hg, Result.andThen_ok, hr, Sem.run_pure]
theorem runsS_eql {T T' : TypeId} {x y : Operand} {xs ys : Array Value} {v : Value} (ho : o.op = .binOp .eql T x y T') (hx : a.eval x = .agg xs) (hy : a.eval y = .agg ys) (hg : P.eqGuardType P.depth T = false) (hr : ∀ W, (binOp .eql T (.agg xs) (.agg ys)).run P W = .ok v W) (W : World) : RunsTo P o a W v := by
  unfold RunsTo execOp
  simp only [ho, hx, hy, Sem.run_bind, run_eqGuard_agg W .eql T x y xs ys hg, Result.andThen_ok, hr, Sem.run_pure]
theorem wpS_runs {ops : Array Oper} {rest : List Oper} {w : World} {Q : Exit → Act → World → Prop} (v : Value) (hw : Region.wanted o (yielded ops a.tmps) = true) (hr : RunsTo P o a w v) (h : wpList P ops Q rest (a.put o.dst v) w) : wpList P ops Q (o :: rest) a w :=
  wpList_step fun K hK => by
    simp only [hw, if_true]
    unfold Oper.wp
    unfold RunsTo at hr
    rw [hr]
    exact hK _ _ h
end
def mvI (a : Nat × List Nat) : List Int := (mvF a).map fun v => match v with | .int _ n => n | _ => 0
theorem mv_kinds : kindsOf Tryd.prog 100 40 = some [.i64, .i64, .i64, .i64, .u8, .u8] := by kernel_rfl
theorem mv_valOf (cs : List Value) : valOf Tryd.prog 40 cs = .agg cs.toArray := by unfold valOf; rw [Tryd.underlying40]
theorem mv_neq (a : Nat × List Nat) (w : World) : (binOp .neq 40 (.agg (mvF a).toArray) (.agg (mvF a).toArray)).run Tryd.prog w = .ok (.bool false) w := by
  have := neq_ints mv_kinds mv_valOf (mvI a) (mvI a) rfl rfl (xs := mvF a) (ys := mvF a) rfl rfl w
  simpa using this
def setI (ns : List Nat) : List Int := (setC ns).map fun v => match v with | .int _ n => n | _ => 0
theorem set_kinds : kindsOf Tryd.prog 100 27 = some [.u32, .i64, .i64, .i64, .u32, .i64, .i64, .i64] := by kernel_rfl
theorem set_valOf (cs : List Value) : valOf Tryd.prog 27 cs = .agg cs.toArray := by unfold valOf; rw [Tryd.underlying27]
theorem set_eql (ns : List Nat) (w : World) : (binOp .eql 27 (.agg (setC ns).toArray) (.agg (setC ns).toArray)).run Tryd.prog w = .ok (.bool true) w := by
  have := eql_ints set_kinds set_valOf (setI ns) (setI ns) rfl rfl (xs := setC ns) (ys := setC ns) rfl rfl w
  simpa using this
set_option maxHeartbeats 8000000 in
theorem same27_yes (A A' : Option Addr) (c c' : Nat) (L : List (Nat × List Nat)) (w : World) (hr : Rd w w.heap.size A (L.flatMap mvF)) (hr' : Rd w w.heap.size A' (L.flatMap mvF)) (hn : L.length ≤ maxLen) :
    Calls Tryd.prog 9 #[.slice A L.length c, .slice A' L.length c'] w fun e w' => e = .returned (.bool true) ∧ Below w.heap.size w w' := by
  have HR := Lib.hid hr
  have HR' := Lib.hid hr'
  obtain ⟨m, hm⟩ : ∃ m, L.length = m := ⟨_, rfl⟩
  have HM := Lib.hid hm
  rw [hm] at hn ⊢
  unfold maxLen at hn
  clear hr hr' hm
  go_enter Tryd.func9, Tryd.ntmps9
  go_wp2_with fail
  go_loopw [5] (fun i wr => ∃ j : Nat, j ≤ m ∧ i = .int .i64 j ∧ Hid (Below w.heap.size w wr)) (fun i _ => m - (intOf i).toNat)
  case atStart => exact ⟨0, Nat.zero_le _, rfl, Lib.hid (Below.refl _ _)⟩
  case round =>
    obtain ⟨j, hj, rfl, HB⟩ := hrel
    by_cases hlt : j < m
    · have hjL : j < L.length := by rw [HM.out]; exact hlt
      obtain ⟨b, off, rfl, hb, hat⟩ := (HR.out.below HB.out (Nat.le_refl _)).at_ mvF_length (by decide) hjL
      obtain ⟨b', off', rfl, hb', hat'⟩ := (HR'.out.below HB.out (Nat.le_refl _)).at_ mvF_length (by decide) hjL
      have HRG : Hid (wr.rangeAt b (off + j * 6) (mvF L[j])) := Lib.hid hat
      have HRG' : Hid (wr.rangeAt b' (off' + j * 6) (mvF L[j])) := Lib.hid hat'
      have hbl : b < wr.heap.size := Nat.lt_of_lt_of_le hb HB.out.size
      have hbl' : b' < wr.heap.size := Nat.lt_of_lt_of_le hb' HB.out.size
      have HN := Lib.hid (mv_neq L[j])
      obtain ⟨x, hx⟩ : ∃ x, L[j] = x := ⟨_, rfl⟩
      rw [hx] at HRG HRG' HN
      have e0 : (0 : Int) ≤ (j : Int) := Int.natCast_nonneg _
      have e1 : (j : Int) < (m : Int) := by omega
      clear hat hat' hx
      go_upto_region 6 with fail
      refine wp_region_mild (by kernel_rfl) (by kernel_rfl) ?_
      repeat (go_big_quiet_step (fail))
      refine wpQuiet_load_mild rfl 40 (.tmp 19) rfl b (off + j * 6) rfl (mvF x) _ hbl HRG.out Tryd.underlying40 rfl mvInfo ?_
      simp only [Act.put, List.setIfInBounds_toArray, List.set_cons_zero, List.set_cons_succ]
      repeat (go_big_quiet_step (fail))
      refine wpQuiet_load_mild rfl 40 (.tmp 23) rfl b' (off' + j * 6) rfl (mvF x) _ hbl' HRG'.out Tryd.underlying40 rfl mvInfo ?_
      simp only [Act.put, List.setIfInBounds_toArray, List.set_cons_zero, List.set_cons_succ]
      refine wpQuiet_runs_mild (.bool false) rfl (fun V => runsS_neq rfl rfl rfl (by kernel_rfl) HN.out V) ?_
      simp only [Act.put, List.setIfInBounds_toArray, List.set_cons_zero, List.set_cons_succ]
      refine wpQuiet_nil ?_
      intro w9 hw'
      obtain ⟨⟨wq, k9⟩, hw''⟩ := hw'
      subst hw''
      have HB9 := Lib.hid (bTrans HB.out k9)
      clear k9
      go_wp2
      go_roundw
      case rel => exact ⟨j + 1, by omega, by go_num, HB9⟩
      case measure => simp [intOf]; omega
    · obtain rfl : j = m := by omega
      go_wp2
      go_ret
      exact ⟨rfl, HB.out⟩
theorem OwnL.maxLen {α : Type} {w : World} {base : Nat} {E : TypeId} {m : Nat} {v : Value} {f : α → List Value} {l : List α} (h : OwnL w base E m v f l) : l.length ≤ Go.maxLen := by
  rcases h.2 with ⟨-, h0⟩ | ⟨g, cap, cur, -, -, -, hc, hm, -⟩
  · omega
  · omega
def exT : List UInt8 := [98, 111, 117, 116, 32, 49, 32, 50, 32, 56, 32, 49, 48, 48, 32, 54, 52, 32, 56, 10, 116, 105, 99, 107, 32, 48, 32, 49, 54, 10]
theorem exT_parse : parseO exT = .inr ([1, 2, 8, 100, 64, 8], [(0, [0, 16])]) := by decide +kernel
set_option maxHeartbeats 4000000 in
theorem awake27_any (w : World) (h : ScW w w.heap.size) : Calls Tryd.prog 6 #[] w fun e w' => e = .returned (.bool true) ∧ Below w.heap.size w w' := by
  have HP := Lib.hid (parse_any exT w h)
  unfold exT at HP
  clear h
  go_enter Tryd.func6, Tryd.ntmps6
  go_upto_region 2 with (first
    | (go_at_call 7; refine HP.out.mono ?_; intro e w2 hq; unfold PQ at hq; obtain ⟨ns, L, k, er, A, c, rfl, ho, hb2, hres⟩ := hq
       obtain ⟨rfl, rfl, rfl, rfl⟩ : ns = [1, 2, 8, 100, 64, 8] ∧ L = [(0, [0, 16])] ∧ k = 0 ∧ er = 0 := hres.same (.inr ⟨by decide, .inr ⟨exT_parse, rfl, rfl⟩⟩)
       obtain ⟨g, rfl, -, hg0, hg⟩ := ho.formA (by decide)
       have xm := ho.cell mvF_length (k := 0) (j := 5) (u := .int .u8 16) (by decide) rfl
       have HB2 := Lib.hid hb2
       clear ho hres hb2)
    | (refine wpList_store_mid rfl 27 (.tmp 1) (.tmp 7) rfl w2.heap.size 0 (setC [1, 2, 8, 100, 64, 8]).toArray rfl rfl (there_new _ _ _ rfl) setInfo (setC_one _) ?_
       refine named_put (F := fun W => wpList _ _ _ _ _ W) rfl ?_
       intro w3 k3 hb3 hz3
       have x3 := k3.cell 2
       have xg := (hb3.cell (p := ⟨g, 5, none⟩) hg).trans xm
       have HB3 := Lib.hid (bTrans HB2.out hb3)
       have hl3 := k3.lt
       clear k3 hb3 hz3))
  simp only [setC, List.getElem?_toArray, List.getElem?_cons_succ, List.getElem?_cons_zero, List.getD_cons_succ, List.getD_cons_zero] at x3
  go_wp2
  go_ret
  exact ⟨rfl, HB3.out⟩
set_option maxHeartbeats 8000000 in
/-- The law's three parts, at any text. -/
theorem parses_all (s : ByteArray) (w : World) (h : ScW w w.heap.size) : Calls Tryd.prog 3 #[.string s] w fun e w' => e = .returned (.bool true) ∧ Below w.heap.size w w' := by
  have hst : (⟨s.data.toList.toArray⟩ : ByteArray) = s := by simp
  obtain ⟨t, ht⟩ : ∃ t, s.data.toList = t := ⟨_, rfl⟩
  rw [ht] at hst
  rw [← hst]
  clear ht hst
  have HA := Lib.hid (awake27_any w h)
  have HS := Lib.hid h
  clear h
  go_enter Tryd.func3, Tryd.ntmps3
  go_upto_region 3 with (first | (go_at_call 6; refine HA.out.mono ?_; rintro e w1 ⟨rfl, hb1⟩; have HB1 := Lib.hid hb1; have HS1 := Lib.hid (HS.out.on hb1); clear hb1))
  by_cases hg : 5000 < t.length ∧ t.length ≤ 200000
  case pos =>
    obtain ⟨hg1, hg2⟩ := hg
    go_wp2
    go_ret
    exact ⟨rfl, HB1.out⟩
  case neg =>
  have HP := Lib.hid (parse_any t w1 HS1.out)
  have HR := Lib.hid (fun W => rparse_any t W)
  by_cases h5 : 5000 < t.length
  case pos =>
    have h2 : 200000 < t.length := by omega
    go_upto_region 7 with (first
      | (go_at_call 7; refine HP.out.mono ?_; intro e w2 hq; unfold PQ at hq; obtain ⟨ns, L, k, er, A, c, rfl, ho2, hb2, hres2⟩ := hq
         have HB2 := Lib.hid (bTrans HB1.out hb2)
         have HO2 := Lib.hid ho2
         have HRS2 := Lib.hid hres2
         clear hb2 ho2 hres2)
      | (go_at_call 8; refine (HR.out _).mono ?_; intro e w4 hq; unfold PQ at hq; obtain ⟨ns', L', k', er', A', c', rfl, ho4, hb4, hres4⟩ := hq
         obtain ⟨rfl, rfl, rfl, rfl⟩ := HRS2.out.same hres4
         have HB4 := Lib.hid (bTrans HB3.out hb4)
         have HO4 := Lib.hid ho4
         have HO24 := Lib.hid (HO23.out.below hb4)
         have K34 := Lib.hid (K3.out.on hb4)
         clear hb4 ho4 hres4)
      | (refine wpList_store_mid rfl 27 (.tmp 3) (.tmp 24) rfl w2.heap.size 0 (setC ns).toArray rfl rfl (there_new _ _ _ rfl) setInfo (setC_one _) ?_
         refine named_put (F := fun W => wpList _ _ _ _ _ W) rfl ?_
         intro w3 k3 hb3 hz3
         have K3 := Lib.hid k3
         have HB3 := Lib.hid (bTrans HB2.out hb3)
         have HO23 := Lib.hid (HO2.out.below hb3)
         clear k3 hb3 hz3)
      | (refine wpList_store_mid rfl 27 (.tmp 7) (.tmp 31) rfl w4.heap.size 0 (setC ns).toArray rfl rfl (there_new _ _ _ rfl) setInfo (setC_one _) ?_
         refine named_put (F := fun W => wpList _ _ _ _ _ W) rfl ?_
         intro w5 k5 hb5 hz5
         have K5 := Lib.hid k5
         have HB5 := Lib.hid (bTrans HB4.out hb5)
         have HO25 := Lib.hid (HO24.out.below hb5)
         have HO45 := Lib.hid (HO4.out.below hb5)
         have K35 := Lib.hid (K34.out.on hb5)
         clear k5 hb5 hz5))
    have HSA := Lib.hid (same27_yes A A' c c' L w5 HO25.out.rd HO45.out.rd HO25.out.maxLen)
    have hr3 : w5.rangeAt w2.heap.size 0 (setC ns) := fun i v hv => by rw [Nat.zero_add, K35.out.cell]; simpa using hv
    have hr5 : w5.rangeAt w4.heap.size 0 (setC ns) := fun i v hv => by rw [Nat.zero_add, K5.out.cell]; simpa using hv
    have HR3 := Lib.hid hr3
    have HR5 := Lib.hid hr5
    have hl3 := K35.out.lt
    have hl5 := K5.out.lt
    have HEQ := Lib.hid (set_eql ns)
    clear hr3 hr5 HP HR HO2 HO4 HRS2 HO23 HO24 K3 K34
    go_wp2_with (first
      | (refine wpList_load_mid rfl 27 (.tmp 3) rfl w2.heap.size 0 rfl (setC ns) _ HR3.out Tryd.underlying27 rfl setInfo ?_)
      | (refine wpList_load_mid rfl 27 (.tmp 7) rfl w4.heap.size 0 rfl (setC ns) _ HR5.out Tryd.underlying27 rfl setInfo ?_)
      | (refine wpS_runs (.bool true) rfl (runsS_eql rfl rfl rfl (by kernel_rfl) HEQ.out _) ?_)
      | (go_at_call 9; refine HSA.out.mono ?_; rintro e w6 ⟨rfl, hb6⟩; have HB6 := Lib.hid hb6; clear hb6))
    go_ret
    exact ⟨rfl, bTrans HB5.out HB6.out⟩
  case neg =>
    go_upto_region 7 with (first
      | (go_at_call 7; refine HP.out.mono ?_; intro e w2 hq; unfold PQ at hq; obtain ⟨ns, L, k, er, A, c, rfl, ho2, hb2, hres2⟩ := hq
         have HB2 := Lib.hid (bTrans HB1.out hb2)
         have HO2 := Lib.hid ho2
         have HRS2 := Lib.hid hres2
         clear hb2 ho2 hres2)
      | (go_at_call 8; refine (HR.out _).mono ?_; intro e w4 hq; unfold PQ at hq; obtain ⟨ns', L', k', er', A', c', rfl, ho4, hb4, hres4⟩ := hq
         obtain ⟨rfl, rfl, rfl, rfl⟩ := HRS2.out.same hres4
         have HB4 := Lib.hid (bTrans HB3.out hb4)
         have HO4 := Lib.hid ho4
         have HO24 := Lib.hid (HO23.out.below hb4)
         have K34 := Lib.hid (K3.out.on hb4)
         clear hb4 ho4 hres4)
      | (refine wpList_store_mid rfl 27 (.tmp 3) (.tmp 24) rfl w2.heap.size 0 (setC ns).toArray rfl rfl (there_new _ _ _ rfl) setInfo (setC_one _) ?_
         refine named_put (F := fun W => wpList _ _ _ _ _ W) rfl ?_
         intro w3 k3 hb3 hz3
         have K3 := Lib.hid k3
         have HB3 := Lib.hid (bTrans HB2.out hb3)
         have HO23 := Lib.hid (HO2.out.below hb3)
         clear k3 hb3 hz3)
      | (refine wpList_store_mid rfl 27 (.tmp 7) (.tmp 31) rfl w4.heap.size 0 (setC ns).toArray rfl rfl (there_new _ _ _ rfl) setInfo (setC_one _) ?_
         refine named_put (F := fun W => wpList _ _ _ _ _ W) rfl ?_
         intro w5 k5 hb5 hz5
         have K5 := Lib.hid k5
         have HB5 := Lib.hid (bTrans HB4.out hb5)
         have HO25 := Lib.hid (HO24.out.below hb5)
         have HO45 := Lib.hid (HO4.out.below hb5)
         have K35 := Lib.hid (K34.out.on hb5)
         clear k5 hb5 hz5))
    have HSA := Lib.hid (same27_yes A A' c c' L w5 HO25.out.rd HO45.out.rd HO25.out.maxLen)
    have hr3 : w5.rangeAt w2.heap.size 0 (setC ns) := fun i v hv => by rw [Nat.zero_add, K35.out.cell]; simpa using hv
    have hr5 : w5.rangeAt w4.heap.size 0 (setC ns) := fun i v hv => by rw [Nat.zero_add, K5.out.cell]; simpa using hv
    have HR3 := Lib.hid hr3
    have HR5 := Lib.hid hr5
    have hl3 := K35.out.lt
    have hl5 := K5.out.lt
    have HEQ := Lib.hid (set_eql ns)
    clear hr3 hr5 HP HR HO2 HO4 HRS2 HO23 HO24 K3 K34
    go_wp2_with (first
      | (refine wpList_load_mid rfl 27 (.tmp 3) rfl w2.heap.size 0 rfl (setC ns) _ HR3.out Tryd.underlying27 rfl setInfo ?_)
      | (refine wpList_load_mid rfl 27 (.tmp 7) rfl w4.heap.size 0 rfl (setC ns) _ HR5.out Tryd.underlying27 rfl setInfo ?_)
      | (refine wpS_runs (.bool true) rfl (runsS_eql rfl rfl rfl (by kernel_rfl) HEQ.out _) ?_)
      | (go_at_call 9; refine HSA.out.mono ?_; rintro e w6 ⟨rfl, hb6⟩; have HB6 := Lib.hid hb6; clear hb6))
    go_ret
    exact ⟨rfl, bTrans HB5.out HB6.out⟩
end Go.Proofs.YtlonefjbcooaaaaDoor
