/-
  PROVED HERE: promptbooklaw37.SeriesRounds answers true for every input, and leaves its arguments as they were.
  CONDITIONS: none beyond the row's own.
-/
import Derived.Test.YtfcllbhkimjhkaaSeriesRef
import Derived.Deep.DeepHandedRow
import Derived.Lib.LaidTab
import Derived.SevenTiedAt
namespace Go.Proofs.Ytfcllbhkimjhkaa
open Go.RowKit Go.WideShapes Go.ChangeShapes Go.ChangeAt

def sumA (L : List Rnd) : Int := (L.map Rnd.a).sum
def sumB (L : List Rnd) : Int := (L.map Rnd.b).sum
theorem sumA_take (L : List Rnd) (k : Nat) (h : k < L.length) : sumA (L.take (k + 1)) = sumA (L.take k) + L[k].a := by
  rw [List.take_succ_eq_append_getElem h, sumA, List.map_append, List.sum_append]; simp [sumA]
theorem sumB_take (L : List Rnd) (k : Nat) (h : k < L.length) : sumB (L.take (k + 1)) = sumB (L.take k) + L[k].b := by
  rw [List.take_succ_eq_append_getElem h, sumB, List.map_append, List.sum_append]; simp [sumB]

set_option maxRecDepth 100000 in
set_option maxHeartbeats 1000000 in
theorem walk_no (A : Option Addr) (c : Nat) (l : List Ev) (w : World) (hr : Rd w w.heap.size A (l.flatMap Ev.cells)) (hl : l.length ≤ 100) (hno : rightEv 0 l = false) :
    Calls Try.prog 3 #[.slice A l.length c] w fun e w' => e = .returned (.bool true) ∧ Below w.heap.size w w' := by
  have HR := Lib.hid hr
  have HN := Lib.hid hno
  clear hr hno
  have harr : ∀ w : World, (binOp .eql 28 (.agg #[.int .i64 0, .int .i64 0]) (.agg #[.int .i64 0, .int .i64 0])).run Try.prog w = .ok (.bool true) w := fun _ => by kernel_rfl
  go_enter Try.func3, Try.ntmps3
  go_wp2_with fail
  refine (awake_any _).mono ?_
  rintro e w1 ⟨rfl, hb1⟩
  go_wp2_with fail
  refine (rounds_no _ _ l _ (by omega) ((HR.out.below hb1 (Nat.le_refl _)).more hb1.size) HN.out).mono ?_
  rintro e w2 ⟨rfl, hb2⟩
  go_wp2_with fail
  refine (open_no _ _ l _ (by omega) ((HR.out.below (bTrans hb1 hb2) (Nat.le_refl _)).more (bTrans hb1 hb2).size) HN.out).mono ?_
  rintro e w3 ⟨rfl, hb3⟩
  go_wp2_with fail
  refine (r37Right_any _ _ l _ (by omega) ((HR.out.below (bAlloc (bTrans (bTrans hb1 hb2) hb3) _) (Nat.le_refl _)).more (bAlloc (bTrans (bTrans hb1 hb2) hb3) _).size)).mono ?_
  rintro e w4 ⟨rfl, hb4⟩
  rw [HN.out]
  have hblk := (Blk.new w3 28 #[.int .i64 0, .int .i64 0]).on hb4
  have c0 := hblk.cell 0
  have c1 := hblk.cell 1
  have hl4 := hblk.lt
  simp only [List.getElem?_toArray, List.getElem?_cons_zero, List.getElem?_cons_succ] at c0 c1
  clear hblk
  go_wp2
  go_ret
  exact ⟨rfl, bTrans (bAlloc (bTrans (bTrans hb1 hb2) hb3) _) hb4⟩

set_option maxRecDepth 100000 in
set_option maxHeartbeats 4000000 in
theorem walk_yes (A : Option Addr) (c : Nat) (l : List Ev) (w : World) (hc : l.length ≤ c) (hcm : c ≤ maxLen) (hr : Rd w w.heap.size A (l.flatMap Ev.cells)) (hl : l.length ≤ 100) (hyes : rightEv 0 l = true) :
    Calls Try.prog 3 #[.slice A l.length c] w fun e w' => e = .returned (.bool true) ∧ Below w.heap.size w w' := by
  have HR := Lib.hid hr
  have HN := Lib.hid hyes
  have HC := Lib.hid (And.intro hc hcm)
  have hbd := thr_bd l l.length (Nat.le_refl _)
  have hsm := thr_sum l l.length (Nat.le_refl _)
  rw [List.take_length] at hbd hsm
  obtain ⟨t1, t2, t3, t4, t5, t6⟩ := hbd
  have HT6 := Lib.hid t6
  have HSM := Lib.hid hsm
  clear hr hyes hc hcm t6 hsm
  go_enter Try.func3, Try.ntmps3
  go_wp2_with fail
  refine (awake_any _).mono ?_
  rintro e w1 ⟨rfl, hb1⟩
  go_wp2_with fail
  refine (rounds_any _ _ l _ (by omega) ((HR.out.below hb1 (Nat.le_refl _)).more hb1.size) HN.out).mono ?_
  rintro e w2 ⟨A', cp, rfl, hown, hb2⟩
  have HO := Lib.hid (hown.more hb1.size)
  clear hown
  go_wp2_with fail
  refine (open_any _ _ l _ (by omega) ((HR.out.below (bTrans hb1 hb2) (Nat.le_refl _)).more (bTrans hb1 hb2).size) HN.out).mono ?_
  rintro e w3 ⟨rfl, hb3⟩
  go_wp2_with fail
  refine (r37Right_any _ _ l _ (by omega) ((HR.out.below (bAlloc (bTrans (bTrans hb1 hb2) hb3) _) (Nat.le_refl _)).more (bAlloc (bTrans (bTrans hb1 hb2) hb3) _).size)).mono ?_
  rintro e w4 ⟨rfl, hb4⟩
  rw [HN.out]
  have hb04 := bTrans (bAlloc (bTrans (bTrans hb1 hb2) hb3) _) hb4
  have hblk4 := (Blk.new w3 28 #[.int .i64 (thr l).a, .int .i64 (thr l).b]).on hb4
  have HO4 := Lib.hid (((HO.out.below hb3).alloc (.cells #[.int .i64 (thr l).a, .int .i64 (thr l).b] 28)).below hb4)
  go_wp2_with fail
  refine (refRounds_any _ _ l _ (by omega) HC.out.1 HC.out.2 ((HR.out.below hb04 (Nat.le_refl _)).more hb04.size)).mono ?_
  rintro e w5 ⟨A5, cp5, A6, n6, c6, rest, rfl, hown5, hb5, hr1, hr2, hr3, hr4, hr5⟩
  have HR1 := Lib.hid hr1
  have HR3 := Lib.hid hr3
  have HR4 := Lib.hid hr4
  have HR5 := Lib.hid hr5
  have HO5 := Lib.hid (HO4.out.below hb5)
  have HO6 := Lib.hid (hown5.more hb04.size)
  have hb05 := bTrans hb04 hb5
  have hblk5 := hblk4.on hb5
  have k0 := hblk5.cell 0
  have k1 := hblk5.cell 1
  simp only [List.getElem?_toArray, List.getElem?_cons_zero, List.getElem?_cons_succ] at k0 k1
  have hl5 := hblk5.lt
  have HB5 := Lib.hid hblk5
  have HB05 := Lib.hid hb05
  clear hr1 hr3 hr4 hr5 hown5 hblk4 hblk5 hb05
  go_wp2
  go_loopw [10] (fun i wr => ∃ k : Nat, k ≤ (thr l).out.length ∧ i = .int .i64 k ∧ ∃ z y, Hid (z = (thr l).a + sumA ((thr l).out.take k)) ∧ Hid (y = (thr l).b + sumB ((thr l).out.take k)) ∧ 0 ≤ z ∧ z ≤ 100 + 100 * k ∧ 0 ≤ y ∧ y ≤ 100 + 100 * k ∧
    Blk wr w5.heap.size 28 #[.int .i64 z, .int .i64 y] ∧ Below w5.heap.size w5 wr) (fun i _ => (thr l).out.length - (intOf i).toNat)
  case atStart => exact ⟨0, Nat.zero_le _, rfl, (thr l).a, (thr l).b, (show _ = _ by simp [sumA]), (show _ = _ by simp [sumB]), t1, by omega, t3, by omega, Blk.new _ _ _, bAlloc (Below.refl _ _) _⟩
  case round =>
    obtain ⟨k, hk, rfl, z, y, hz, hy, z0, z1, y0, y1, hblk, hbr⟩ := hrel
    by_cases hlt : k < (thr l).out.length
    · obtain ⟨b1, o1, rfl, hB1, hc⟩ := (HO5.out.rd.below hbr (Nat.le_refl _)).at_ Rnd.cells_length (by omega) hlt
      obtain ⟨b2, o2, rfl, hB2, hd⟩ := (HO6.out.rd.below hbr (Nat.le_refl _)).at_ Rnd.cells_length (by omega) hlt
      have c0 := hc 0 _ rfl
      have c1 := hc 1 _ rfl
      have c2 := hc 2 _ rfl
      have c3 := hc 3 _ rfl
      have d0 := hd 0 _ rfl
      have d1 := hd 1 _ rfl
      have d2 := hd 2 _ rfl
      have d3 := hd 3 _ rfl
      rw [Nat.add_zero] at c0 d0
      obtain ⟨u1, u2, u3, u4⟩ := HT6.out (thr l).out[k] (List.getElem_mem hlt)
      have hzs : z + (thr l).out[k].a = (thr l).a + sumA ((thr l).out.take (k + 1)) := by rw [sumA_take _ k hlt, ← Int.add_assoc, ← hz.out]
      have hys : y + (thr l).out[k].b = (thr l).b + sumB ((thr l).out.take (k + 1)) := by rw [sumB_take _ k hlt, ← Int.add_assoc, ← hy.out]
      have HZS := Lib.hid hzs
      have HYS := Lib.hid hys
      have e0 := hblk.cell 0
      have e1 := hblk.cell 1
      have f0 := hblk.frozen 0
      have f1 := hblk.frozen 1
      simp only [List.getElem?_toArray, List.getElem?_cons_zero, List.getElem?_cons_succ] at e0 e1
      have hbl := hblk.lt
      have HBK := Lib.hid hblk
      have i1 : (0 : Int) ≤ (k : Int) := Int.natCast_nonneg _
      have i2 : (k : Int) < ((thr l).out.length : Int) := by omega
      clear hc hd hblk hzs hys hz hy
      go_wp2
      go_quiet (fail)
      go_wp2
      go_region
      go_wp2
      go_region
      go_wp2
      go_roundw
      case rel =>
        exact ⟨k + 1, by omega, by go_num, _, _, HZS.out, HYS.out, by omega, by omega, by omega, by omega, (((HBK.out.drewN _).set 0 _).set 1 _).drew, (bSetG (bSetG (below_drewN hbr _) (Nat.le_refl _) _ _) (Nat.le_refl _) _ _).drew⟩
      case measure => simp [intOf]; omega
    · have hzf : z = killsOf l 0 := by rw [hz.out, List.take_of_length_le (by omega), ← HSM.out.1, Int.add_comm]; rfl
      have hyf : y = killsOf l 1 := by rw [hy.out, List.take_of_length_le (by omega), ← HSM.out.2, Int.add_comm]; rfl
      rw [hzf, hyf] at hblk
      have e0 := hblk.cell 0
      have e1 := hblk.cell 1
      simp only [List.getElem?_toArray, List.getElem?_cons_zero, List.getElem?_cons_succ] at e0 e1
      have g0 : wr.cell? ⟨w3.heap.size, 0, none⟩ = some (.int .i64 (thr l).a) := (hbr.cell (p := ⟨w3.heap.size, 0, none⟩) hl5).trans k0
      have g1 : wr.cell? ⟨w3.heap.size, 1, none⟩ = some (.int .i64 (thr l).b) := (hbr.cell (p := ⟨w3.heap.size, 1, none⟩) hl5).trans k1
      have hbrw := bTrans HB05.out hbr
      have rr : Rd wr wr.heap.size A6 (rest.flatMap Ev.cells) := ((HR3.out.more hb5.size).below hbr (Nat.le_refl _)).more hbr.size
      have rl : Rd wr wr.heap.size A (l.flatMap Ev.cells) := (HR.out.below hbrw (Nat.le_refl _)).more hbrw.size
      have q1 : ∀ n, Calls Try.prog 9 #[.slice A6 n6 c6, .int .i64 0] (wr.drewN n) fun e w' => e = .returned (.int .i64 (thr l).a) ∧ w' = wr.drewN n := fun n => by
        rw [← HR4.out]; exact kills_at _ _ _ rest 0 _ HR1.out (by rw [HR1.out]; exact hr2) (rr.drewN n) (by omega) (by omega)
      have q2 : ∀ n, Calls Try.prog 9 #[.slice A6 n6 c6, .int .i64 1] (wr.drewN n) fun e w' => e = .returned (.int .i64 (thr l).b) ∧ w' = wr.drewN n := fun n => by
        rw [← HR5.out]; exact kills_at _ _ _ rest 1 _ HR1.out (by rw [HR1.out]; exact hr2) (rr.drewN n) (by omega) (by omega)
      have q3 : ∀ n, Calls Try.prog 9 #[.slice A l.length c, .int .i64 0] (wr.drewN n) fun e w' => e = .returned (.int .i64 (killsOf l 0)) ∧ w' = wr.drewN n := fun n =>
        kills_at _ _ _ l 0 _ rfl (by omega) (rl.drewN n) (by omega) (by omega)
      have q4 : ∀ n, Calls Try.prog 9 #[.slice A l.length c, .int .i64 1] (wr.drewN n) fun e w' => e = .returned (.int .i64 (killsOf l 1)) ∧ w' = wr.drewN n := fun n =>
        kills_at _ _ _ l 1 _ rfl (by omega) (rl.drewN n) (by omega) (by omega)
      have Q1 := Lib.hid q1
      have Q2 := Lib.hid q2
      have Q3 := Lib.hid q3
      have Q4 := Lib.hid q4
      clear q1 q2 q3 q4 hblk hzf hyf hz hy k0 k1 z0 z1 y0 y1
      go_wp2
      go_quiet ((first
        | (with_reducible exact Calls.quiet_of_same (Q1.out _))
        | (with_reducible exact Calls.quiet_of_same (Q2.out _))
        | (with_reducible exact Calls.quiet_of_same (Q3.out _))
        | (with_reducible exact Calls.quiet_of_same (Q4.out _))))
      go_wp2
      go_ret
      exact ⟨rfl, below_drewN hbrw _⟩

set_option maxRecDepth 100000 in
set_option maxHeartbeats 1000000 in
theorem walk_out (A : Option Addr) (c n : Nat) (w : World) (hn : n ≤ maxLen) (hl : 100 < n) :
    Calls Try.prog 3 #[.slice A n c] w fun e w' => e = .returned (.bool true) ∧ Below w.heap.size w w' := by
  unfold maxLen at hn
  go_enter Try.func3, Try.ntmps3
  go_wp2_with fail
  refine (awake_any _).mono ?_
  rintro e w1 ⟨rfl, hb1⟩
  go_wp2
  go_ret
  exact ⟨rfl, hb1⟩

theorem walk_any (A : Option Addr) (c : Nat) (l : List Ev) (w : World) (hr : Rd w w.heap.size A (l.flatMap Ev.cells)) (hn : l.length ≤ c ∧ c ≤ maxLen) :
    Calls Try.prog 3 #[.slice A l.length c] w fun e w' => e = .returned (.bool true) ∧ Below w.heap.size w w' := by
  by_cases h : 100 < l.length
  · exact walk_out A c l.length w (Nat.le_trans hn.1 hn.2) h
  · cases hk : rightEv 0 l with
    | false => exact walk_no A c l w hr (by omega) hk
    | true => exact walk_yes A c l w hn.1 hn.2 hr (by omega) hk
theorem own : ownKnob Try.prog.godebug = none := by kernel_rfl
theorem contract (H : Type) (enc : TypeId × Value → H) (W : World) (base : Nat) (args : Array Value) (ds gs : List (DataW H)) (before : List MemPlace)
    (hval : ∀ (j : Nat) t v, Try.f3.params[j]? = some t → args[j]? = some v → Value.okWide Try.prog W .any base t v)
    (hW : DataW.Whole enc Try.prog Try.f3.params.toList Rows.seriesRoundsSpec.vars false W args.toList ds gs before) (_hL : laidMetH Try.prog Rows.seriesRoundsRow.laid W) :
    Calls Try.prog 3 args W fun e W' => ∃ v, e = .returned v ∧ Rows.seriesRoundsSpec.post enc Try.prog Try.f3 false true false false W args v W' := by
  have hW0 := hW
  obtain ⟨p, q, hA, hV, rfl, -, -⟩ := hW
  rw [Try.params3] at hA hval
  obtain ⟨v0, vs0, d0, ds0, p0, q0, hargs, rfl, rfl, h0, r0⟩ := trodAll_cons hA
  obtain ⟨rfl, rfl, rfl⟩ := trodAll_nil r0
  obtain rfl : args = #[v0] := by cases args; simp_all
  obtain ⟨rfl, rfl⟩ := trodVars_none hV
  obtain ⟨aA, ac, al, rfl, an, ar, af⟩ := open_events (hval 0 _ _ rfl rfl) h0
  refine (walk_any aA ac al W ar an).mono fun e W' ⟨he, hb⟩ => ?_
  subst he
  exact ⟨_, rfl, law_post (by kernel_rfl) (by kernel_rfl) rfl Try.underlying4 rfl rfl hW0 hb⟩
theorem laid_met (os : Os) : laidMet Try.prog Rows.seriesRoundsRow.laid (((World.holding Try.prog os ⟨#[], #[], []⟩)).forCall (fun _ _ => 0) ⟨#[], #[.slice none 0 0], []⟩).memory :=
  laidMet_of_run' 8 (by kernel_rfl) (by kernel_rfl)
theorem reads (os : Os) {H : Type} (enc : TypeId × Value → H) : ∃ places, DataW.whole enc Try.prog (((World.holding Try.prog os ⟨#[], #[], []⟩)).forCall (fun _ _ => 0) ⟨#[], #[.slice none 0 0], []⟩).memory Try.f3.params.toList Rows.seriesRoundsSpec.vars false #[(.slice none 0 0 : Value)].toList 8 = some ([.nil], [], places) :=
  ⟨[], by kernel_rfl⟩
set_option maxRecDepth 100000 in
theorem lifted (os : Os) (started : os.Started) (H : Type) (enc : TypeId × Value → H) (F : Stop.Interp) :
    ReturnsInHanded {} Try.checked os 3 .any ((OpenSpec.ofChange Rows.seriesRoundsSpec).preRow enc Try.prog Try.f3 Rows.seriesRoundsRow.domain false Rows.seriesRoundsRow.laid) (((OpenSpec.ofChange Rows.seriesRoundsSpec).at F).post enc Try.prog Try.f3 false true false false) := by
  obtain ⟨places, hx⟩ := reads os enc
  refine returnsInHanded_of_row (C := Try.checked) (s := (OpenSpec.ofChange Rows.seriesRoundsSpec)) own started (by kernel_rfl) Try.func3
    (witness_row_at (enc := enc) (C := Try.checked) false (World.holding Try.prog os ⟨#[], #[], []⟩) #[.slice none 0 0] rfl (by kernel_rfl) (by kernel_rfl) (by kernel_rfl)
      (OpenSpec.preRow_of_cond 8 hx (by kernel_rfl) (fun k hk => by cases hk) (by kernel_rfl) (laid_met os))) ?_
  intro W base args ds gs before hval hW _ _ _ hL _ _
  exact contract H enc W base args ds gs before hval hW hL
theorem said : Rows.SeriesRoundsSaid :=
  OpenClaim.holds_of_cond 3 Try.f3 rfl rfl rfl rfl rfl rfl rfl ⟨rfl, rfl, rfl, rfl, rfl⟩ rfl rfl rfl rfl rfl (by kernel_rfl) Try.func3 (by kernel_rfl)
    (of_decide_eq_true (by kernel_rfl)) (by unfold Func.isWrapper; first | (rw [if_pos (by decide +kernel)]; kernel_rfl) | (rw [if_neg (by decide +kernel)]; exact ⟨rfl, rfl⟩))
    (fun os started H enc _ F => by rw [OpenClaim.pre_eq_preRow]; exact lifted os started H enc F)
end Go.Proofs.Ytfcllbhkimjhkaa
