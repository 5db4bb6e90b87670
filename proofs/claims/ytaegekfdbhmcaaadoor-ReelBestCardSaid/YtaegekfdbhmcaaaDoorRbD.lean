/-
  The best cuts: the document's.
-/
import Derived.Test.YtaegekfdbhmcaaaDoorRbU
import Derived.Test.YtaegekfdbhmcaaaDoorRbR
import Derived.Test.YtaegekfdbhmcaaaDoorMix
import Derived.Deep.Cut
import Derived.Deep.RegionWith
namespace Go.Proofs.YtaegekfdbhmcaaaDoor
open Go.RowKit
set_option maxRecDepth 100000
set_option linter.unusedSimpArgs false
def intC (x : Int) : List Value := [.int .i64 x]
theorem lgInfoInt : (Tryd.prog.info? 3).map (fun i => (i.zero, i.size, i.bytes)) = some (some (.int .i64 0), 1, 8) := by kernel_rfl
theorem lgInfoRC : (Tryd.prog.info? 32).map (fun i => (i.zero, i.size, i.bytes)) = some (some (.agg #[.int .i64 0, .int .i64 0, .int .i64 0]), 3, 24) := by kernel_rfl
theorem wpList_app_rc {w : World} {ops : Array Oper} {rest : List Oper} {o : Oper} {a : Act} {Q : Exit → Act → World → Prop} (hgd : o.guard = none) (s x : Operand)
    (ho : o.op = .call { callee := .builtin .append, args := #[s, x], argTypes := #[24, 24] })
    (base : Nat) (u : Value) (L M : List Cut) (hown : OwnL w base 32 3 u Cut.cells L) (hs : a.eval s = u)
    (B : Nat) (A : Option Addr) (m c : Nat) (hm : m = M.length) (hx : a.eval x = .slice A m c) (hr : Rd w B A (M.flatMap Cut.cells)) (hn : L.length + M.length ≤ 1000000000) (hbase : base ≤ w.heap.size)
    (h : ∀ A' c' n' w', Hid (n' = L.length + M.length) → OwnL w' base 32 3 (.slice A' n' c') Cut.cells (L ++ M) → w.grownBy w' u.ownBlock → wpList Tryd.prog ops Q rest (a.put o.dst (.slice A' n' c')) w') : wpList Tryd.prog ops Q (o :: rest) a w := by
  subst hm
  obtain ⟨i0, hi0, hz0, hz1, hz2⟩ := info_parts lgInfoRC
  refine wpList_append_rd hgd s x 24 ho base 32 i0 _ 3 24 Tryd.underlying24 hi0 hz0 hz1 hz2 rfl (by decide) u L.length (L.flatMap Cut.cells) hs hown B A M.length c (M.flatMap Cut.cells) hx (length_flatMap_const _ _ Cut.cells_length _) hr (rd_none Cut.cells_length (by decide) hr) (lg_oneCellC M) (by unfold maxLen; omega) (by omega) hbase ?_
  intro v' w' hw hg _
  have ho' : OwnL w' base 32 3 v' Cut.cells (L ++ M) := OwnL.app (n := L.length + M.length) rfl hw
  obtain ⟨A', c', rfl⟩ := ho'.shape
  refine h A' c' _ w' (Lib.hid (by rw [List.length_append])) ?_ hg
  exact ho'
theorem rd_rc1 (w : World) (x : Cut) : Rd (w.alloc (.cells #[.int .i64 x.frm, .int .i64 x.to_, .int .i64 x.weight] 32)) (w.heap.size + 1) (some ⟨w.heap.size, 0, none⟩) ([x].flatMap Cut.cells) :=
  rd_new w _ 32 _ rfl _ (Nat.lt_succ_self _)
theorem marks_length (f : Int) (L : List Cut) (k : Nat) : (marks f L k).length = L.length := by unfold marks; simp
/-- What the document picks of the first k. -/
def pickT (f : Int) (L : List Cut) (k : Nat) : List Cut := (L.take k).filter (fun c => decide (markC f (heavL L) (heavL L).length c = 1))
theorem pickT_all (f : Int) (L : List Cut) : pickT f L L.length = bestL L f := by unfold pickT; rw [List.take_length, best_marks f]
theorem pickT_step (f : Int) (L : List Cut) (k : Nat) (hk : k < L.length) : pickT f L (k + 1) = if (marks f L (heavL L).length).getD k 0 = 1 then pickT f L k ++ [L[k]] else pickT f L k := by
  unfold pickT
  rw [List.take_succ_eq_append_getElem hk, List.filter_append]
  have h : (marks f L (heavL L).length).getD k 0 = markC f (heavL L) (heavL L).length L[k] := by
    unfold marks
    simp [List.getD, List.getElem?_map, List.getElem?_eq_getElem hk]
  rw [h]
  split
  · rename_i h; simp [h]
  · rename_i h; simp [h]
theorem getD_at {α : Type} (l : List α) (k : Nat) (d : α) (hk : k < l.length) : l.getD k d = l[k] := by simp [List.getD, List.getElem?_eq_getElem hk]
set_option maxHeartbeats 16000000 in
theorem rbest_any (A : Option Addr) (c : Nat) (L : List Cut) (f : Int) (w : World) (hn : L.length ≤ 1000) (hr : Rd w w.heap.size A (L.flatMap Cut.cells)) (hR : RightL (-1) L) (hf : 0 ≤ f) (hf2 : f ≤ 9223372036854775807) :
    Calls Tryd.prog 11 #[.slice A L.length c, .int .i64 f] w fun e w' => ∃ A' c', e = .returned (.slice A' (bestL L f).length c') ∧ OwnL w' w.heap.size 32 3 (.slice A' (bestL L f).length c') Cut.cells (bestL L f) ∧ Below w.heap.size w w' := by
  obtain ⟨hbd, hpw⟩ := rightL_pair L _ hR
  have HPW := Lib.hid hpw
  have HBD := Lib.hid hbd
  have HR := Lib.hid hr
  have HF := Lib.hid hf
  have hlen := (heavL_perm L).length_eq
  obtain ⟨m, hm⟩ : ∃ m, L.length = m := ⟨_, rfl⟩
  have HM := Lib.hid hm
  have HML : Hid ((heavL L).length = m) := Lib.hid (by rw [hlen, hm])
  rw [hm] at hn ⊢
  have HGZ : Hid (∀ k, 0 ≤ (greedy f ((heavL L).take k)).2 ∧ (greedy f ((heavL L).take k)).2 ≤ f) := Lib.hid (fun k =>
    let q := greedy_bd f hf ((heavL L).take k) (fun c hc => by have := hbd c ((heavL_perm L).mem_iff.1 (List.mem_of_mem_take hc)); omega)
    ⟨q.1, q.2.1⟩)
  clear hr hR hpw hbd hf hlen hm
  obtain ⟨ib, hib, hbz, hb1, hb2⟩ := info_parts lgInfoInt
  go_enter Tryd.func11, Tryd.ntmps11
  go_wp2_with (refine wpList_make_full _ rfl (.tmp 13) (.tmp 13) 59 rfl w.heap.size 3 ib _ 1 Tryd.underlying59 hib hbz hb1 .i64 .i64 _ _ m rfl rfl (by omega) (by omega) ?m1 ?m2 ?m3 ?_)
  case m1 => rw [hb2]; omega
  case m2 => simp [maxLen]; omega
  case m3 => exact Nat.le_refl _
  intro w1 hown1 hg1
  have hin : OwnL w1 w.heap.size 3 1 (.slice (some ⟨w.heap.size, 0, none⟩) m m) intC (marks f L 0) := by
    rw [marks_nil, HM.out]
    unfold OwnL
    rw [List.length_replicate]
    have e2 : (List.replicate m (0 : Int)).flatMap intC = List.replicate m (Value.int .i64 0) := by
      rw [List.flatMap_def, List.map_replicate]; simp [intC, List.flatten_replicate_singleton]
    rw [e2]
    simpa [toList_madeCells_one, Value.cells] using hown1
  have hbw1 : Below w.heap.size w w1 := (Below.refl _ _).grown hg1 (Nat.le_refl _) (by simp)
  have HI := Lib.hid hin
  clear hin hown1 hg1
  go_wp2
  go_loopw [6, 7] (fun z i wr => ∃ k : Nat, k ≤ m ∧ i = .int .i64 k ∧ z = .int .i64 (greedy f ((heavL L).take k)).2 ∧ Hid (OwnL wr w.heap.size 3 1 (.slice (some ⟨w.heap.size, 0, none⟩) m m) intC (marks f L k)) ∧ Hid (Below w.heap.size w wr)) (fun _ i _ => m - (intOf i).toNat)
  case atStart => exact ⟨0, Nat.zero_le _, rfl, rfl, HI, Lib.hid hbw1⟩
  case round =>
    clear HI hbw1
    obtain ⟨k, hk, rfl, rfl, HO, HB⟩ := hrel
    obtain ⟨wo, rfl⟩ : ∃ wo : World, wo = wr := ⟨_, rfl⟩
    by_cases hlt : k < m
    · obtain ⟨i0, hi0, hpi, hLi, hz0⟩ := pick_is f HPW.out k (by rw [HML.out]; exact hlt)
      obtain ⟨hms, hgs⟩ := marks_step f HPW.out k i0 (by rw [HML.out]; exact hlt) hi0 hLi
      have HMS := Lib.hid hms
      have HGS := Lib.hid hgs
      rw [HM.out] at hpi
      have HPI := Lib.hid hpi
      have hi0m : i0 < m := by have := HM.out; omega
      have hgz := HGZ.out k
      obtain ⟨T, hT⟩ : ∃ T, marks f L k = T := ⟨_, rfl⟩
      have HTL : Hid (T.length = m) := Lib.hid (by rw [← hT, marks_length, HM.out])
      obtain ⟨z, hz⟩ : ∃ z, (greedy f ((heavL L).take k)).2 = z := ⟨_, rfl⟩
      rw [hT] at HO HMS HPI
      rw [hz] at HMS HGS hgz ⊢
      obtain ⟨z0, z1⟩ := hgz
      clear hms hgs hpi hLi hz0 hT hz
      go_wp2_with fail
      go_loopw [8, 9] (fun p i wr => ∃ j : Nat, j ≤ m ∧ i = .int .i64 j ∧ p = .int .i64 (pickI L T j) ∧ Hid (OwnL wr w.heap.size 3 1 (.slice (some ⟨w.heap.size, 0, none⟩) m m) intC T) ∧ Hid (Below w.heap.size w wr)) (fun _ i _ => m - (intOf i).toNat)
      case atStart => exact ⟨0, Nat.zero_le _, rfl, rfl, HO, HB⟩
      case round =>
        clear HO HB
        obtain ⟨j, hj, rfl, rfl, HO, HB⟩ := hrel
        by_cases hjm : j < m
        · have hjL : j < L.length := by rw [HM.out]; exact hjm
          have hjT : j < T.length := by rw [HTL.out]; exact hjm
          have hstep : pickI L T (j + 1) = if T.getD j 0 = 0 ∧ (pickI L T j < 0 ∨ (L.getD (pickI L T j).toNat ⟨0, 0, 0⟩).weight < (L.getD j ⟨0, 0, 0⟩).weight) then (j : Int) else pickI L T j := rfl
          obtain ⟨q1, q2⟩ := pickI_bd L T j
          have ct := HO.out.one (h := fun x => Value.int .i64 x) (fun _ => rfl) (k := j) hjT
          obtain ⟨b, off, rfl, hB, hc⟩ := (HR.out.below HB.out (Nat.le_refl _)).at_ Cut.cells_length (by omega) hjL
          have c2 := hc 2 _ rfl
          rw [getD_at T j 0 hjT, getD_at L j ⟨0, 0, 0⟩ hjL] at hstep
          obtain ⟨t, ht⟩ : ∃ t, T[j] = t := ⟨_, rfl⟩
          obtain ⟨wt, hwt⟩ : ∃ wt, L[j].weight = wt := ⟨_, rfl⟩
          rw [ht] at ct hstep
          rw [hwt] at c2 hstep
          obtain ⟨p, hp⟩ : ∃ p, pickI L T j = p := ⟨_, rfl⟩
          rw [hp] at hstep q1 q2 ⊢
          have HST := Lib.hid hstep
          have hblw := Nat.lt_of_lt_of_le hB HB.out.size
          have hgl := HO.out.block_lt _ rfl
          have e1 : (0 : Int) ≤ (j : Int) := Int.natCast_nonneg _
          have e2 : (j : Int) < (m : Int) := by omega
          clear hc ht hwt hp hstep
          by_cases ht0 : t = 0
          · have g1 : (t == 0) = true := by simpa using ht0
            have HT0 := Lib.hid ht0
            clear ht0
            by_cases hp0 : p < 0
            · have g2 : decide (p < 0) = true := by simpa using hp0
              have HS2 : Hid (pickI L T (j + 1) = (j : Int)) := Lib.hid (by rw [HST.out, if_pos ⟨HT0.out, .inl hp0⟩])
              clear hp0
              go_wp2_with fail
              refine wp_region_mild (by kernel_rfl) (by kernel_rfl) ?_
              repeat (go_big_quiet_step (fail))
              refine wpQuiet_nil ?_
              intro w7 hw'
              obtain ⟨⟨wq, k7⟩, hw''⟩ := hw'
              subst hw''
              go_wp2
              go_roundw
              case rel => exact ⟨j + 1, by omega, by go_num, by rw [HS2.out], Lib.hid (HO.out.below k7), Lib.hid (bTrans HB.out k7)⟩
              case measure => simp [intOf]; omega
            · have g2 : decide (p < 0) = false := by simpa using hp0
              obtain ⟨pn, hpn⟩ := Int.eq_ofNat_of_zero_le (show 0 ≤ p by omega)
              subst hpn
              have hpL : pn < L.length := by have := HM.out; omega
              obtain ⟨b', off', hA', hB', hc'⟩ := (HR.out.below HB.out (Nat.le_refl _)).at_ Cut.cells_length (by omega) hpL
              simp only [Option.some.injEq, Addr.mk.injEq, and_true] at hA'
              obtain ⟨rfl, rfl⟩ := hA'
              have d2 := hc' 2 _ rfl
              rw [Int.toNat_natCast, getD_at L pn ⟨0, 0, 0⟩ hpL] at HST
              obtain ⟨wp, hwp⟩ : ∃ wp, L[pn].weight = wp := ⟨_, rfl⟩
              rw [hwp] at d2 HST
              have e3 : (0 : Int) ≤ (pn : Int) := Int.natCast_nonneg _
              have e4 : (pn : Int) < (m : Int) := by omega
              have HP0 := Lib.hid hp0
              clear hc' hwp hp0
              by_cases hw : wp < wt
              · have g3 : decide (wp < wt) = true := by simpa using hw
                have HS2 : Hid (pickI L T (j + 1) = (j : Int)) := Lib.hid (by rw [HST.out, if_pos ⟨HT0.out, .inr hw⟩])
                clear hw
                go_wp2_with fail
                refine wp_region_mild (by kernel_rfl) (by kernel_rfl) ?_
                repeat (go_big_quiet_step (fail))
                refine wpQuiet_nil ?_
                intro w7 hw'
                obtain ⟨⟨wq, k7⟩, hw''⟩ := hw'
                subst hw''
                go_wp2
                go_roundw
                case rel => exact ⟨j + 1, by omega, by go_num, by rw [HS2.out], Lib.hid (HO.out.below k7), Lib.hid (bTrans HB.out k7)⟩
                case measure => simp [intOf]; omega
              · have g3 : decide (wp < wt) = false := by simpa using hw
                have HS2 : Hid (pickI L T (j + 1) = (pn : Int)) := Lib.hid (by rw [HST.out, if_neg (fun h => by rcases h.2 with h | h; exact HP0.out h; exact hw h)])
                clear hw
                go_wp2_with fail
                refine wp_region_mild (by kernel_rfl) (by kernel_rfl) ?_
                repeat (go_big_quiet_step (fail))
                refine wpQuiet_nil ?_
                intro w7 hw'
                obtain ⟨⟨wq, k7⟩, hw''⟩ := hw'
                subst hw''
                go_wp2
                go_roundw
                case rel => exact ⟨j + 1, by omega, by go_num, by rw [HS2.out], Lib.hid (HO.out.below k7), Lib.hid (bTrans HB.out k7)⟩
                case measure => simp [intOf]; omega
          · have g1 : (t == 0) = false := by simpa using ht0
            have HS2 : Hid (pickI L T (j + 1) = p) := Lib.hid (by rw [HST.out, if_neg (fun h => ht0 h.1)])
            clear ht0
            go_wp2_with fail
            refine wp_region_mild (by kernel_rfl) (by kernel_rfl) ?_
            repeat (go_big_quiet_step (fail))
            refine wpQuiet_nil ?_
            intro w7 hw'
            obtain ⟨⟨wq, k7⟩, hw''⟩ := hw'
            subst hw''
            go_wp2
            go_roundw
            case rel => exact ⟨j + 1, by omega, by go_num, by rw [HS2.out], Lib.hid (HO.out.below k7), Lib.hid (bTrans HB.out k7)⟩
            case measure => simp [intOf]; omega
        · obtain rfl : j = m := by omega
          rw [HPI.out]
          obtain ⟨b, off, rfl, hB, hc⟩ := (HR.out.below HB.out (Nat.le_refl _)).at_ Cut.cells_length (by omega) hi0
          have hiT : i0 < T.length := by rw [HTL.out]; exact hi0m
          have ct := HO.out.one (h := fun x => Value.int .i64 x) (fun _ => rfl) (k := i0) hiT
          have cf := HO.out.frozen i0
          obtain ⟨t0, ht0⟩ : ∃ t0, T[i0] = t0 := ⟨_, rfl⟩
          rw [ht0] at ct
          have hgl := HO.out.block_lt _ rfl
          have HO2 := Lib.hid (HO.out.set1 (h := fun x => Value.int .i64 x) (fun _ => rfl) hiT 2)
          have HB2 := Lib.hid (bSet HB.out (p := ⟨w.heap.size, i0, none⟩) (Nat.le_refl _) (.int .i64 2))
          have e1 : (0 : Int) ≤ (i0 : Int) := Int.natCast_nonneg _
          have e2 : (i0 : Int) < (j : Int) := by omega
          obtain ⟨-, s2, s3, -, -⟩ := HBD.out L[i0] (List.getElem_mem hi0)
          have s1 : 0 ≤ L[i0].frm := by have := (HBD.out L[i0] (List.getElem_mem hi0)).1; omega
          obtain ⟨x, hx⟩ : ∃ x, L[i0] = x := ⟨_, rfl⟩
          rw [hx] at HMS HGS s1 s2 s3
          have hblw := Nat.lt_of_lt_of_le hB HB.out.size
          have hne : b ≠ w.heap.size := by omega
          have x0 := hc 0 _ rfl
          have x1 := hc 1 _ rfl
          rw [hx] at x0 x1
          rw [Nat.add_zero] at x0
          clear hc ht0 hx
          go_upto_region 13 with fail
          obtain ⟨W2, hW2⟩ : ∃ W2, wr.setCell ⟨w.heap.size, i0, none⟩ (.int .i64 2) = W2 := ⟨_, rfl⟩
          have y0 : W2.cell? ⟨b, off + i0 * 3, none⟩ = some (.int .i64 x.frm) := by rw [← hW2]; exact (((Below.refl w.heap.size wr).setCell (p := ⟨w.heap.size, i0, none⟩) (Nat.le_refl _) _).cell (p := ⟨b, off + i0 * 3, none⟩) hB).trans x0
          have y1 : W2.cell? ⟨b, off + i0 * 3 + 1, none⟩ = some (.int .i64 x.to_) := by rw [← hW2]; exact (((Below.refl w.heap.size wr).setCell (p := ⟨w.heap.size, i0, none⟩) (Nat.le_refl _) _).cell (p := ⟨b, off + i0 * 3 + 1, none⟩) hB).trans x1
          have hbw2 : b < W2.heap.size := by rw [← hW2, World.size_setCell]; exact hblw
          rw [hW2] at HO2 HB2 ⊢
          clear hW2 x0 x1 hblw ct cf hgl
          by_cases hle : x.to_ - x.frm ≤ z
          · have g1 : decide (x.to_ - x.frm ≤ z) = true := by simpa using hle
            have HM3 : Hid (marks f L (k + 1) = (T.set i0 2).set i0 1) := Lib.hid (by rw [HMS.out, if_pos hle, List.set_set])
            have HG3 : Hid ((greedy f ((heavL L).take (k + 1))).2 = z - (x.to_ - x.frm)) := Lib.hid (by rw [HGS.out, if_pos hle])
            clear hle
            refine wp_region_mild (by kernel_rfl) (by kernel_rfl) ?_
            repeat (go_big_quiet_step (fail))
            refine wpQuiet_nil ?_
            intro w7 hw'
            obtain ⟨⟨wq, k7⟩, hw''⟩ := hw'
            subst hw''
            have HO7 := Lib.hid (HO2.out.below k7)
            have hiT7 : i0 < (T.set i0 2).length := by rw [List.length_set]; exact hiT
            have ct := HO7.out.one (h := fun x => Value.int .i64 x) (fun _ => rfl) (k := i0) hiT7
            have cf := HO7.out.frozen i0
            obtain ⟨t0, ht0⟩ : ∃ t0, (T.set i0 2)[i0] = t0 := ⟨_, rfl⟩
            rw [ht0] at ct
            have hgl := HO7.out.block_lt _ rfl
            have HO8 := Lib.hid (HO7.out.set1 (h := fun x => Value.int .i64 x) (fun _ => rfl) hiT7 1)
            have HB8 := Lib.hid (bSet (bTrans HB2.out k7) (p := ⟨w.heap.size, i0, none⟩) (Nat.le_refl _) (.int .i64 1))
            have x0 : w7.cell? ⟨b, off + i0 * 3, none⟩ = some (.int .i64 x.frm) := (k7.cell (p := ⟨b, off + i0 * 3, none⟩) hbw2).trans y0
            have x1 : w7.cell? ⟨b, off + i0 * 3 + 1, none⟩ = some (.int .i64 x.to_) := (k7.cell (p := ⟨b, off + i0 * 3 + 1, none⟩) hbw2).trans y1
            have hblw := Nat.lt_of_lt_of_le hbw2 k7.size
            clear ht0 y0 y1 hbw2
            go_upto_region 15 with fail
            obtain ⟨W8, hW8⟩ : ∃ W8, w7.setCell ⟨w.heap.size, i0, none⟩ (.int .i64 1) = W8 := ⟨_, rfl⟩
            have y0 : W8.cell? ⟨b, off + i0 * 3, none⟩ = some (.int .i64 x.frm) := by rw [← hW8]; exact (((Below.refl w.heap.size w7).setCell (p := ⟨w.heap.size, i0, none⟩) (Nat.le_refl _) _).cell (p := ⟨b, off + i0 * 3, none⟩) hB).trans x0
            have y1 : W8.cell? ⟨b, off + i0 * 3 + 1, none⟩ = some (.int .i64 x.to_) := by rw [← hW8]; exact (((Below.refl w.heap.size w7).setCell (p := ⟨w.heap.size, i0, none⟩) (Nat.le_refl _) _).cell (p := ⟨b, off + i0 * 3 + 1, none⟩) hB).trans x1
            have hbw8 : b < W8.heap.size := by rw [← hW8, World.size_setCell]; exact hblw
            rw [hW8] at HO8 HB8 ⊢
            clear hW8 x0 x1 hblw ct cf hgl
            refine wp_region_mild (by kernel_rfl) (by kernel_rfl) ?_
            repeat (go_big_quiet_step (fail))
            refine wpQuiet_nil ?_
            intro w9 hw'
            obtain ⟨⟨wq, k9⟩, hw''⟩ := hw'
            subst hw''
            go_wp2
            go_roundw
            case rel => exact ⟨k + 1, by omega, by go_num, by rw [HG3.out], by rw [HM3.out]; exact Lib.hid (HO8.out.below k9), Lib.hid (bTrans HB8.out k9)⟩
            case measure => simp [intOf]; omega
          · have g1 : decide (x.to_ - x.frm ≤ z) = false := by simpa using hle
            have HM3 : Hid (marks f L (k + 1) = T.set i0 2) := Lib.hid (by rw [HMS.out, if_neg hle])
            have HG3 : Hid ((greedy f ((heavL L).take (k + 1))).2 = z) := Lib.hid (by rw [HGS.out, if_neg hle])
            clear hle
            refine wp_region_mild (by kernel_rfl) (by kernel_rfl) ?_
            repeat (go_big_quiet_step (fail))
            refine wpQuiet_nil ?_
            intro w7 hw'
            obtain ⟨⟨wq, k7⟩, hw''⟩ := hw'
            subst hw''
            go_wp2
            go_roundw
            case rel => exact ⟨k + 1, by omega, by go_num, by rw [HG3.out], by rw [HM3.out]; exact Lib.hid (HO2.out.below k7), Lib.hid (bTrans HB2.out k7)⟩
            case measure => simp [intOf]; omega
    · have hkm : k = (heavL L).length := by have := HML.out; omega
      obtain ⟨T, hT⟩ : ∃ T, marks f L k = T := ⟨_, rfl⟩
      have HTE : Hid (marks f L (heavL L).length = T) := Lib.hid (by rw [← hkm]; exact hT)
      have HTL : Hid (T.length = m) := Lib.hid (by rw [← hT, marks_length, HM.out])
      rw [hT] at HO
      clear hT hkm
      have HPS := Lib.hid (fun j hj => pickT_step f L j hj)
      rw [HTE.out] at HPS
      go_wp2_with fail
      go_loopw [10, 11] (fun out i wr => ∃ j : Nat, j ≤ m ∧ i = .int .i64 j ∧ ∃ A' n' c', out = .slice A' n' c' ∧ Hid (OwnL wr (w.heap.size + 1) 32 3 (.slice A' n' c') Cut.cells (pickT f L j)) ∧ Hid (OwnL wr w.heap.size 3 1 (.slice (some ⟨w.heap.size, 0, none⟩) m m) intC T) ∧ Hid (Below w.heap.size w wr)) (fun _ i _ => m - (intOf i).toNat)
      case atStart =>
        have hgl : w.heap.size < wo.heap.size := HO.out.block_lt _ rfl
        exact ⟨0, Nat.zero_le _, rfl, some ⟨wo.heap.size, 0, none⟩, 0, 0, rfl, Lib.hid (OwnL.lit [] #[] (by omega) (by simp) Cut.cells_length rfl rfl rfl), Lib.hid (HO.out.alloc _), Lib.hid (bAlloc HB.out _)⟩
      case round =>
        clear HO HB
        obtain ⟨j, hj, rfl, A4, n4, c4, rfl, HU, HO, HB⟩ := hrel
        by_cases hjm : j < m
        · have hjL : j < L.length := by rw [HM.out]; exact hjm
          have hjT : j < T.length := by rw [HTL.out]; exact hjm
          have hstep := HPS.out j hjL
          rw [getD_at T j 0 hjT] at hstep
          have ct := HO.out.one (h := fun x => Value.int .i64 x) (fun _ => rfl) (k := j) hjT
          obtain ⟨b, off, rfl, hB, hc⟩ := (HR.out.below HB.out (Nat.le_refl _)).at_ Cut.cells_length (by omega) hjL
          have x0 := hc 0 _ rfl
          have x1 := hc 1 _ rfl
          have x2 := hc 2 _ rfl
          rw [Nat.add_zero] at x0
          obtain ⟨t, ht⟩ : ∃ t, T[j] = t := ⟨_, rfl⟩
          obtain ⟨x, hx⟩ : ∃ x, L[j] = x := ⟨_, rfl⟩
          rw [ht] at ct hstep
          rw [hx] at x0 x1 x2 hstep
          have HST := Lib.hid hstep
          have hpl : (pickT f L j).length ≤ j := by
            unfold pickT
            refine Nat.le_trans (List.length_filter_le _ _) ?_
            rw [List.length_take]; omega
          have HN4 := Lib.hid HU.out.len
          obtain ⟨P, hP⟩ : ∃ P, pickT f L j = P := ⟨_, rfl⟩
          rw [hP] at HU HST hpl HN4
          have hblw := Nat.lt_of_lt_of_le hB HB.out.size
          have hgl : w.heap.size < wr.heap.size := HO.out.block_lt _ rfl
          have e1 : (0 : Int) ≤ (j : Int) := Int.natCast_nonneg _
          have e2 : (j : Int) < (m : Int) := by omega
          clear hc ht hx hP hstep
          by_cases ht1 : t = 1
          · have g1 : (t == 1) = true := by simpa using ht1
            have HS2 : Hid (pickT f L (j + 1) = P ++ [x]) := Lib.hid (by rw [HST.out, if_pos ht1])
            clear ht1
            go_wp2_with (first
              | (at_builtin; refine wpList_app_rc rfl (.tmp 95) (.tmp 100) rfl (w.heap.size + 1) _ P [x] (HU.out.alloc _) rfl _ _ 1 1 rfl rfl (rd_rc1 _ x) (by simp only [List.length_cons, List.length_nil]; omega) (by simp; omega) ?_
                 intro A8 c8 n8 w8 hn8 ho8 hg8
                 have HU8 := Lib.hid ho8
                 have HO8 := Lib.hid ((HO.out.alloc _).kept hg8 (.inr (fun e => by have : w.heap.size + 1 ≤ w.heap.size := HU.out.base_le _ e.symm; omega)))
                 have HG8 := Lib.hid hg8
                 clear ho8 hg8))
            go_roundw
            case rel =>
              refine ⟨j + 1, by omega, by go_num, A8, n8, c8, rfl, by rw [HS2.out]; exact HU8, HO8, Lib.hid ?_⟩
              exact (bAlloc HB.out _).grown HG8.out (by have := HB.out.size; simp; omega) (fun q e => by have := HU.out.base_le q e; omega)
            case measure => simp [intOf]; omega
          · have g1 : (t == 1) = false := by simpa using ht1
            have HS2 : Hid (pickT f L (j + 1) = P) := Lib.hid (by rw [HST.out, if_neg ht1])
            clear ht1
            go_wp2
            go_roundw
            case rel => exact ⟨j + 1, by omega, by go_num, A4, n4, c4, rfl, by rw [HS2.out]; exact HU, HO, HB⟩
            case measure => simp [intOf]; omega
        · obtain rfl : j = m := by omega
          have hpa := pickT_all f L
          rw [HM.out] at hpa
          have hu := HU.out
          rw [hpa] at hu
          have HU2 := Lib.hid hu
          have HN := Lib.hid hu.len
          clear hpa hu
          go_wp2
          go_ret
          have hn := HN.out
          have hu := HU2.out
          rw [hn] at hu ⊢
          exact ⟨A4, c4, rfl, hu.more (by omega), HB.out⟩
end Go.Proofs.YtaegekfdbhmcaaaDoor
