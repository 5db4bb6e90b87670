/-
  A line's move: the document's.
-/
import Derived.Test.YtlonefjbcooaaaaDoorScMd
namespace Go.Proofs.YtlonefjbcooaaaaDoor
open Go.RowKit
set_option maxRecDepth 100000
set_option linter.unusedSimpArgs false
/-- What the document's Numbers hands back, told. -/
def numTold (w : World) (r : Option (List Nat)) : Told := ⟨fun v => ∃ A n c, v = .tuple #[.slice A n c, .bool r.isSome], fun v W => ∀ A n c b, v = .tuple #[.slice A n c, .bool b] → ∀ ns, r = some ns → OwnL W w.heap.size 3 1 (.slice A n c) iF ns⟩
theorem numTold_st {w : World} {r : Option (List Nat)} : ∀ v W U, (numTold w r).R v W → Grown W U → (numTold w r).R v U := fun _ _ _ h k A n c b e ns hr => (h A n c b e ns hr).below k
theorem num_makes (s : ByteArray) (hs : s.size ≤ 1000000) (word : List UInt8) (cnt : Nat) (hc : cnt ≤ 100) (w W : World) (hW : Grown w W) :
    Calls Tryd.prog 38 #[.string s, .string ⟨word.toArray⟩, .int .i64 cnt] W fun e w' => ∃ v, e = .returned v ∧ ((numTold w (lineO (cutL 32 s.data.toList) word cnt)).S v ∧ (numTold w (lineO (cutL 32 s.data.toList) word cnt)).R v w') ∧ Grown W w' := by
  refine (rnumbers_any s word cnt W hs hc).mono ?_
  rintro e w' ⟨A, n, c, b, rfl, hb, hno, hyes⟩
  rw [lineO_eq] at hno hyes
  refine ⟨_, rfl, ⟨?_, ?_⟩, hb⟩
  · cases hX : lineO (cutL 32 s.data.toList) word cnt with
    | none => obtain rfl := hno hX; exact ⟨A, n, c, rfl⟩
    | some ns => obtain ⟨rfl, -⟩ := hyes ns hX; exact ⟨A, n, c, rfl⟩
  · intro A' n' c' b' e ns hr
    cases e
    exact (hyes ns hr).2.more hW.size
set_option maxHeartbeats 8000000 in
theorem rmove_any (s : ByteArray) (w : World) (hs : s.size ≤ 1000000) :
    Calls Tryd.prog 20 #[.string s] w (MvPost (cutL 32 s.data.toList) w) := by
  have HN := Lib.hid (num_makes s hs)
  obtain ⟨ws, hws⟩ : ∃ ws, cutL 32 s.data.toList = ws := ⟨_, rfl⟩
  rw [hws] at HN ⊢
  clear hws
  go_enter Tryd.func20, Tryd.ntmps20
  go_upto_region 3 with fail
  refine named3 (F := fun W => Code.wp _ _ _ _ W) ?_
  intro w1 k0 k1 k2 hb1 hz1
  have K0 := Lib.hid k0
  have K1 := Lib.hid k1
  have K2 := Lib.hid k2
  have HB1 := Lib.hid hb1
  clear k0 k1 k2 hb1
  go_wp2_with fail
  go_loopw [6] (fun i wr => ∃ k : Nat, k ≤ 6 ∧ i = .int .i64 k ∧ Hid (∀ j, j < k → lineO ws (nmK j) (ctK j) = none) ∧ Hid (Below w1.heap.size w1 wr)) (fun i _ => 6 - (intOf i).toNat)
  case atStart => exact ⟨0, Nat.zero_le _, rfl, Lib.hid (fun j hj => absurd hj (Nat.not_lt_zero _)), Lib.hid (Below.refl _ _)⟩
  case round =>
    obtain ⟨k, hk, rfl, HJ, HB⟩ := hrel
    by_cases hlt : k < 6
    · have hK1 := K1.out.on HB.out
      have hK2 := K2.out.on HB.out
      have c1 : wr.cell? ⟨w.heap.size + 1, k, none⟩ = some (.string ⟨(nmK k).toArray⟩) := by
        rw [hK1.cell]
        rcases k with _ | _ | _ | _ | _ | _ | k <;> first | rfl | omega
      have c2 : wr.cell? ⟨w.heap.size + 1 + 1, k, none⟩ = some (.int .i64 (ctK k : Nat)) := by
        rw [hK2.cell]
        rcases k with _ | _ | _ | _ | _ | _ | k <;> first | rfl | omega
      have l1 := hK1.lt
      have l2 := hK2.lt
      have hc9 : ctK k ≤ 100 := by rcases k with _ | _ | _ | _ | _ | _ | k <;> first | decide | omega
      have HM := Lib.hid (fun W hW => HN.out (nmK k) (ctK k) hc9 wr W hW)
      clear hK1 hK2 hc9
      have e0 : (0 : Int) ≤ (k : Int) := Int.natCast_nonneg _
      have e1 : (k : Int) < 6 := by omega
      go_upto_region 6 with fail
      have hKp := Keeps.base wr
      refine wp_region_mixed [.pure, .pure, .pure, .pure, .held, .pure, .pure, .pure, .held, .make, .pure, .pure, .pure, .pure, .pure] (fun _ => numTold wr (lineO ws (nmK k) (ctK k))) (by kernel_rfl) (by kernel_rfl) ?_
      repeat (first | (refine mix_pure rfl rfl rfl (fun K hK => ?_); go_big_quiet_op; refine hK _ ?_; clear hK K) | (refine mix_held rfl rfl rfl (by assumption) (fun K hK => ?_); go_big_quiet_op; refine hK _ ?_; clear hK K))
      refine mix_make rfl rfl (by assumption) numTold_st (fun W hW => ?_) ?_
      · have HS2 := Lib.hid (HM.out W hW)
        go_simp
        exact HS2.out
      rintro v ⟨Av, nv, cv, rfl⟩ hKp2
      simp only [Act.put, List.setIfInBounds_toArray, List.set_cons_zero, List.set_cons_succ]
      repeat (first | (refine mix_pure rfl rfl rfl (fun K hK => ?_); go_big_quiet_op; refine hK _ ?_; clear hK K) | (refine mix_held rfl rfl rfl (by assumption) (fun K hK => ?_); go_big_quiet_op; refine hK _ ?_; clear hK K))
      refine mix_nil ?_
      rintro W ⟨hgW, hRW⟩
      have hgW : Below wr.heap.size wr W := hgW
      have HB2 := Lib.hid (bTrans HB.out hgW)
      clear hKp hKp2 HM c1 c2 l1 l2
      cases hX : lineO ws (nmK k) (ctK k) with
      | none =>
        rw [hX] at hRW
        clear hRW hgW
        have HJ2 : Hid (∀ j, j < k + 1 → lineO ws (nmK j) (ctK j) = none) := Lib.hid (fun j hj => by
          by_cases h : j < k
          · exact HJ.out j h
          · obtain rfl : j = k := by omega
            exact hX)
        go_wp2_with fail
        go_roundw
        case rel => exact ⟨k + 1, by omega, by go_num, HJ2, HB2⟩
        case measure => simp [intOf]; omega
      | some ns =>
        have ho := hRW Av nv cv _ rfl ns hX
        obtain ⟨hln, hle⟩ := lineO_len hX
        have HF := Lib.hid (findM_hit hlt HJ.out hX)
        have HK0 := Lib.hid (K0.out.on HB2.out)
        have hnv := ho.len
        have hwrs := HB.out.size
        clear hRW hgW hX HJ K0 K1 K2 HB HN
        rcases k with _ | _ | _ | _ | _ | _ | k
        · obtain ⟨n0, n1, rfl⟩ : ∃ n0 n1, ns = [n0, n1] := (match ns, hln with | [n0, n1], _ => ⟨n0, n1, rfl⟩)
          have hn0 := hle n0 (by simp)
          have hn1 := hle n1 (by simp)
          simp only [List.length_cons, List.length_nil, Nat.zero_add, Nat.reduceAdd] at hnv
          subst hnv
          obtain ⟨gn, rfl, -, hgn0, hgn⟩ := ho.formA (by simp)
          have m0 := ho.one (h := fun z : Nat => Value.int .i64 (z : Int)) (fun _ => rfl) (k := 0) (by simp)
          have m1 := ho.one (h := fun z : Nat => Value.int .i64 (z : Int)) (fun _ => rfl) (k := 1) (by simp)
          simp only [List.getElem_cons_zero, List.getElem_cons_succ] at m0 m1
          clear ho hle hln
          go_wp2_with (first
            | (refine wpList_built rfl 40 [(0, .tmp 32), (1, .tmp 35)] rfl #[.int .i64 1, .int .i64 (n0 : Nat), .int .i64 0, .int .i64 0, .int .u8 0, .int .u8 0] [(0, .int .i64 1), (1, .int .i64 (n0 : Nat))] ?_ (built_m1 1 (n0 : Nat)) ?_; (case' hv => rfl))
            | (refine wpList_store_mid rfl 40 (.tmp 9) (.tmp 36) rfl W.heap.size 0 #[.int .i64 1, .int .i64 (n0 : Nat), .int .i64 0, .int .i64 0, .int .u8 0, .int .u8 0] rfl rfl (there_new _ _ _ rfl) mvInfo (by simp [Value.oneCell']) ?_
               refine named_put (F := fun W => wpList _ _ _ _ _ W) rfl ?_
               intro w4 k4 hb4 hz4
               have m14 := (hb4.cell (p := ⟨gn, 1, none⟩) hgn).trans m1
               have k45 := k4.cell 5
               have f45 := k4.frozen 5
               have K4 := Lib.hid k4
               have HBW := Lib.hid hb4
               have hgn4 : gn < w4.heap.size := by omega
               have hww : w.heap.size < W.heap.size := HK0.out.lt
               clear k4 hb4))
          obtain ⟨CL, hCL⟩ : ∃ CL : List Value, [.int .i64 1, .int .i64 (n0 : Nat), .int .i64 0, .int .i64 0, .int .u8 0, .int .u8 ((n1 : Int) % 256)] = CL := ⟨_, rfl⟩
          have hCA : mvC 0 [n0, n1] = CL := by rw [← hCL]; simp [mvC]
          have hC1 : CL.toArray.all (·.oneCell') = true := by rw [← hCL]; simp [Value.oneCell']
          have hC6 : CL.length = 6 := by rw [← hCL]; rfl
          have hC6a : 6 = CL.toArray.size := by rw [List.size_toArray, hC6]
          have HMV : Hid (mvO ws = if (decide ((n1 : Int) < 256)) = true then some CL else none) := Lib.hid (by rw [mvO_of HF.out, hCA]; congr 1; simp [okM]; omega)
          have k5 : Blk (w4.setCell ⟨W.heap.size, 5, none⟩ (.int .u8 ((n1 : Int) % 256))) W.heap.size 40 CL.toArray := by rw [← hCL]; exact K4.out.set 5 _
          have bW5 := Below.setCell (p := ⟨W.heap.size, 5, none⟩) HBW.out (Nat.le_refl _) (.int .u8 ((n1 : Int) % 256))
          obtain ⟨w5, hw5⟩ : ∃ w5, w4.setCell ⟨W.heap.size, 5, none⟩ (.int .u8 ((n1 : Int) % 256)) = w5 := ⟨_, rfl⟩
          rw [hw5] at k5 bW5 ⊢
          have HB5 := Lib.hid (bTrans HB2.out bW5)
          have HK5 := Lib.hid (HK0.out.on bW5)
          have my := (bW5.cell (p := ⟨gn, 1, none⟩) hgn).trans m1
          have hg5 : gn < w5.heap.size := Nat.lt_of_lt_of_le hgn bW5.size
          have hl5 := k5.lt
          have hr5 : w5.rangeAt W.heap.size 0 CL := fun j v hv => by rw [Nat.zero_add, k5.cell]; simpa using hv
          have HQ5 := Lib.hid k5
          clear hw5 k5 bW5 hr5 K4 HBW m14 k45 f45 m0 m1
          have hwW : w.heap.size < W.heap.size := hww
          letI : GRel := relG w.heap.size 40 CL.toArray
          refine Z.wp_region_mixedY [.held, .pure, .pure, .held, .pure, .make, .pure] (fun _ => ⟨fun v => v = undef, fun _ V => Blk V w.heap.size 40 CL.toArray⟩) (by kernel_rfl) (by kernel_rfl) ?_
          refine Z.mixY_load rfl rfl 40 (.tmp 9) rfl W.heap.size 0 rfl CL _ (fun V hV => fun j v hv => by rw [Nat.zero_add, (RelX.blk hV HQ5.out (by omega)).cell]; simpa using hv) Tryd.underlying40 rfl (by rw [hC6]; exact mvInfo) ?_
          simp only [Act.put, List.setIfInBounds_toArray, List.set_cons_zero, List.set_cons_succ]
          repeat (refine Z.mixY_pure rfl rfl rfl (fun K hK => ?_); go_big_quiet_op; refine hK _ ?_; clear hK K)
          refine Z.mixY_hrun (.int .i64 (n1 : Nat)) rfl rfl (fun V hV => by have q := (World.cell?_of_block (a := ⟨gn, 1, none⟩) (RelX.block hV gn hg5 (by omega))).trans my; simp [RunsTo, execOp, go_sem, q]) ?_
          simp only [Act.put, List.setIfInBounds_toArray, List.set_cons_zero, List.set_cons_succ]
          repeat (refine Z.mixY_pure rfl rfl rfl (fun K hK => ?_); go_big_quiet_op; refine hK _ ?_; clear hK K)
          refine Z.mixY_make rfl rfl (fun v V U h hg => RelX.own hg h) (fun V hV _ => goes_rel (.tmp 2) (.tmp 44) rfl rfl rfl HK5.out hC6a hV (by rw [List.size_toArray, hC6]; exact mvInfo) hC1) ?_
          rintro _ rfl
          simp only [Act.put, List.setIfInBounds_toArray, List.set_cons_zero, List.set_cons_succ]
          repeat (refine Z.mixY_pure rfl rfl rfl (fun K hK => ?_); go_big_quiet_op; refine hK _ ?_; clear hK K)
          refine Z.mixY_nil ?_
          intro V' hV'
          obtain ⟨hrel5, hF5⟩ := hV'
          have k6 : Blk V' w.heap.size 40 CL.toArray := (hF5 5).2 rfl
          have hB6 := RelX.below hrel5 (bTrans HB1.out HB5.out) (Nat.le_refl _) (by omega)
          have HRES := Lib.hid (mv_load k6 hC6)
          have HB6 := Lib.hid hB6
          clear hrel5 hF5 k6 hB6
          go_wp2
          exact bodyPost_ret (results_sc (a := 2) (t := 40) (x := 3) rfl rfl HRES.out) rfl (mvPost CL.toArray (decide ((n1 : Int) < 256)) rfl (by rw [List.size_toArray, hC6]) hC1 (by rw [HMV.out]; cases (decide ((n1 : Int) < 256)) <;> rfl) (fun l e => by rw [HMV.out] at e; split at e <;> cases e; rfl) HB6.out)
        · obtain ⟨n0, n1, rfl⟩ : ∃ n0 n1, ns = [n0, n1] := (match ns, hln with | [n0, n1], _ => ⟨n0, n1, rfl⟩)
          have hn0 := hle n0 (by simp)
          have hn1 := hle n1 (by simp)
          simp only [List.length_cons, List.length_nil, Nat.zero_add, Nat.reduceAdd] at hnv
          subst hnv
          obtain ⟨gn, rfl, -, hgn0, hgn⟩ := ho.formA (by simp)
          have m0 := ho.one (h := fun z : Nat => Value.int .i64 (z : Int)) (fun _ => rfl) (k := 0) (by simp)
          have m1 := ho.one (h := fun z : Nat => Value.int .i64 (z : Int)) (fun _ => rfl) (k := 1) (by simp)
          simp only [List.getElem_cons_zero, List.getElem_cons_succ] at m0 m1
          clear ho hle hln
          go_upto_region 18 with (first
            | (refine wpList_built rfl 40 [(0, .tmp 32), (1, .tmp 35)] rfl #[.int .i64 2, .int .i64 (n0 : Nat), .int .i64 0, .int .i64 0, .int .u8 0, .int .u8 0] [(0, .int .i64 2), (1, .int .i64 (n0 : Nat))] ?_ (built_m1 2 (n0 : Nat)) ?_; (case' hv => rfl))
            | (refine wpList_store_mid rfl 40 (.tmp 9) (.tmp 36) rfl W.heap.size 0 #[.int .i64 2, .int .i64 (n0 : Nat), .int .i64 0, .int .i64 0, .int .u8 0, .int .u8 0] rfl rfl (there_new _ _ _ rfl) mvInfo (by simp [Value.oneCell']) ?_
               refine named_put (F := fun W => wpList _ _ _ _ _ W) rfl ?_
               intro w4 k4 hb4 hz4
               have m14 := (hb4.cell (p := ⟨gn, 1, none⟩) hgn).trans m1
               have k42 := k4.cell 2
               have f42 := k4.frozen 2
               have K4 := Lib.hid k4
               have HBW := Lib.hid hb4
               have hgn4 : gn < w4.heap.size := by omega
               have hww : w.heap.size < W.heap.size := HK0.out.lt
               clear k4 hb4))
          obtain ⟨CL, hCL⟩ : ∃ CL : List Value, [.int .i64 2, .int .i64 (n0 : Nat), .int .i64 (n1 : Nat), .int .i64 0, .int .u8 0, .int .u8 0] = CL := ⟨_, rfl⟩
          have hCA : mvC 1 [n0, n1] = CL := by rw [← hCL]; simp [mvC]
          have hC1 : CL.toArray.all (·.oneCell') = true := by rw [← hCL]; simp [Value.oneCell']
          have hC6 : CL.length = 6 := by rw [← hCL]; rfl
          have HMV : Hid (mvO ws = some CL) := Lib.hid (by rw [mvO_of HF.out, hCA]; simp [okM])
          have k5 : Blk (w4.setCell ⟨W.heap.size, 2, none⟩ (.int .i64 (n1 : Nat))) W.heap.size 40 CL.toArray := by rw [← hCL]; exact K4.out.set 2 _
          have bW5 := Below.setCell (p := ⟨W.heap.size, 2, none⟩) HBW.out (Nat.le_refl _) (.int .i64 (n1 : Nat))
          obtain ⟨w5, hw5⟩ : ∃ w5, w4.setCell ⟨W.heap.size, 2, none⟩ (.int .i64 (n1 : Nat)) = w5 := ⟨_, rfl⟩
          rw [hw5] at k5 bW5 ⊢
          clear hw5 K4 HBW m14 k42 f42
          have HB5 := Lib.hid (bTrans HB1.out (bTrans HB2.out bW5))
          have HK5 := Lib.hid (HK0.out.on bW5)
          have hl5 := k5.lt
          have hr5 : w5.rangeAt W.heap.size 0 CL := fun j v hv => by rw [Nat.zero_add, k5.cell]; simpa using hv
          have HR5 := Lib.hid hr5
          obtain ⟨wx, hwx, hth, hres, -, hgx⟩ := mv_put (C := CL.toArray) HK5.out rfl (by rw [List.size_toArray, hC6])
          have HTH := Lib.hid hth
          have HRES := Lib.hid hres
          have HWX := Lib.hid hwx
          have HGX := Lib.hid hgx
          clear hwx hth hres hgx k5 bW5 hr5
          go_wp2_with (first
            | (refine wpList_load_mid rfl 40 (.tmp 9) rfl W.heap.size 0 rfl CL _ HR5.out Tryd.underlying40 rfl (by rw [hC6]; exact mvInfo) ?_)
            | (refine wpList_store_mid rfl 40 (.tmp 2) (.tmp 71) rfl w.heap.size 0 CL.toArray rfl rfl HTH.out (by rw [List.size_toArray, hC6]; exact mvInfo) hC1 ?_; rw [HWX.out]))
          exact bodyPost_ret (results_sc (a := 2) (t := 40) (x := 3) rfl rfl (HRES.out _ rfl)) rfl (mvPost CL.toArray true rfl (by rw [List.size_toArray, hC6]) hC1 (by rw [HMV.out]; rfl) (fun l e => by rw [HMV.out] at e; cases e; rfl) (HB5.out.grown HGX.out HB5.out.size (fun k e => by cases e; exact Nat.le_refl _)))
        · obtain ⟨n0, n1, rfl⟩ : ∃ n0 n1, ns = [n0, n1] := (match ns, hln with | [n0, n1], _ => ⟨n0, n1, rfl⟩)
          have hn0 := hle n0 (by simp)
          have hn1 := hle n1 (by simp)
          simp only [List.length_cons, List.length_nil, Nat.zero_add, Nat.reduceAdd] at hnv
          subst hnv
          obtain ⟨gn, rfl, -, hgn0, hgn⟩ := ho.formA (by simp)
          have m0 := ho.one (h := fun z : Nat => Value.int .i64 (z : Int)) (fun _ => rfl) (k := 0) (by simp)
          have m1 := ho.one (h := fun z : Nat => Value.int .i64 (z : Int)) (fun _ => rfl) (k := 1) (by simp)
          simp only [List.getElem_cons_zero, List.getElem_cons_succ] at m0 m1
          clear ho hle hln
          go_upto_region 18 with (first
            | (refine wpList_built rfl 40 [(0, .tmp 32), (1, .tmp 35)] rfl #[.int .i64 3, .int .i64 (n0 : Nat), .int .i64 0, .int .i64 0, .int .u8 0, .int .u8 0] [(0, .int .i64 3), (1, .int .i64 (n0 : Nat))] ?_ (built_m1 3 (n0 : Nat)) ?_; (case' hv => rfl))
            | (refine wpList_store_mid rfl 40 (.tmp 9) (.tmp 36) rfl W.heap.size 0 #[.int .i64 3, .int .i64 (n0 : Nat), .int .i64 0, .int .i64 0, .int .u8 0, .int .u8 0] rfl rfl (there_new _ _ _ rfl) mvInfo (by simp [Value.oneCell']) ?_
               refine named_put (F := fun W => wpList _ _ _ _ _ W) rfl ?_
               intro w4 k4 hb4 hz4
               have m14 := (hb4.cell (p := ⟨gn, 1, none⟩) hgn).trans m1
               have k42 := k4.cell 2
               have f42 := k4.frozen 2
               have K4 := Lib.hid k4
               have HBW := Lib.hid hb4
               have hgn4 : gn < w4.heap.size := by omega
               have hww : w.heap.size < W.heap.size := HK0.out.lt
               clear k4 hb4))
          obtain ⟨CL, hCL⟩ : ∃ CL : List Value, [.int .i64 3, .int .i64 (n0 : Nat), .int .i64 (n1 : Nat), .int .i64 0, .int .u8 0, .int .u8 0] = CL := ⟨_, rfl⟩
          have hCA : mvC 2 [n0, n1] = CL := by rw [← hCL]; simp [mvC]
          have hC1 : CL.toArray.all (·.oneCell') = true := by rw [← hCL]; simp [Value.oneCell']
          have hC6 : CL.length = 6 := by rw [← hCL]; rfl
          have HMV : Hid (mvO ws = some CL) := Lib.hid (by rw [mvO_of HF.out, hCA]; simp [okM])
          have k5 : Blk (w4.setCell ⟨W.heap.size, 2, none⟩ (.int .i64 (n1 : Nat))) W.heap.size 40 CL.toArray := by rw [← hCL]; exact K4.out.set 2 _
          have bW5 := Below.setCell (p := ⟨W.heap.size, 2, none⟩) HBW.out (Nat.le_refl _) (.int .i64 (n1 : Nat))
          obtain ⟨w5, hw5⟩ : ∃ w5, w4.setCell ⟨W.heap.size, 2, none⟩ (.int .i64 (n1 : Nat)) = w5 := ⟨_, rfl⟩
          rw [hw5] at k5 bW5 ⊢
          clear hw5 K4 HBW m14 k42 f42
          have HB5 := Lib.hid (bTrans HB1.out (bTrans HB2.out bW5))
          have HK5 := Lib.hid (HK0.out.on bW5)
          have hl5 := k5.lt
          have hr5 : w5.rangeAt W.heap.size 0 CL := fun j v hv => by rw [Nat.zero_add, k5.cell]; simpa using hv
          have HR5 := Lib.hid hr5
          obtain ⟨wx, hwx, hth, hres, -, hgx⟩ := mv_put (C := CL.toArray) HK5.out rfl (by rw [List.size_toArray, hC6])
          have HTH := Lib.hid hth
          have HRES := Lib.hid hres
          have HWX := Lib.hid hwx
          have HGX := Lib.hid hgx
          clear hwx hth hres hgx k5 bW5 hr5
          go_wp2_with (first
            | (refine wpList_load_mid rfl 40 (.tmp 9) rfl W.heap.size 0 rfl CL _ HR5.out Tryd.underlying40 rfl (by rw [hC6]; exact mvInfo) ?_)
            | (refine wpList_store_mid rfl 40 (.tmp 2) (.tmp 71) rfl w.heap.size 0 CL.toArray rfl rfl HTH.out (by rw [List.size_toArray, hC6]; exact mvInfo) hC1 ?_; rw [HWX.out]))
          exact bodyPost_ret (results_sc (a := 2) (t := 40) (x := 3) rfl rfl (HRES.out _ rfl)) rfl (mvPost CL.toArray true rfl (by rw [List.size_toArray, hC6]) hC1 (by rw [HMV.out]; rfl) (fun l e => by rw [HMV.out] at e; cases e; rfl) (HB5.out.grown HGX.out HB5.out.size (fun k e => by cases e; exact Nat.le_refl _)))
        · obtain ⟨n0, n1, rfl⟩ : ∃ n0 n1, ns = [n0, n1] := (match ns, hln with | [n0, n1], _ => ⟨n0, n1, rfl⟩)
          have hn0 := hle n0 (by simp)
          have hn1 := hle n1 (by simp)
          simp only [List.length_cons, List.length_nil, Nat.zero_add, Nat.reduceAdd] at hnv
          subst hnv
          obtain ⟨gn, rfl, -, hgn0, hgn⟩ := ho.formA (by simp)
          have m0 := ho.one (h := fun z : Nat => Value.int .i64 (z : Int)) (fun _ => rfl) (k := 0) (by simp)
          have m1 := ho.one (h := fun z : Nat => Value.int .i64 (z : Int)) (fun _ => rfl) (k := 1) (by simp)
          simp only [List.getElem_cons_zero, List.getElem_cons_succ] at m0 m1
          clear ho hle hln
          go_upto_region 18 with (first
            | (refine wpList_built rfl 40 [(0, .tmp 32), (1, .tmp 35)] rfl #[.int .i64 4, .int .i64 (n0 : Nat), .int .i64 0, .int .i64 0, .int .u8 0, .int .u8 0] [(0, .int .i64 4), (1, .int .i64 (n0 : Nat))] ?_ (built_m1 4 (n0 : Nat)) ?_; (case' hv => rfl))
            | (refine wpList_store_mid rfl 40 (.tmp 9) (.tmp 36) rfl W.heap.size 0 #[.int .i64 4, .int .i64 (n0 : Nat), .int .i64 0, .int .i64 0, .int .u8 0, .int .u8 0] rfl rfl (there_new _ _ _ rfl) mvInfo (by simp [Value.oneCell']) ?_
               refine named_put (F := fun W => wpList _ _ _ _ _ W) rfl ?_
               intro w4 k4 hb4 hz4
               have m14 := (hb4.cell (p := ⟨gn, 1, none⟩) hgn).trans m1
               have k42 := k4.cell 2
               have f42 := k4.frozen 2
               have K4 := Lib.hid k4
               have HBW := Lib.hid hb4
               have hgn4 : gn < w4.heap.size := by omega
               have hww : w.heap.size < W.heap.size := HK0.out.lt
               clear k4 hb4))
          obtain ⟨CL, hCL⟩ : ∃ CL : List Value, [.int .i64 4, .int .i64 (n0 : Nat), .int .i64 (n1 : Nat), .int .i64 0, .int .u8 0, .int .u8 0] = CL := ⟨_, rfl⟩
          have hCA : mvC 3 [n0, n1] = CL := by rw [← hCL]; simp [mvC]
          have hC1 : CL.toArray.all (·.oneCell') = true := by rw [← hCL]; simp [Value.oneCell']
          have hC6 : CL.length = 6 := by rw [← hCL]; rfl
          have HMV : Hid (mvO ws = some CL) := Lib.hid (by rw [mvO_of HF.out, hCA]; simp [okM])
          have k5 : Blk (w4.setCell ⟨W.heap.size, 2, none⟩ (.int .i64 (n1 : Nat))) W.heap.size 40 CL.toArray := by rw [← hCL]; exact K4.out.set 2 _
          have bW5 := Below.setCell (p := ⟨W.heap.size, 2, none⟩) HBW.out (Nat.le_refl _) (.int .i64 (n1 : Nat))
          obtain ⟨w5, hw5⟩ : ∃ w5, w4.setCell ⟨W.heap.size, 2, none⟩ (.int .i64 (n1 : Nat)) = w5 := ⟨_, rfl⟩
          rw [hw5] at k5 bW5 ⊢
          clear hw5 K4 HBW m14 k42 f42
          have HB5 := Lib.hid (bTrans HB1.out (bTrans HB2.out bW5))
          have HK5 := Lib.hid (HK0.out.on bW5)
          have hl5 := k5.lt
          have hr5 : w5.rangeAt W.heap.size 0 CL := fun j v hv => by rw [Nat.zero_add, k5.cell]; simpa using hv
          have HR5 := Lib.hid hr5
          obtain ⟨wx, hwx, hth, hres, -, hgx⟩ := mv_put (C := CL.toArray) HK5.out rfl (by rw [List.size_toArray, hC6])
          have HTH := Lib.hid hth
          have HRES := Lib.hid hres
          have HWX := Lib.hid hwx
          have HGX := Lib.hid hgx
          clear hwx hth hres hgx k5 bW5 hr5
          go_wp2_with (first
            | (refine wpList_load_mid rfl 40 (.tmp 9) rfl W.heap.size 0 rfl CL _ HR5.out Tryd.underlying40 rfl (by rw [hC6]; exact mvInfo) ?_)
            | (refine wpList_store_mid rfl 40 (.tmp 2) (.tmp 71) rfl w.heap.size 0 CL.toArray rfl rfl HTH.out (by rw [List.size_toArray, hC6]; exact mvInfo) hC1 ?_; rw [HWX.out]))
          exact bodyPost_ret (results_sc (a := 2) (t := 40) (x := 3) rfl rfl (HRES.out _ rfl)) rfl (mvPost CL.toArray true rfl (by rw [List.size_toArray, hC6]) hC1 (by rw [HMV.out]; rfl) (fun l e => by rw [HMV.out] at e; cases e; rfl) (HB5.out.grown HGX.out HB5.out.size (fun k e => by cases e; exact Nat.le_refl _)))
        · obtain ⟨n0, n1, n2, n3, rfl⟩ : ∃ n0 n1 n2 n3, ns = [n0, n1, n2, n3] := (match ns, hln with | [n0, n1, n2, n3], _ => ⟨n0, n1, n2, n3, rfl⟩)
          have hn0 := hle n0 (by simp)
          have hn1 := hle n1 (by simp)
          have hn2 := hle n2 (by simp)
          have hn3 := hle n3 (by simp)
          simp only [List.length_cons, List.length_nil, Nat.zero_add, Nat.reduceAdd] at hnv
          subst hnv
          obtain ⟨gn, rfl, -, hgn0, hgn⟩ := ho.formA (by simp)
          have m0 := ho.one (h := fun z : Nat => Value.int .i64 (z : Int)) (fun _ => rfl) (k := 0) (by simp)
          have m1 := ho.one (h := fun z : Nat => Value.int .i64 (z : Int)) (fun _ => rfl) (k := 1) (by simp)
          have m2 := ho.one (h := fun z : Nat => Value.int .i64 (z : Int)) (fun _ => rfl) (k := 2) (by simp)
          have m3 := ho.one (h := fun z : Nat => Value.int .i64 (z : Int)) (fun _ => rfl) (k := 3) (by simp)
          simp only [List.getElem_cons_zero, List.getElem_cons_succ] at m0 m1 m2 m3
          clear ho hle hln
          go_upto_region 17 with (first
            | (refine wpList_built rfl 40 [(0, .tmp 32), (1, .tmp 35)] rfl #[.int .i64 5, .int .i64 (n0 : Nat), .int .i64 0, .int .i64 0, .int .u8 0, .int .u8 0] [(0, .int .i64 5), (1, .int .i64 (n0 : Nat))] ?_ (built_m1 5 (n0 : Nat)) ?_; (case' hv => rfl))
            | (refine wpList_store_mid rfl 40 (.tmp 9) (.tmp 36) rfl W.heap.size 0 #[.int .i64 5, .int .i64 (n0 : Nat), .int .i64 0, .int .i64 0, .int .u8 0, .int .u8 0] rfl rfl (there_new _ _ _ rfl) mvInfo (by simp [Value.oneCell']) ?_
               refine named_put (F := fun W => wpList _ _ _ _ _ W) rfl ?_
               intro w4 k4 hb4 hz4
               have m14 := (hb4.cell (p := ⟨gn, 1, none⟩) hgn).trans m1
               have m24 := (hb4.cell (p := ⟨gn, 2, none⟩) hgn).trans m2
               have m34 := (hb4.cell (p := ⟨gn, 3, none⟩) hgn).trans m3
               have k42 := k4.cell 2
               have f42 := k4.frozen 2
               have k43 := k4.cell 3
               have f43 := k4.frozen 3
               have k44 := k4.cell 4
               have f44 := k4.frozen 4
               have K4 := Lib.hid k4
               have HBW := Lib.hid hb4
               have hgn4 : gn < w4.heap.size := by omega
               have hww : w.heap.size < W.heap.size := HK0.out.lt
               clear k4 hb4))
          obtain ⟨CL, hCL⟩ : ∃ CL : List Value, [.int .i64 5, .int .i64 (n0 : Nat), .int .i64 (n1 : Nat), .int .i64 (n2 : Nat), .int .u8 ((n3 : Int) % 256), .int .u8 0] = CL := ⟨_, rfl⟩
          have hCA : mvC 4 [n0, n1, n2, n3] = CL := by rw [← hCL]; simp [mvC]
          have hC1 : CL.toArray.all (·.oneCell') = true := by rw [← hCL]; simp [Value.oneCell']
          have hC6 : CL.length = 6 := by rw [← hCL]; rfl
          have hC6a : 6 = CL.toArray.size := by rw [List.size_toArray, hC6]
          have HMV : Hid (mvO ws = if (decide ((n3 : Int) < 256)) = true then some CL else none) := Lib.hid (by rw [mvO_of HF.out, hCA]; congr 1; simp [okM]; omega)
          have k5 : Blk (((w4.setCell ⟨W.heap.size, 2, none⟩ (.int .i64 (n1 : Nat))).setCell ⟨W.heap.size, 3, none⟩ (.int .i64 (n2 : Nat))).setCell ⟨W.heap.size, 4, none⟩ (.int .u8 ((n3 : Int) % 256))) W.heap.size 40 CL.toArray := by rw [← hCL]; exact ((K4.out.set 2 _).set 3 _).set 4 _
          have bW5 := Below.setCell (p := ⟨W.heap.size, 4, none⟩) (Below.setCell (p := ⟨W.heap.size, 3, none⟩) (Below.setCell (p := ⟨W.heap.size, 2, none⟩) HBW.out (Nat.le_refl _) (.int .i64 (n1 : Nat))) (Nat.le_refl _) (.int .i64 (n2 : Nat))) (Nat.le_refl _) (.int .u8 ((n3 : Int) % 256))
          obtain ⟨w5, hw5⟩ : ∃ w5, ((w4.setCell ⟨W.heap.size, 2, none⟩ (.int .i64 (n1 : Nat))).setCell ⟨W.heap.size, 3, none⟩ (.int .i64 (n2 : Nat))).setCell ⟨W.heap.size, 4, none⟩ (.int .u8 ((n3 : Int) % 256)) = w5 := ⟨_, rfl⟩
          rw [hw5] at k5 bW5 ⊢
          have HB5 := Lib.hid (bTrans HB2.out bW5)
          have HK5 := Lib.hid (HK0.out.on bW5)
          have my := (bW5.cell (p := ⟨gn, 3, none⟩) hgn).trans m3
          have hg5 : gn < w5.heap.size := Nat.lt_of_lt_of_le hgn bW5.size
          have hl5 := k5.lt
          have hr5 : w5.rangeAt W.heap.size 0 CL := fun j v hv => by rw [Nat.zero_add, k5.cell]; simpa using hv
          have HQ5 := Lib.hid k5
          clear hw5 k5 bW5 hr5 K4 HBW m14 m24 m34 k42 f42 k43 f43 k44 f44 m0 m1 m2 m3
          have hwW : w.heap.size < W.heap.size := hww
          letI : GRel := relG w.heap.size 40 CL.toArray
          refine Z.wp_region_mixedY [.held, .pure, .pure, .held, .pure, .make, .pure] (fun _ => ⟨fun v => v = undef, fun _ V => Blk V w.heap.size 40 CL.toArray⟩) (by kernel_rfl) (by kernel_rfl) ?_
          refine Z.mixY_load rfl rfl 40 (.tmp 9) rfl W.heap.size 0 rfl CL _ (fun V hV => fun j v hv => by rw [Nat.zero_add, (RelX.blk hV HQ5.out (by omega)).cell]; simpa using hv) Tryd.underlying40 rfl (by rw [hC6]; exact mvInfo) ?_
          simp only [Act.put, List.setIfInBounds_toArray, List.set_cons_zero, List.set_cons_succ]
          repeat (refine Z.mixY_pure rfl rfl rfl (fun K hK => ?_); go_big_quiet_op; refine hK _ ?_; clear hK K)
          refine Z.mixY_hrun (.int .i64 (n3 : Nat)) rfl rfl (fun V hV => by have q := (World.cell?_of_block (a := ⟨gn, 3, none⟩) (RelX.block hV gn hg5 (by omega))).trans my; simp [RunsTo, execOp, go_sem, q]) ?_
          simp only [Act.put, List.setIfInBounds_toArray, List.set_cons_zero, List.set_cons_succ]
          repeat (refine Z.mixY_pure rfl rfl rfl (fun K hK => ?_); go_big_quiet_op; refine hK _ ?_; clear hK K)
          refine Z.mixY_make rfl rfl (fun v V U h hg => RelX.own hg h) (fun V hV _ => goes_rel (.tmp 2) (.tmp 66) rfl rfl rfl HK5.out hC6a hV (by rw [List.size_toArray, hC6]; exact mvInfo) hC1) ?_
          rintro _ rfl
          simp only [Act.put, List.setIfInBounds_toArray, List.set_cons_zero, List.set_cons_succ]
          repeat (refine Z.mixY_pure rfl rfl rfl (fun K hK => ?_); go_big_quiet_op; refine hK _ ?_; clear hK K)
          refine Z.mixY_nil ?_
          intro V' hV'
          obtain ⟨hrel5, hF5⟩ := hV'
          have k6 : Blk V' w.heap.size 40 CL.toArray := (hF5 5).2 rfl
          have hB6 := RelX.below hrel5 (bTrans HB1.out HB5.out) (Nat.le_refl _) (by omega)
          have HRES := Lib.hid (mv_load k6 hC6)
          have HB6 := Lib.hid hB6
          clear hrel5 hF5 k6 hB6
          go_wp2
          exact bodyPost_ret (results_sc (a := 2) (t := 40) (x := 3) rfl rfl HRES.out) rfl (mvPost CL.toArray (decide ((n3 : Int) < 256)) rfl (by rw [List.size_toArray, hC6]) hC1 (by rw [HMV.out]; cases (decide ((n3 : Int) < 256)) <;> rfl) (fun l e => by rw [HMV.out] at e; split at e <;> cases e; rfl) HB6.out)
        · obtain ⟨n0, rfl⟩ : ∃ n0, ns = [n0] := (match ns, hln with | [n0], _ => ⟨n0, rfl⟩)
          have hn0 := hle n0 (by simp)
          simp only [List.length_cons, List.length_nil, Nat.zero_add] at hnv
          subst hnv
          obtain ⟨gn, rfl, -, hgn0, hgn⟩ := ho.formA (by simp)
          have m0 := ho.one (h := fun z : Nat => Value.int .i64 (z : Int)) (fun _ => rfl) (k := 0) (by simp)
          simp only [List.getElem_cons_zero] at m0
          clear ho hle hln
          go_upto_region 18 with (first
            | (refine wpList_built rfl 40 [(0, .tmp 32), (1, .tmp 35)] rfl #[.int .i64 6, .int .i64 (n0 : Nat), .int .i64 0, .int .i64 0, .int .u8 0, .int .u8 0] [(0, .int .i64 6), (1, .int .i64 (n0 : Nat))] ?_ (built_m1 6 (n0 : Nat)) ?_; (case' hv => rfl))
            | (refine wpList_store_mid rfl 40 (.tmp 9) (.tmp 36) rfl W.heap.size 0 #[.int .i64 6, .int .i64 (n0 : Nat), .int .i64 0, .int .i64 0, .int .u8 0, .int .u8 0] rfl rfl (there_new _ _ _ rfl) mvInfo (by simp [Value.oneCell']) ?_
               refine named_put (F := fun W => wpList _ _ _ _ _ W) rfl ?_
               intro w5 k5 bW5 hz5))
          obtain ⟨CL, hCL⟩ : ∃ CL : List Value, [.int .i64 6, .int .i64 (n0 : Nat), .int .i64 0, .int .i64 0, .int .u8 0, .int .u8 0] = CL := ⟨_, rfl⟩
          have hCA : mvC 5 [n0] = CL := by rw [← hCL]; simp [mvC]
          have hC1 : CL.toArray.all (·.oneCell') = true := by rw [← hCL]; simp [Value.oneCell']
          have hC6 : CL.length = 6 := by rw [← hCL]; rfl
          have HMV : Hid (mvO ws = some CL) := Lib.hid (by rw [mvO_of HF.out, hCA]; simp [okM])
          rw [hCL] at k5
          have HB5 := Lib.hid (bTrans HB1.out (bTrans HB2.out bW5))
          have HK5 := Lib.hid (HK0.out.on bW5)
          have hl5 := k5.lt
          have hr5 : w5.rangeAt W.heap.size 0 CL := fun j v hv => by rw [Nat.zero_add, k5.cell]; simpa using hv
          have HR5 := Lib.hid hr5
          obtain ⟨wx, hwx, hth, hres, -, hgx⟩ := mv_put (C := CL.toArray) HK5.out rfl (by rw [List.size_toArray, hC6])
          have HTH := Lib.hid hth
          have HRES := Lib.hid hres
          have HWX := Lib.hid hwx
          have HGX := Lib.hid hgx
          clear hwx hth hres hgx k5 bW5 hr5
          go_wp2_with (first
            | (refine wpList_load_mid rfl 40 (.tmp 9) rfl W.heap.size 0 rfl CL _ HR5.out Tryd.underlying40 rfl (by rw [hC6]; exact mvInfo) ?_)
            | (refine wpList_store_mid rfl 40 (.tmp 2) (.tmp 71) rfl w.heap.size 0 CL.toArray rfl rfl HTH.out (by rw [List.size_toArray, hC6]; exact mvInfo) hC1 ?_; rw [HWX.out]))
          exact bodyPost_ret (results_sc (a := 2) (t := 40) (x := 3) rfl rfl (HRES.out _ rfl)) rfl (mvPost CL.toArray true rfl (by rw [List.size_toArray, hC6]) hC1 (by rw [HMV.out]; rfl) (fun l e => by rw [HMV.out] at e; cases e; rfl) (HB5.out.grown HGX.out HB5.out.size (fun k e => by cases e; exact Nat.le_refl _)))
        · omega
    · obtain rfl : k = 6 := by omega
      have HX : Hid (mvO ws = none) := Lib.hid (by unfold mvO; rw [findM_none HJ.out])
      have HB3 := Lib.hid (bTrans HB1.out HB.out)
      have HK0 := Lib.hid (K0.out.on HB.out)
      obtain ⟨wx, hwx, hth, hres, -, hgx⟩ := mv_put (C := mv0) HK0.out rfl rfl
      have HTH := Lib.hid hth
      have HRES := Lib.hid hres
      have HWX := Lib.hid hwx
      have HGX := Lib.hid hgx
      clear hwx hth hres hgx
      go_wp2_with (first
        | (refine wpList_built rfl 40 [] rfl mv0 [] rfl built_m0 ?_)
        | (refine wpList_store_mid rfl 40 (.tmp 2) (.tmp 72) rfl w.heap.size 0 mv0 rfl rfl HTH.out mvInfo (by simp [mv0, Value.oneCell']) ?_; rw [HWX.out]))
      exact bodyPost_ret (results_sc (a := 2) (t := 40) (x := 3) rfl rfl (HRES.out _ rfl)) rfl (mvPost mv0 false rfl rfl (by simp [mv0, Value.oneCell']) (by rw [HX.out]; rfl) (fun l e => by rw [HX.out] at e; cases e) (HB3.out.grown HGX.out HB3.out.size (fun k e => by cases e; exact Nat.le_refl _)))
end Go.Proofs.YtlonefjbcooaaaaDoor
