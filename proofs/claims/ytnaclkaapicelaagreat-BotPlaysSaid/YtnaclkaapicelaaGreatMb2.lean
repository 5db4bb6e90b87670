/-
  The walks beneath: MatR, BotPl, BotPm.
-/
import Derived.Test.YtnaclkaapicelaaGreatMb1
import Derived.Test.YtnaclkaapicelaaGreatMa5
import Derived.Test.YtnaclkaapicelaaGreatMa3
namespace Go.Proofs.YtnaclkaapicelaaGreat
open Go.RowKit Go.Shelf
attribute [local go_sem] Oper.semAt_some
set_option maxRecDepth 100000
set_option linter.unusedSimpArgs false
/-- An operation that is told what it does. -/
theorem wpList_goes {P : Program} {ops : Array Oper} {rest : List Oper} {o : Oper} {a : Act} {w : World} {Q : Exit → Act → World → Prop} {T : Value → World → Prop} (hw : Region.wanted o (yielded ops a.tmps) = true)
    (h : Oper.goes P o a w T) (k : ∀ v w', T v w' → wpList P ops Q rest (a.put o.dst v) w') : wpList P ops Q (o :: rest) a w :=
  wpList_step fun K hK => by
    simp only [hw, if_true]
    unfold Oper.wp
    unfold Oper.goes at h
    generalize (execOp a.eval o).run P w = r at *
    cases r with
    | ok x w' =>
      cases x <;> simp only [Oper.goesUpon] at h
      case value u => exact hK _ _ (k _ _ h)
      case skip => exact hK _ _ (k _ _ h)
      case enter f args => exact h.mono fun e w'' ⟨v, he, hh⟩ => by subst he; exact hK _ _ (k _ _ hh)
    | halt x w' => simp only [Oper.goesUpon] at h
/-- What the document's Press answers. -/
def PressR : Prop := ∀ (S : Nat → Int) (who skill : Int) (w : World), StOk S → 0 ≤ who ∧ who ≤ 1 → 0 ≤ skill ∧ skill ≤ 3 → Calls Tryz.prog 49 #[.agg (stCells S).toArray, .int .i64 who, .int .i64 skill] w fun e w' => e = .returned (.int .u8 (pressZ S who skill)) ∧ Below w.heap.size w w'
/-- What the document's Step answers. -/
def StepR : Prop := ∀ (S : Nat → Int) (n0 n1 : Nat) (w : World) (T : Nat → Int) (M : List Ev), StOk S → n0 < 64 → n1 < 64 → stepS n0 n1 S = (T, M) → Calls Tryz.prog 13 #[.agg (stCells S).toArray, .agg #[.int .u8 n0, .int .u8 n1]] w fun e w' => ∃ A n c, e = .returned (.tuple #[.agg (stCells T).toArray, .slice A n c]) ∧ OwnL w' w.heap.size 65 9 (.slice A n c) Ev.cells M ∧ Below w.heap.size w w'
theorem evs_len {a b : Int} {S : Nat → Int} (h : StOk S) (h0 : S 0 = 0) (h2 : S 2 = 0) : ∀ N, N ≤ 5000 → ((preM a b S N).flatMap (·.2.2)).length ≤ 22 * N
  | 0, _ => by simp [preM]
  | N + 1, hN => by
    obtain ⟨k1, k2, k3, k4⟩ := stM_ok (a := a) (b := b) h h0 h2 N (by omega)
    have := (stepS_ok (pressZ (stM a b S N) 0 a).toNat (pressZ (stM a b S N) 1 b).toNat k1 (by omega) (by omega)).2.1
    have h3 := evs_len (a := a) (b := b) h h0 h2 N (by omega)
    rw [preM_succ, List.flatMap_append, List.length_append]
    simp only [List.flatMap_cons, List.flatMap_nil, List.append_nil]
    have e : ((rdM a b (stM a b S N)).2.2).length ≤ 22 := this
    omega
set_option maxHeartbeats 16000000 in
theorem rmatch_any (hpr : PressR) (hst : StepR) (seed a b : Int) (N : Nat) (w : World) (hs : U32 seed) (ha : 0 ≤ a ∧ a ≤ 3) (hb : 0 ≤ b ∧ b ≤ 3) (hN : N ≤ 5000) :
    Calls Tryz.prog 19 #[.int .u32 seed, .int .i64 a, .int .i64 b, .int .i64 N] w fun e w' => ∃ v1 v2 : Value, e = .returned (.tuple #[.agg (stCells (stM a b (beginS seed) N)).toArray, v1, v2]) ∧ OwnL w' w.heap.size 34 2 v1 pbCells ((preM a b (beginS seed) N).map (·.1)) ∧ OwnL w' w.heap.size 65 9 v2 Ev.cells ((preM a b (beginS seed) N).flatMap (·.2.2)) ∧ Below w.heap.size w w' := by
  have HOK := Lib.hid (begin_ok hs)
  obtain ⟨T0, hT0⟩ : ∃ T0, beginS seed = T0 := ⟨_, rfl⟩
  have hbeg := fun V => r12Begin_any seed V
  have hz : T0 0 = 0 ∧ T0 2 = 0 := by rw [← hT0]; exact ⟨rfl, rfl⟩
  rw [hT0] at hbeg HOK ⊢
  have HLEN := Lib.hid (fun k hk => evs_len (a := a) (b := b) HOK.out hz.1 hz.2 k hk)
  obtain ⟨C0, hC0⟩ : ∃ C0 : Array Value, (stCells T0).toArray = C0 := ⟨_, rfl⟩
  rw [hC0] at hbeg
  have hsz : C0.size = 60 := by rw [← hC0, List.size_toArray, stCells_length]
  have H1C : Hid (C0.all (·.oneCell') = true) := Lib.hid (by rw [← hC0]; exact all_oneCell_toArray (int_one _))
  have HSZ : Hid ((Tryz.prog.info? 33).map (·.size) = some C0.size) := Lib.hid (by rw [hsz]; kernel_rfl)
  have HSI := Lib.hid hsz
  have HC0 := Lib.hid hC0
  have HBEG := Lib.hid hbeg
  have HZ := Lib.hid hz
  have HPR := Lib.hid hpr
  have HST := Lib.hid hst
  have HAB := Lib.hid (And.intro ha hb)
  clear hbeg hsz hC0 hT0 hz hpr hst ha hb
  go_enter Tryz.func19, Tryz.ntmps19
  go_upto_region 1 with fail
  refine named1 (F := fun W => Code.wp _ _ _ _ W) ?_
  intro w1 k8 hb1 hz1
  have HK8 := Lib.hid k8
  have HB1 := Lib.hid hb1
  clear k8 hb1 hz1
  go_upto_region 2 with (first
    | (go_at_call 12; refine (HBEG.out _).mono ?_; rintro e w3 ⟨rfl, hb3⟩; have HB3 := Lib.hid hb3; clear hb3)
    | (refine wpList_store_mid rfl 33 (.tmp 11) (.tmp 19) rfl w3.heap.size 0 C0 rfl rfl (there_new _ _ _ (by rw [HSI.out]; rfl)) HSZ.out H1C.out ?_))
  refine named_put (F := fun W => Code.wp _ _ _ _ W) (by rw [Array.length_toList, HSI.out]; rfl) ?_
  rintro w4 k11 hb4 -
  rw [Array.toArray_toList, ← HC0.out] at k11
  obtain ⟨b11, hb11⟩ : ∃ b11, w3.heap.size = b11 := ⟨_, rfl⟩
  have hge : w.heap.size ≤ b11 := by rw [← hb11]; exact (bTrans HB1.out HB3.out).size
  have hlt8 : w.heap.size < b11 := by have h1 := HK8.out.lt; have h2 := HB3.out.size; omega
  have HK84 := Lib.hid ((HK8.out.on HB3.out).on hb4)
  have HB4 := Lib.hid (bTrans (bTrans HB1.out HB3.out) hb4)
  rw [hb11] at k11 ⊢
  have HK11 := Lib.hid k11
  clear k11 hb4 hb11 HK8 HB1 HB3 HBEG H1C HSZ HC0 HSI
  go_upto_region 4 with fail
  obtain ⟨w5, hw5⟩ : ∃ w5, w5 = ((w4.alloc (.cells #[] 34)).alloc (.cells #[] 65)) := ⟨_, rfl⟩
  have ho1 : OwnL w5 w.heap.size 34 2 (.slice (some ⟨w4.heap.size, 0, none⟩) 0 0) pbCells [] := by
    rw [hw5]
    exact (OwnL.lit (f := pbCells) [] #[] HB4.out.size (by simp) pbCells_length rfl rfl rfl).alloc _
  have ho2 : OwnL w5 w.heap.size 65 9 (.slice (some ⟨w4.heap.size + 1, 0, none⟩) 0 0) Ev.cells [] := by
    rw [hw5]
    have := OwnL.lit (w := w4.alloc (.cells #[] 34)) (base := w.heap.size) (E := 65) (f := Ev.cells) [] #[] (by rw [World.size_alloc]; exact Nat.le_succ_of_le HB4.out.size) (by simp) Ev.cells_length (n := 0) (c := 0) rfl rfl rfl
    rwa [World.size_alloc] at this
  have hb45 : Below w4.heap.size w4 w5 := by rw [hw5]; exact bAlloc (bAlloc (Below.refl _ _) _) _
  rw [← hw5]
  have HO1 := Lib.hid ho1
  have HO2 := Lib.hid ho2
  have HK85 := Lib.hid (HK84.out.on hb45)
  have HK15 := Lib.hid (HK11.out.on hb45)
  have HB5 := Lib.hid (bTrans HB4.out hb45)
  clear hw5 ho1 ho2 hb45 HK84 HK11 HB4
  go_wp2_with fail
  go_loopw [12, 13, 14] (fun v1 v2 v wr => ∃ (k : Nat) (A1 A2 : Option Addr) (n1 n2 c1 c2 : Nat), k ≤ N ∧ v = .int .i64 k ∧ v1 = .slice A1 n1 c1 ∧ v2 = .slice A2 n2 c2 ∧ Hid (OwnL wr w.heap.size 34 2 (.slice A1 n1 c1) pbCells ((preM a b T0 k).map (·.1))) ∧ Hid (OwnL wr w.heap.size 65 9 (.slice A2 n2 c2) Ev.cells ((preM a b T0 k).flatMap (·.2.2))) ∧
    Hid (∃ Z : Array Value, Z.size = 60 ∧ Blk wr w.heap.size 33 Z) ∧ Hid (Blk wr b11 33 (stCells (stM a b T0 k)).toArray) ∧ Hid (Below w.heap.size w wr)) (fun _ _ v _ => N - (intOf v).toNat)
  case atStart => exact ⟨0, _, _, _, _, _, _, Nat.zero_le _, rfl, rfl, rfl, HO1, HO2, Lib.hid ⟨_, rfl, HK85.out⟩, HK15, HB5⟩
  case round =>
  obtain ⟨k, A1, A2, n1, n2, c1, c2, hk, rfl, rfl, rfl, H1, H2, H8, H11, HB⟩ := hrel
  clear HO1 HO2 HK85 HK15 HB5
  by_cases hlt : k < N
  · as_aux_lemma =>
    obtain ⟨q1, q2, q3, q4⟩ := stM_ok (a := a) (b := b) HOK.out HZ.out.1 HZ.out.2 k (by omega)
    have hsucc : stM a b T0 (k + 1) = (rdM a b (stM a b T0 k)).2.1 := rfl
    have hpsucc := preM_succ a b T0 k
    obtain ⟨S, hS⟩ : ∃ S, stM a b T0 k = S := ⟨_, rfl⟩
    rw [hS] at q1 q2 q3 q4 hsucc hpsucc H11
    have hx0 := press_bd S 0 a
    have hy0 := press_bd S 1 b
    obtain ⟨x, hxn⟩ := Int.eq_ofNat_of_zero_le hx0.1
    obtain ⟨y, hyn⟩ := Int.eq_ofNat_of_zero_le hy0.1
    obtain ⟨T', L', hTL⟩ : ∃ T' L', stepS x y S = (T', L') := ⟨_, _, rfl⟩
    have hrd : rdM a b S = ((x, y), T', L') := by
      unfold rdM
      rw [hxn, hyn]
      show ((x, y), stepS x y S) = _
      rw [hTL]
    rw [hrd] at hsucc hpsucc
    have hl22 : L'.length ≤ 22 := by
      have := (stepS_ok x y q1 (by omega) (by omega)).2.1
      rw [hTL] at this; exact this
    have hpr0 := fun V => HPR.out S 0 a V q1 ⟨by decide, by decide⟩ HAB.out.1
    have hpr1 := fun V => HPR.out S 1 b V q1 ⟨by decide, by decide⟩ HAB.out.2
    rw [hxn] at hpr0
    rw [hyn] at hpr1
    have hstp := fun V => HST.out S x y V T' L' q1 (by omega) (by omega) hTL
    have hlen := HLEN.out k (by omega)
    obtain ⟨C1, hC1⟩ : ∃ C1 : Array Value, (stCells T').toArray = C1 := ⟨_, rfl⟩
    rw [hC1] at hstp
    have hsz1 : C1.size = 60 := by rw [← hC1, List.size_toArray, stCells_length]
    have H1C : Hid (C1.all (·.oneCell') = true) := Lib.hid (by rw [← hC1]; exact all_oneCell_toArray (int_one _))
    have HSZ : Hid ((Tryz.prog.info? 33).map (·.size) = some C1.size) := Lib.hid (by rw [hsz1]; kernel_rfl)
    have HS1 := Lib.hid hsz1
    have HC1 := Lib.hid hC1
    have HPR0 : Hid (∀ V, Calls Tryz.prog 49 #[.agg (stCells S).toArray, .int .i64 0, .int .i64 a] V fun e w' => e = .returned (.int .u8 (x : Int)) ∧ Below V.heap.size V w') := Lib.hid hpr0
    have HPR1 : Hid (∀ V, Calls Tryz.prog 49 #[.agg (stCells S).toArray, .int .i64 1, .int .i64 b] V fun e w' => e = .returned (.int .u8 (y : Int)) ∧ Below V.heap.size V w') := Lib.hid hpr1
    have HSP := Lib.hid hstp
    have HTN : Hid (stM a b T0 (k + 1) = T') := Lib.hid hsucc
    have HPN : Hid (preM a b T0 (k + 1) = preM a b T0 k ++ [((x, y), T', L')]) := Lib.hid hpsucc
    have HL22 := Lib.hid hl22
    have HLK := Lib.hid hlen
    have hlg := H11.out.lt
    have hszw := HB.out.size
    obtain ⟨Z8, hZ8, k8⟩ := H8.out
    have HK8 := Lib.hid k8
    have HZ8 := Lib.hid hZ8
    clear q1 q2 q3 q4 hsucc hpsucc hS hx0 hy0 hxn hyn hTL hrd hl22 hpr0 hpr1 hstp hC1 hsz1 HOK HZ HPR HST HLEN hlen k8 hZ8 H8
    go_upto_region 7 with fail
    have hKp := Keeps.base wr
    refine wp_region_mixedT [.held, .pure, .make, .held, .pure, .make, .pure, .make, .tail] (fun | 2 => valF (.int .u8 (x : Int)) | 5 => valF (.int .u8 (y : Int)) | _ => newTold wr 34 #[.int .u8 0, .int .u8 0]) (by kernel_rfl) (by kernel_rfl) ?_
    refine mix_load rfl rfl (by assumption) 33 (.tmp 11) rfl b11 0 rfl (stCells S) _ hlg (Blk.range H11.out) Tryz.underlying33 rfl (by kernel_rfl) ?_
    simp only [Act.put, List.setIfInBounds_toArray, List.set_cons_zero, List.set_cons_succ]
    repeat (first | (refine mix_pure rfl rfl rfl (fun K hK => ?_); go_big_quiet_op; refine hK _ ?_; clear hK K) | (refine mix_held rfl rfl rfl (by assumption) (fun K hK => ?_); go_big_quiet_op; refine hK _ ?_; clear hK K))
    refine mix_make rfl rfl (by assumption) valF_st (fun V hV => ?_) ?_
    · have HS2 := Lib.hid (valF_of (HPR0.out V))
      go_simp
      exact HS2.out
    rintro _ rfl hKp2
    simp only [Act.put, List.setIfInBounds_toArray, List.set_cons_zero, List.set_cons_succ]
    refine mix_load rfl rfl (by assumption) 33 (.tmp 11) rfl b11 0 rfl (stCells S) _ hlg (Blk.range H11.out) Tryz.underlying33 rfl (by kernel_rfl) ?_
    simp only [Act.put, List.setIfInBounds_toArray, List.set_cons_zero, List.set_cons_succ]
    repeat (first | (refine mix_pure rfl rfl rfl (fun K hK => ?_); go_big_quiet_op; refine hK _ ?_; clear hK K) | (refine mix_held rfl rfl rfl (by assumption) (fun K hK => ?_); go_big_quiet_op; refine hK _ ?_; clear hK K))
    refine mix_make rfl rfl (by assumption) valF_st (fun V hV => ?_) ?_
    · have HS2 := Lib.hid (valF_of (HPR1.out V))
      go_simp
      exact HS2.out
    rintro _ rfl hKp3
    simp only [Act.put, List.setIfInBounds_toArray, List.set_cons_zero, List.set_cons_succ]
    refine mix_built rfl rfl 34 [(0, .tmp 29), (1, .tmp 32)] rfl _ _ rfl (built_pb x y) ?_
    simp only [Act.put, List.setIfInBounds_toArray, List.set_cons_zero, List.set_cons_succ]
    refine mix_make rfl rfl (by assumption) newTold_st (newTold_makes rfl zero_pb rfl) ?_
    rintro v ⟨g6, rfl⟩ hKp4
    simp only [Act.put, List.setIfInBounds_toArray, List.set_cons_zero, List.set_cons_succ]
    refine mix_store rfl rfl 34 (.tmp 15) (.tmp 33) rfl g6 0 #[.int .u8 (x : Int), .int .u8 (y : Int)] rfl rfl (fun V hV => ?_) (by kernel_rfl) (by simp [Value.oneCell']) ?_
    · exact Blk.there (hV.2 g6 rfl).2 (by show 0 + 2 ≤ 2; decide)
    simp only [Act.put, List.setIfInBounds_toArray, List.set_cons_zero, List.set_cons_succ]
    refine mix_nil ?_
    rintro V' ⟨V, hD, rfl⟩
    obtain ⟨⟨⟨hg, -⟩, -⟩, hR⟩ := hD
    obtain ⟨hge6, hBg⟩ := hR g6 rfl
    have hg : Grown wr V := hg
    have hn6 := hBg.whole [.int .u8 (x : Int), .int .u8 (y : Int)] rfl
    have hs6 := (H11.out.on hg).farC (show b11 ≠ g6 by omega) 0 [.int .u8 (x : Int), .int .u8 (y : Int)]
    have hk6 := (HK8.out.on hg).farC (show w.heap.size ≠ g6 by omega) 0 [.int .u8 (x : Int), .int .u8 (y : Int)]
    have hb6 := bSetCells hg hge6 0 [.int .u8 (x : Int), .int .u8 (y : Int)]
    obtain ⟨w6, hw6⟩ : ∃ w6, V.setCells g6 0 [.int .u8 (x : Int), .int .u8 (y : Int)] = w6 := ⟨_, rfl⟩
    rw [hw6] at hn6 hs6 hk6 hb6
    first | rw [hw6] | (show Exit.then _ _ _ _ (V.setCells g6 0 [.int .u8 (x : Int), .int .u8 (y : Int)]); rw [hw6])
    have HN6 := Lib.hid hn6
    have H116 := Lib.hid hs6
    have HK86 := Lib.hid hk6
    have H16 := Lib.hid (H1.out.below hb6)
    have H26 := Lib.hid (H2.out.below hb6)
    have HB6 := Lib.hid (bTrans HB.out hb6)
    have hl6 := hn6.lt
    have q0 := hn6.cell 0
    have q1 := hn6.cell 1
    simp only [List.getElem?_toArray, List.getElem?_cons_zero, List.getElem?_cons_succ] at q0 q1
    clear hw6 hn6 hs6 hk6 hb6 hg hge6 hBg hR hKp hKp2 hKp3 hKp4 HPR0 HPR1 H1 H2 H11 HK8 HB hlg hszw
    go_upto_region 9 with (first
      | (refine wpList_load_mid rfl 33 (.tmp 11) rfl b11 0 rfl (stCells S) _ (Blk.range H116.out) Tryz.underlying33 rfl (by kernel_rfl) ?_)
      | (go_at_call 13; refine (HSP.out _).mono ?_; rintro e w7 ⟨AN, nN, cN, rfl, ho7, hb7⟩; have HO7 := Lib.hid ho7; have HB7 := Lib.hid hb7; clear ho7 hb7)
      | (refine wpList_store_mid rfl 33 (.tmp 16) (.tmp 38) rfl w7.heap.size 0 C1 rfl rfl (there_new _ _ _ (by rw [HS1.out]; rfl)) HSZ.out H1C.out ?_))
    refine named_put (F := fun W => Code.wp _ _ _ _ W) (by rw [Array.length_toList, HS1.out]; rfl) ?_
    rintro w8 hk8 hb8 -
    rw [Array.toArray_toList] at hk8
    have hb68 := bTrans HB7.out hb8
    have hg16 : w.heap.size < w7.heap.size ∧ b11 < w7.heap.size := by have h1 := HK86.out.lt; have h2 := H116.out.lt; have h3 := HB7.out.size; omega
    obtain ⟨g16, hg16'⟩ : ∃ g16, w7.heap.size = g16 := ⟨_, rfl⟩
    rw [hg16'] at hk8 hg16 ⊢
    have HG8 := Lib.hid hk8
    have HN8 := Lib.hid (HN6.out.on hb68)
    have H118 := Lib.hid (H116.out.on hb68)
    have HK88 := Lib.hid (HK86.out.on hb68)
    have H18 := Lib.hid (H16.out.below hb68)
    have H28 := Lib.hid (H26.out.below hb68)
    have HO8 := Lib.hid (HO7.out.below hb8)
    have HB8 := Lib.hid (bTrans HB6.out hb68)
    clear hk8 hb8 hb68 hg16' HN6 H116 HK86 H16 H26 HO7 HB6 HB7 q0 q1 hl6 HSP H1C HSZ
    have HI := Lib.hid (int_one T')
    obtain ⟨CL, hCL⟩ : ∃ CL, stCells T' = CL := ⟨_, rfl⟩
    have hlen : CL.length = 60 := by rw [← hCL, stCells_length]
    have hcl := HC1.out
    rw [hCL] at HI hcl
    have hG9 := HG8.out
    rw [← hcl] at hG9
    have hone := all_oneCell_toArray HI.out
    have hsz9 : (Tryz.prog.info? 33).map (·.size) = some CL.toArray.size := by rw [List.size_toArray, hlen]; kernel_rfl
    have hlg9 := hG9.lt
    have hls9 := H118.out.lt
    apply wp_region_lit
    refine wpList_load_mid rfl 33 (.tmp 16) rfl g16 0 rfl CL _ (Blk.range hG9) Tryz.underlying33 rfl (by rw [hlen]; kernel_rfl) ?_
    simp only [Act.put, List.setIfInBounds_toArray, List.set_cons_zero, List.set_cons_succ]
    refine wpList_store_mid rfl 33 (.tmp 11) (.tmp 40) rfl b11 0 CL.toArray rfl rfl (Blk.there H118.out (by rw [List.size_toArray, List.size_toArray, stCells_length, hlen]; decide)) hsz9 hone ?_
    have h1110 := H118.out.whole CL (by rw [List.size_toArray, stCells_length, hlen])
    have hn10 := HN8.out.farC (show g6 ≠ b11 from fun e => by
      have h1 : w8.heap[g6]? = some (.cells #[.int .u8 (x : Int), .int .u8 (y : Int)] 34 (0, 0)) := HN8.out
      have h2 : w8.heap[b11]? = some (.cells (stCells S).toArray 33 (0, 0)) := H118.out
      rw [e, h2] at h1
      cases h1) 0 CL
    have hk10 := HK88.out.farC (show w.heap.size ≠ b11 by omega) 0 CL
    have ho1 := H18.out.farC (H118.out.apart H18.out (by decide)) 0 CL
    have ho2 := H28.out.farC (H118.out.apart H28.out (by decide)) 0 CL
    have hoN := HO8.out.farC (H118.out.apart HO8.out (by decide)) 0 CL
    have hb10 := bSetCells HB8.out hge 0 CL
    obtain ⟨w10, hw10⟩ : ∃ w10, w8.setCells b11 0 CL.toArray.toList = w10 := ⟨_, rfl⟩
    have hw10' : w8.setCells b11 0 CL = w10 := hw10
    rw [hw10'] at h1110 hn10 hk10 ho1 ho2 hoN hb10
    rw [hw10]
    simp only [Act.put, List.setIfInBounds_toArray, List.set_cons_zero, List.set_cons_succ]
    refine wpList_nil ?_
    have H1110 := Lib.hid h1110
    have HK10 := Lib.hid hk10
    have HO1 := Lib.hid ho1
    have HO2 := Lib.hid ho2
    have HON := Lib.hid hoN
    have HB10 := Lib.hid hb10
    have q0 := hn10.cell 0
    have q1 := hn10.cell 1
    have hl6 := hn10.lt
    simp only [List.getElem?_toArray, List.getElem?_cons_zero, List.getElem?_cons_succ] at q0 q1
    have hl1 := HO1.out.len
    have hl2 := HO2.out.len
    have hlN := HON.out.len
    rw [List.length_map, preM_length] at hl1
    have hb2 := HLK.out
    rw [← hl2] at hb2
    have HL1 := Lib.hid hl1
    have HL2 := Lib.hid hl2
    have HLN := Lib.hid hlN
    clear hl1 hl2 hlN hw10 hw10' h1110 hn10 hk10 ho1 ho2 hoN hb10 hG9 hone hsz9 hlg9 hls9 hcl HG8 HN8 H118 HK88 H18 H28 HO8 HB8 HI
    have hsz10 := HB10.out.size
    go_upto_region 11 with (first
      | (refine wpList_goes rfl (goes_app_pb (.tmp 41) (.tmp 43) rfl w.heap.size (.slice A1 n1 c1) ((preM a b T0 k).map (·.1)) [(x, y)] (HO1.out.alloc _) rfl (w10.heap.size + 1) (some ⟨w10.heap.size, 0, none⟩) 1 1 rfl rfl ?_ ?_ ?_) ?_
         · exact rd_new w10 #[.int .u8 (x : Int), .int .u8 (y : Int)] 34 w10.heap.size rfl (w10.heap.size + 1) (by omega)
         · rw [List.length_map, preM_length, List.length_singleton]; omega
         · rw [World.size_alloc]; omega
         rintro v11 w11 ⟨ho11, hg11⟩
         have HO11 := Lib.hid ho11
         have HG11 := Lib.hid hg11
         clear ho11 hg11))
    have hne1 : ∀ (E3 : TypeId) (m3 : Nat) (A3 : Option Addr) (n3 c3 : Nat) (L3 : List Ev), E3 ≠ 34 → OwnL w10 m3 E3 9 (.slice A3 n3 c3) Ev.cells L3 → OwnL w11 m3 E3 9 (.slice A3 n3 c3) Ev.cells L3 := fun E3 m3 A3 n3 c3 L3 hE h3 => OwnL.kept (h3.alloc _) HG11.out (by
      cases hb : (Value.slice A1 n1 c1).ownBlock with
      | none => cases hb3 : (Value.slice A3 n3 c3).ownBlock with
        | none => exact .inl rfl
        | some q => exact .inr (by simp)
      | some q => exact .inr (OwnL.apart h3 HO1.out hE hb))
    have hkk1 : ∀ (g : Nat) (cs : Array Value), Blk w10 g 33 cs → Blk w11 g 33 cs := fun g cs h => (h.alloc _).grown HG11.out (h.apart HO1.out (by decide))
    have h2_11 := Lib.hid (hne1 _ _ _ _ _ _ (by decide) HO2.out)
    have hN_11 := Lib.hid (hne1 _ _ _ _ _ _ (by decide) HON.out)
    have h11_11 := Lib.hid (hkk1 _ _ H1110.out)
    have h8_11 := Lib.hid (hkk1 _ _ HK10.out)
    have hb11 : Hid (Below w.heap.size w w11) := Lib.hid ((bAlloc HB10.out _).grown HG11.out (by rw [World.size_alloc]; omega) (fun k e => HO1.out.base_le k e))
    obtain ⟨A11, c11, e11⟩ := HO11.out.shape
    rw [List.length_append, List.length_map, preM_length, List.length_singleton] at e11
    subst e11
    clear hne1 hkk1 HO2 HON H1110 HK10 HB10 q0 q1 hl6 HG11 HO1
    have hsz11 := hb11.out.size
    go_wp2_with (first
      | (refine wpList_goes rfl (goes_app_ev (.tmp 45) (.tmp 46) rfl w.heap.size (.slice A2 n2 c2) ((preM a b T0 k).flatMap (·.2.2)) L' h2_11.out rfl w11.heap.size AN nN cN HLN.out rfl hN_11.out.rd ?_ hsz11) ?_
         · rw [← HL2.out]; have := HL22.out; omega
         rintro v12 w12 ⟨ho12, hg12⟩
         have HO12 := Lib.hid ho12
         have HG12 := Lib.hid hg12
         clear ho12 hg12))
    obtain ⟨A12, c12, e12⟩ := HO12.out.shape
    subst e12
    go_roundw
    · refine ⟨k + 1, A11, A12, _, _, c11, c12, by omega, by push_cast; rfl, rfl, rfl, Lib.hid ?_, Lib.hid ?_, Lib.hid ⟨Z8, HZ8.out, ?_⟩, Lib.hid ?_, Lib.hid ?_⟩
      · rw [HPN.out, List.map_append]
        refine OwnL.kept HO11.out HG12.out ?_
        cases hb : (Value.slice A2 n2 c2).ownBlock with
        | none => cases hb3 : (Value.slice A11 (k + 1) c11).ownBlock with
          | none => exact .inl rfl
          | some q => exact .inr (by simp)
        | some q => exact .inr (OwnL.apart HO11.out h2_11.out (by decide) hb)
      · rw [HPN.out, List.flatMap_append]
        simpa using HO12.out
      · exact h8_11.out.grown HG12.out (h8_11.out.apart h2_11.out (by decide))
      · rw [HTN.out, hCL]
        exact h11_11.out.grown HG12.out (h11_11.out.apart h2_11.out (by decide))
      · exact hb11.out.grown HG12.out hsz11 (fun k e => h2_11.out.base_le k e)
    · have e1 : intOf (Value.int .i64 ((k : Int) + 1)) = (k : Int) + 1 := rfl
      have e2 : intOf (Value.int .i64 (k : Int)) = (k : Int) := rfl
      rw [e1, e2]; omega
  · have hkN : k = N := by omega
    subst hkN
    clear HPR HST HLEN HOK HZ
    obtain ⟨Z8, hZ8, k8⟩ := H8.out
    obtain ⟨CL, hCL⟩ : ∃ CL, stCells (stM a b T0 k) = CL := ⟨_, rfl⟩
    have hlen : CL.length = 60 := by rw [← hCL, stCells_length]
    have hone := all_oneCell_toArray (int_one (stM a b T0 k))
    rw [hCL] at hone
    have h11 := H11.out
    rw [hCL] at h11
    have hsz9 : (Tryz.prog.info? 33).map (·.size) = some CL.toArray.size := by rw [List.size_toArray, hlen]; kernel_rfl
    have HK8 := Lib.hid k8
    have H11' := Lib.hid h11
    clear k8 h11 H8 H11
    go_upto_region 12 with fail
    apply wp_region_lit
    refine wpList_load_mid rfl 33 (.tmp 11) rfl b11 0 rfl CL _ (Blk.range H11'.out) Tryz.underlying33 rfl (by rw [hlen]; kernel_rfl) ?_
    simp only [Act.put, List.setIfInBounds_toArray, List.set_cons_zero, List.set_cons_succ]
    refine wpList_runs (.slice A1 n1 c1) rfl rfl ?_
    simp only [Act.put, List.setIfInBounds_toArray, List.set_cons_zero, List.set_cons_succ]
    refine wpList_runs (.slice A2 n2 c2) rfl rfl ?_
    simp only [Act.put, List.setIfInBounds_toArray, List.set_cons_zero, List.set_cons_succ]
    refine wpList_store_mid rfl 33 (.tmp 8) (.tmp 48) rfl w.heap.size 0 CL.toArray rfl rfl (Blk.there HK8.out (by rw [List.size_toArray, hlen, hZ8]; decide)) hsz9 hone ?_
    have k9 := HK8.out.whole CL (by rw [hlen, hZ8])
    have o1 := H1.out.farC (HK8.out.apart H1.out (by decide)) 0 CL
    have o2 := H2.out.farC (HK8.out.apart H2.out (by decide)) 0 CL
    have hb9 := bSetCells HB.out (Nat.le_refl w.heap.size) 0 CL
    obtain ⟨w9, hw9⟩ : ∃ w9, wr.setCells w.heap.size 0 CL.toArray.toList = w9 := ⟨_, rfl⟩
    have hw9' : wr.setCells w.heap.size 0 CL = w9 := hw9
    rw [hw9'] at k9 o1 o2 hb9
    rw [hw9]
    simp only [Act.put, List.setIfInBounds_toArray, List.set_cons_zero, List.set_cons_succ]
    refine wpList_runs (.slice A1 n1 c1) rfl rfl ?_
    simp only [Act.put, List.setIfInBounds_toArray, List.set_cons_zero, List.set_cons_succ]
    refine wpList_runs (.slice A2 n2 c2) rfl rfl ?_
    simp only [Act.put, List.setIfInBounds_toArray, List.set_cons_zero, List.set_cons_succ]
    refine wpList_nil ?_
    clear hw9 hw9'
    go_wp2_with fail
    refine bodyPost_ret (v := .tuple #[.agg CL.toArray, .slice A1 n1 c1, .slice A2 n2 c2]) ?_ rfl ⟨_, _, by rw [hCL], o1, o2, hb9⟩
    refine results_c2 (a := 8) (x := 9) (y := 10) (t := 33) (p := ⟨w.heap.size, 0, none⟩) (v := .agg CL.toArray) ?_ ?_ ?_
    · rfl
    · rfl
    · exact run_loadVar_mid _ _ _ 33 CL _ (Blk.range k9) Tryz.underlying33 rfl (by rw [hlen]; kernel_rfl)
end Go.Proofs.YtnaclkaapicelaaGreat

namespace Go.Proofs.YtnaclkaapicelaaGreat
open Go.RowKit Go.Shelf
set_option maxRecDepth 100000
set_option linter.unusedSimpArgs false
set_option maxHeartbeats 8000000 in
theorem match_bad (seed a b f : Int) (w : World) (h : (inB a 0 3 && (inB b 0 3 && inB f 0 5000)) = false) :
    Calls Tryz.prog 18 #[.int .u32 seed, .int .i64 a, .int .i64 b, .int .i64 f] w fun e w' => e = .returned (.tuple #[.agg (stCells zeroT).toArray, .slice none 0 0, .slice none 0 0, .int .i64 1]) ∧ Below w.heap.size w w' := by
  obtain ⟨CZ, hcz⟩ : ∃ CZ : Array Value, (stCells zeroT).toArray = CZ := ⟨_, rfl⟩
  have hbz := built_zero
  rw [hcz] at hbz ⊢
  have hsz : CZ.size = 60 := by rw [← hcz, List.size_toArray, stCells_length]
  have H1C : Hid (CZ.all (·.oneCell') = true) := Lib.hid (by rw [← hcz]; exact all_oneCell_toArray (int_one _))
  have HSZ : Hid ((Tryz.prog.info? 33).map (·.size) = some CZ.size) := Lib.hid (by rw [hsz]; kernel_rfl)
  have HSI := Lib.hid hsz
  have HCZ := Lib.hid hcz
  have HBZ := Lib.hid hbz
  have hcases : inB a 0 3 = false ∨ (inB a 0 3 = true ∧ inB b 0 3 = false) ∨ (inB a 0 3 = true ∧ inB b 0 3 = true ∧ inB f 0 5000 = false) := by
    cases h1 : inB a 0 3
    · exact .inl rfl
    · cases h2 : inB b 0 3
      · exact .inr (.inl ⟨rfl, rfl⟩)
      · exact .inr (.inr ⟨rfl, rfl, by rw [h1, h2] at h; simpa using h⟩)
  obtain ⟨ba, hba⟩ : ∃ x, inB a 0 3 = x := ⟨_, rfl⟩
  obtain ⟨bb, hbb⟩ : ∃ x, inB b 0 3 = x := ⟨_, rfl⟩
  obtain ⟨bf, hbf⟩ : ∃ x, inB f 0 5000 = x := ⟨_, rfl⟩
  have H1 := Lib.hid (fun V => bw a 0 3 V _ hba)
  have H2 := Lib.hid (fun V => bw b 0 3 V _ hbb)
  have H3 := Lib.hid (fun V => bw f 0 5000 V _ hbf)
  rw [hba, hbb, hbf] at hcases
  clear hbz hsz hcz h hba hbb hbf
  rcases hcases with rfl | ⟨rfl, rfl⟩ | ⟨rfl, rfl, rfl⟩
  all_goals
    refine (callsIn_wide (n := 3)).1 ?_
    refine callsIn_of_wp_marks Tryz.func18 rfl trivial ?_ rfl
    simp only [Tryz.ntmps18, List.size_toArray, List.length_cons, List.length_nil, Nat.reduceAdd, Nat.reduceSub, Array.replicate_succ, Array.replicate_zero, List.push_toArray, List.append_toArray, List.nil_append, List.cons_append]
    refine wpIn_wide.2 ?_
    go_upto_region 1 with fail
    refine named1 (F := fun W => Code.wp _ _ _ _ W) ?_
    intro w1 k8 hb1 hz1
    have HK8 := Lib.hid k8
    have HB1 := Lib.hid hb1
    clear k8 hb1 hz1
    go_upto_region 2 with (first
      | (go_at_call 47; first | ((with_reducible refine (H1.out _).mono ?_); rintro e w2 ⟨rfl, rfl⟩) | ((with_reducible refine (H2.out _).mono ?_); rintro e w2 ⟨rfl, rfl⟩) | ((with_reducible refine (H3.out _).mono ?_); rintro e w2 ⟨rfl, rfl⟩)))
    have k9 := HK8.out.whole CZ.toList (by rw [Array.length_toList, HSI.out]; rfl)
    rw [Array.toArray_toList] at k9
    have hb9 := bSetCells HB1.out (Nat.le_refl w.heap.size) 0 CZ.toList
    have hth : w1.there w.heap.size 0 CZ.size := Blk.there HK8.out (by rw [HSI.out]; decide)
    obtain ⟨w9, hw9⟩ : ∃ w9, w1.setCells w.heap.size 0 CZ.toList = w9 := ⟨_, rfl⟩
    rw [hw9] at k9 hb9
    apply wp_region_lit
    refine wpList_built rfl 33 [] rfl CZ [] rfl HBZ.out ?_
    simp only [Act.put, List.setIfInBounds_toArray, List.set_cons_zero, List.set_cons_succ]
    refine wpList_store_mid rfl 33 (.tmp 8) (.tmp 30) rfl w.heap.size 0 CZ rfl rfl hth HSZ.out H1C.out ?_
    rw [hw9]
    simp only [Act.put, List.setIfInBounds_toArray, List.set_cons_zero, List.set_cons_succ]
    refine wpList_runs (.slice none 0 0) rfl rfl ?_
    simp only [Act.put, List.setIfInBounds_toArray, List.set_cons_zero, List.set_cons_succ]
    refine wpList_runs (.slice none 0 0) rfl rfl ?_
    simp only [Act.put, List.setIfInBounds_toArray, List.set_cons_zero, List.set_cons_succ]
    refine wpList_runs (.int .i64 1) rfl rfl ?_
    simp only [Act.put, List.setIfInBounds_toArray, List.set_cons_zero, List.set_cons_succ]
    refine wpList_nil ?_
    clear hw9 hth
    go_wp2_with fail
    refine ⟨.tuple #[.agg CZ, .slice none 0 0, .slice none 0 0, .int .i64 1], ?_, rfl, hb9⟩
    refine results_c3 (a := 8) (x := 9) (y := 10) (z := 11) (t := 33) (p := ⟨w.heap.size, 0, none⟩) (v := .agg CZ) ?_ ?_ ?_
    · rfl
    · rfl
    · rw [← HCZ.out] at k9 ⊢
      exact run_loadVar_mid _ _ _ 33 (stCells zeroT) _ (Blk.range k9) Tryz.underlying33 rfl (by kernel_rfl)
theorem runR_range {a b : Int} {S : Nat → Int} (h : StOk S) (h0 : S 0 = 0) (h2 : S 2 = 0) : ∀ (n k : Nat) (L : List Ev), k + n ≤ 5000 →
    runR (stM a b S k) L ((List.range' k n).map fun j => (rdM a b (stM a b S j)).1) = (stM a b S (k + n), L ++ ((List.range' k n).flatMap fun j => (rdM a b (stM a b S j)).2.2), 0)
  | 0, k, L, _ => by simp [runR]
  | n + 1, k, L, hk => by
    obtain ⟨k1, k2, k3, k4⟩ := stM_ok (a := a) (b := b) h h0 h2 k (by omega)
    have hx := press_bd (stM a b S k) 0 a
    have hy := press_bd (stM a b S k) 1 b
    rw [List.range'_succ, List.map_cons, List.flatMap_cons, runR]
    have hz : stepE (stM a b S k) (rdM a b (stM a b S k)).1.1 (rdM a b (stM a b S k)).1.2 = 0 := stepE_zero k1 (by omega) (show (pressZ (stM a b S k) 0 a).toNat < 64 by omega) (show (pressZ (stM a b S k) 1 b).toNat < 64 by omega)
    rw [if_pos hz]
    have ih := runR_range (a := a) (b := b) h h0 h2 n (k + 1) (L ++ (stepS (pressZ (stM a b S k) 0 a).toNat (pressZ (stM a b S k) 1 b).toNat (stM a b S k)).2) (by omega)
    rw [show k + (n + 1) = k + 1 + n by omega, ← List.append_assoc]
    exact ih
theorem runR_pre {a b : Int} {S : Nat → Int} (h : StOk S) (h0 : S 0 = 0) (h2 : S 2 = 0) (N : Nat) (hN : N ≤ 5000) : runR S [] ((preM a b S N).map (·.1)) = (stM a b S N, (preM a b S N).flatMap (·.2.2), 0) := by
  have := runR_range (a := a) (b := b) h h0 h2 N 0 [] (by omega)
  rw [Nat.zero_add, List.nil_append] at this
  unfold preM
  rw [List.map_map, List.flatMap_map, List.range_eq_range']
  exact this
theorem pre_lt {a b : Int} {S : Nat → Int} (N : Nat) : ∀ q ∈ (preM a b S N).map (·.1), q.1 < 256 ∧ q.2 < 256 := fun q hq => by
  obtain ⟨x, hx, rfl⟩ := List.mem_map.1 hq
  unfold preM at hx
  obtain ⟨j, -, rfl⟩ := List.mem_map.1 hx
  have h1 := press_bd (stM a b S j) 0 a
  have h2 := press_bd (stM a b S j) 1 b
  exact ⟨by show (pressZ _ _ _).toNat < 256; omega, by show (pressZ _ _ _).toNat < 256; omega⟩
theorem st_neq (T : Nat → Int) (w : World) : (binOp .neq 33 (.agg (stCells T).toArray) (.agg (stCells T).toArray)).run Tryz.prog w = .ok (.bool false) w := by
  have hX : (rowOf 60 T).length = (rowOf 60 kdS).length := by rw [rowOf_length, rowOf_length]
  have e : stCells T = ivals (rowOf 60 kdS) (rowOf 60 T) := by
    rw [ivals_row _ _ _ (rowOf_length _ _)]
    unfold stCells rowOf
    refine List.map_congr_left fun i hi => ?_
    have : i < 60 := by simpa using hi
    simp [List.getD_eq_getElem?_getD, this]
  have := neq_ints st_kinds (fun cs => by unfold valOf; rw [Tryz.underlying33]) (rowOf 60 T) (rowOf 60 T) hX hX e e w
  simpa using this
theorem pb_neq (x y : Nat) (w : World) : (binOp .neq 34 (.agg #[.int .u8 x, .int .u8 y]) (.agg #[.int .u8 x, .int .u8 y])).run Tryz.prog w = .ok (.bool false) w := by
  have := neq_ints pb_kinds (fun cs => by unfold valOf; rw [Tryz.underlying34]) [(x : Int), (y : Int)] [(x : Int), (y : Int)] rfl rfl (xs := [.int .u8 x, .int .u8 y]) (ys := [.int .u8 x, .int .u8 y]) rfl rfl w
  simpa using this
section
variable {seed a b f : Int} {w : World}
/-- The chapter's example. -/
def Awake30 : Prop := ∀ w : World, Calls Tryz.prog 17 #[] w fun e w' => e = .returned (.bool true) ∧ Below w.heap.size w w'
set_option maxHeartbeats 2000000 in
theorem plays_1 (ha30 : Awake30) (h : 200 < f ∧ f ≤ 5000) : Calls Tryz.prog 5 #[.int .u32 seed, .int .i64 a, .int .i64 b, .int .i64 f] w fun e w' => e = .returned (.bool true) ∧ Below w.heap.size w w' := by
  obtain ⟨h1, h2⟩ := h
  go_enter Tryz.func5, Tryz.ntmps5
  go_upto_region 3 with (first | (go_at_call 17; refine (ha30 _).mono ?_; rintro e w2 ⟨rfl, hb2⟩))
  clear ha30
  go_wp2
  go_ret
  exact ⟨rfl, hb2⟩
set_option maxHeartbeats 4000000 in
theorem plays_2 (ha30 : Awake30) (h : ¬ (200 < f ∧ f ≤ 5000)) (hbad : (inB a 0 3 && (inB b 0 3 && inB f 0 5000)) = false) : Calls Tryz.prog 5 #[.int .u32 seed, .int .i64 a, .int .i64 b, .int .i64 f] w fun e w' => e = .returned (.bool true) ∧ Below w.heap.size w w' := by
  have HM := Lib.hid (fun V => match_bad seed a b f V hbad)
  have hb' : a < 0 ∨ (0 ≤ a ∧ 3 < a) ∨ ((0 ≤ a ∧ a ≤ 3) ∧ b < 0) ∨ ((0 ≤ a ∧ a ≤ 3) ∧ 0 ≤ b ∧ 3 < b) ∨ ((0 ≤ a ∧ a ≤ 3) ∧ (0 ≤ b ∧ b ≤ 3) ∧ f < 0) ∨ ((0 ≤ a ∧ a ≤ 3) ∧ (0 ≤ b ∧ b ≤ 3) ∧ 5000 < f) := by
    unfold inB at hbad
    simp only [Bool.and_eq_false_iff, decide_eq_false_iff_not] at hbad
    omega
  have hf : f ≤ 200 ∨ 5000 < f := by omega
  clear h hbad
  obtain ⟨TZ, htz⟩ : ∃ TZ, zeroT = TZ := ⟨_, rfl⟩
  rw [htz] at HM
  have hbz := built_zero
  rw [htz] at hbz
  obtain ⟨CZ, hcz⟩ : ∃ CZ : Array Value, (stCells TZ).toArray = CZ := ⟨_, rfl⟩
  rw [hcz] at hbz HM
  have hsz : CZ.size = 60 := by rw [← hcz, List.size_toArray, stCells_length]
  have H1C : Hid (CZ.all (·.oneCell') = true) := Lib.hid (by rw [← hcz]; exact all_oneCell_toArray (int_one _))
  have HSZ : Hid ((Tryz.prog.info? 33).map (·.size) = some CZ.size) := Lib.hid (by rw [hsz]; kernel_rfl)
  have HSI := Lib.hid hsz
  have HCZ := Lib.hid hcz
  have HBZ := Lib.hid hbz
  have HEQ : Hid (∀ W : World, (binOp .eql 33 (.agg (stCells TZ).toArray) (.agg CZ)).run Tryz.prog W = .ok (.bool true) W) := Lib.hid (fun W => by rw [← hcz]; exact st_eql TZ W)
  clear hsz hcz hbz htz
  have hqq : ((0 : Int) == 0) = true := rfl
  have hfc : f ≤ 200 ∨ (200 < f ∧ 5000 < f) := by omega
  clear hf
  rcases hb' with h1 | ⟨h0, h1⟩ | ⟨h0, h1⟩ | ⟨h0, h1, h2⟩ | ⟨h0, h1, h2⟩ | ⟨h0, h1, h2⟩
  all_goals
    rcases hfc with hf | ⟨hf, hf'⟩
  all_goals first
    | omega
    | (skip
       go_enter Tryz.func5, Tryz.ntmps5
       go_upto_region 3 with (first | (go_at_call 17; refine (ha30 _).mono ?_; rintro e w2 ⟨rfl, hb2⟩))
       clear ha30
       go_upto_region 6 with (first
         | (go_at_call 18; refine (HM.out _).mono ?_; rintro e w3 ⟨rfl, hb3⟩; have HB3 := Lib.hid (bTrans hb2 hb3); clear hb3)
         | (refine wpList_store_mid rfl 33 (.tmp 9) (.tmp 34) rfl w3.heap.size 0 CZ rfl rfl (there_new _ _ _ (by rw [HSI.out]; rfl)) HSZ.out H1C.out ?_))
       refine named_put (F := fun W => Code.wp _ _ _ _ W) (by rw [Array.length_toList, HSI.out]; rfl) ?_
       rintro w4 k9 hb4 -
       rw [Array.toArray_toList, ← HCZ.out] at k9
       have HK9 := Lib.hid k9
       have HB4 := Lib.hid (bTrans HB3.out hb4)
       have hl9 := k9.lt
       clear k9 hb4 HB3
       go_wp2_with (first
         | (refine wpList_load_mid rfl 33 (.tmp 9) rfl w3.heap.size 0 rfl (stCells TZ) _ (Blk.range HK9.out) Tryz.underlying33 rfl (by kernel_rfl) ?_)
         | (refine wpList_built rfl 33 [] rfl CZ [] rfl HBZ.out ?_)
         | (refine wpList_runs (.bool true) rfl (runs_eql rfl rfl rfl (by kernel_rfl) HEQ.out _) ?_))
       go_ret
       exact ⟨rfl, HB4.out⟩)
end
end Go.Proofs.YtnaclkaapicelaaGreat

namespace Go.Proofs.YtnaclkaapicelaaGreat
open Go.RowKit Go.Shelf
set_option maxRecDepth 100000
set_option linter.unusedSimpArgs false
section
variable {seed a b : Int} {N : Nat} {w : World}
set_option maxHeartbeats 16000000 in
theorem plays_3 (ha30 : Awake30) (hpr : PressR) (hst : StepR) (hs : U32 seed) (ha : 0 ≤ a ∧ a ≤ 3) (hb : 0 ≤ b ∧ b ≤ 3) (hN : N ≤ 200) : Calls Tryz.prog 5 #[.int .u32 seed, .int .i64 a, .int .i64 b, .int .i64 N] w fun e w' => e = .returned (.bool true) ∧ Below w.heap.size w w' := by
  obtain ⟨T0, hT0⟩ : ∃ T0, beginS seed = T0 := ⟨_, rfl⟩
  have hok := begin_ok hs
  have hz : T0 0 = 0 ∧ T0 2 = 0 := by rw [← hT0]; exact ⟨rfl, rfl⟩
  have hm := fun V => match_any seed a b N V hs ha hb (by omega)
  have hrm := fun V => rmatch_any hpr hst seed a b N V hs ha hb (by omega)
  have hbeg := fun V => gBegin_any seed V
  rw [hT0] at hok hm hrm hbeg
  have hrr := runR_pre (a := a) (b := b) hok hz.1 hz.2 N (by omega)
  have hlen := evs_len (a := a) (b := b) hok hz.1 hz.2 N (by omega)
  have hplt := pre_lt (a := a) (b := b) (S := T0) N
  obtain ⟨ps, hps⟩ : ∃ ps, (preM a b T0 N).map (·.1) = ps := ⟨_, rfl⟩
  obtain ⟨L, hL⟩ : ∃ L, (preM a b T0 N).flatMap (·.2.2) = L := ⟨_, rfl⟩
  obtain ⟨T, hT⟩ : ∃ T, stM a b T0 N = T := ⟨_, rfl⟩
  have hpn : ps.length = N := by rw [← hps, List.length_map, preM_length]
  rw [hps, hL, hT] at hrr
  rw [hps] at hplt
  rw [hL] at hlen
  have hrun := fun (W : World) (A : Option Addr) (c : Nat) (hr : Rd W W.heap.size A (ps.flatMap pbCells)) => run_any T0 A c ps W (.inl ⟨hok, by rw [hz.1]; omega, by rw [hz.2]; omega⟩) (by omega) hr hplt
  simp only [hps, hL, hT] at hm hrm
  simp only [hrr, hpn] at hrun
  obtain ⟨CB, hcb⟩ : ∃ CB : Array Value, (stCells T0).toArray = CB := ⟨_, rfl⟩
  obtain ⟨C0, hC0⟩ : ∃ C0 : Array Value, (stCells T).toArray = C0 := ⟨_, rfl⟩
  rw [hC0] at hm hrm hrun
  rw [hcb] at hbeg hrun
  have hsz : C0.size = 60 := by rw [← hC0, List.size_toArray, stCells_length]
  have H1C : Hid (C0.all (·.oneCell') = true) := Lib.hid (by rw [← hC0]; exact all_oneCell_toArray (int_one _))
  have HSZ : Hid ((Tryz.prog.info? 33).map (·.size) = some C0.size) := Lib.hid (by rw [hsz]; kernel_rfl)
  have HSI := Lib.hid hsz
  have HC0 := Lib.hid hC0
  have HM := Lib.hid hm
  have HRM := Lib.hid hrm
  have HBEG := Lib.hid hbeg
  have HRUN := Lib.hid hrun
  have HLEN := Lib.hid hlen
  have HPN := Lib.hid hpn
  have HNEQ : Hid (∀ W : World, (binOp .neq 33 (.agg (stCells T).toArray) (.agg (stCells T).toArray)).run Tryz.prog W = .ok (.bool false) W) := Lib.hid (fun W => st_neq T W)
  have HEQ : Hid (∀ W : World, (binOp .eql 33 (.agg (stCells T).toArray) (.agg (stCells T).toArray)).run Tryz.prog W = .ok (.bool true) W) := Lib.hid (fun W => st_eql T W)
  have HSA : Hid (∀ (W : World) (A B : Option Addr) (c d : Nat), Rd W W.heap.size A (L.flatMap Ev.cells) → Rd W W.heap.size B (L.flatMap Ev.cells) → Calls Tryz.prog 14 #[.slice A L.length c, .slice B L.length d] W fun e w' => e = .returned (.bool true) ∧ Below W.heap.size W w') := Lib.hid (fun W A B c d h1 h2 => (same_any A B c d L L W (by omega) h1 h2).mono fun e w' ⟨he, hb⟩ => ⟨by rw [he]; simp, hb⟩)
  obtain ⟨m, hml⟩ : ∃ m, L.length = m := ⟨_, rfl⟩
  rw [hml] at HSA
  have HML := Lib.hid hml
  have hq0 : ((0 : Int) != 0) = false := rfl
  have hq1 : ((0 : Int) == 0) = true := rfl
  clear hm hrm hbeg hrun hsz hC0 hcb hT hL hps hT0 hrr hlen hplt hpn hz hok hpr hst hml
  go_enter Tryz.func5, Tryz.ntmps5
  go_upto_region 3 with (first | (go_at_call 17; refine (ha30 _).mono ?_; rintro e w2 ⟨rfl, hb2⟩))
  clear ha30
  go_upto_region 6 with (first
    | (go_at_call 18; refine (HM.out _).mono ?_; rintro e w3 ⟨v1, v2, rfl, ho1, ho2, hb3⟩; have HO13 := Lib.hid ho1; have HO23 := Lib.hid ho2; have HB3 := Lib.hid hb3; clear ho1 ho2 hb3)
    | (refine wpList_store_mid rfl 33 (.tmp 9) (.tmp 34) rfl w3.heap.size 0 C0 rfl rfl (there_new _ _ _ (by rw [HSI.out]; rfl)) HSZ.out H1C.out ?_))
  refine named_put (F := fun W => Code.wp _ _ _ _ W) (by rw [Array.length_toList, HSI.out]; rfl) ?_
  rintro w4 k9 hb4 -
  rw [Array.toArray_toList, ← HC0.out] at k9
  obtain ⟨A1, c1, rfl⟩ := HO13.out.shape
  obtain ⟨A2, c2, rfl⟩ := HO23.out.shape
  rw [HPN.out] at HO13 ⊢
  rw [HML.out] at HO23 ⊢
  obtain ⟨g9, hg9⟩ : ∃ g9, w3.heap.size = g9 := ⟨_, rfl⟩
  rw [hg9] at k9 ⊢
  have HK9 := Lib.hid k9
  have HO1 := Lib.hid (HO13.out.below hb4)
  have HO2 := Lib.hid (HO23.out.below hb4)
  have HB4 := Lib.hid (bTrans (bTrans hb2 HB3.out) hb4)
  clear k9 hb4 HB3 HO13 HO23 HM hb2 hg9
  go_upto_region 9 with (first
    | (go_at_call 19; refine (HRM.out _).mono ?_; rintro e w5 ⟨v3, v4, rfl, ho3, ho4, hb5⟩; have HO35 := Lib.hid ho3; have HO45 := Lib.hid ho4; have HB5 := Lib.hid hb5; clear ho3 ho4 hb5)
    | (refine wpList_store_mid rfl 33 (.tmp 13) (.tmp 83) rfl w5.heap.size 0 C0 rfl rfl (there_new _ _ _ (by rw [HSI.out]; rfl)) HSZ.out H1C.out ?_))
  refine named_put (F := fun W => Code.wp _ _ _ _ W) (by rw [Array.length_toList, HSI.out]; rfl) ?_
  rintro w6 k13 hb6 -
  rw [Array.toArray_toList, ← HC0.out] at k13
  obtain ⟨A3, c3, rfl⟩ := HO35.out.shape
  obtain ⟨A4, c4, rfl⟩ := HO45.out.shape
  rw [HPN.out] at HO35 ⊢
  rw [HML.out] at HO45 ⊢
  obtain ⟨g13, hg13⟩ : ∃ g13, w5.heap.size = g13 := ⟨_, rfl⟩
  rw [hg13] at k13 ⊢
  have hb46 := bTrans HB5.out hb6
  have HK13 := Lib.hid k13
  have HK96 := Lib.hid (HK9.out.on hb46)
  have HO16 := Lib.hid (HO1.out.below hb46)
  have HO26 := Lib.hid (HO2.out.below hb46)
  have HO36 := Lib.hid (HO35.out.below hb6)
  have HO46 := Lib.hid (HO45.out.below hb6)
  have HB6 := Lib.hid (bTrans HB4.out hb46)
  have hl9 := HK96.out.lt
  have hl13 := HK13.out.lt
  clear k13 hb6 hb46 hg13 HK9 HO1 HO2 HO35 HO45 HB4 HB5 HRM
  go_upto_region 11 with (first
    | (refine wpList_load_mid rfl 33 (.tmp 9) rfl g9 0 rfl (stCells T) _ (Blk.range HK96.out) Tryz.underlying33 rfl (by kernel_rfl) ?_)
    | (refine wpList_load_mid rfl 33 (.tmp 13) rfl g13 0 rfl (stCells T) _ (Blk.range HK13.out) Tryz.underlying33 rfl (by kernel_rfl) ?_)
    | (refine wpList_runs (.bool false) rfl (runs_neq rfl rfl rfl (by kernel_rfl) HNEQ.out _) ?_)
    | (go_at_call 14; refine (HSA.out _ _ _ _ _ HO26.out.rd HO46.out.rd).mono ?_; rintro e w7 ⟨rfl, hb7⟩))
  have HO17 := Lib.hid (HO16.out.below hb7)
  have HO27 := Lib.hid (HO26.out.below hb7)
  have HO37 := Lib.hid (HO36.out.below hb7)
  have HK97 := Lib.hid (HK96.out.on hb7)
  have HB7 := Lib.hid (bTrans HB6.out hb7)
  clear hb7 HO16 HO26 HO36 HO46 HK96 HK13 HB6 hl9 hl13 HNEQ ha hb
  go_wp2_with fail
  go_loopw [16] (fun v wr => ∃ j : Nat, j ≤ N ∧ v = .int .i64 j ∧ Below w7.heap.size w7 wr) (fun v _ => N - (intOf v).toNat)
  case atStart => exact ⟨0, Nat.zero_le _, rfl, Below.refl _ _⟩
  case round =>
    obtain ⟨j, hj, rfl, hbw⟩ := hrel
    by_cases hlt : j < N
    · have hjl : j < ps.length := by rw [HPN.out]; exact hlt
      have o1 := HO17.out.below hbw
      have o3 := HO37.out.below hbw
      obtain ⟨g1, rfl, -, -, hg1⟩ := o1.formA (by omega)
      obtain ⟨g3, rfl, -, -, hg3⟩ := o3.formA (by omega)
      obtain ⟨p, hp⟩ : ∃ p, ps[j] = p := ⟨_, rfl⟩
      have r1 : wr.rangeAt g1 (j * 2) (pbCells p) := fun i v hv => o1.cell pbCells_length hjl (by rw [hp]; exact hv)
      have r3 : wr.rangeAt g3 (j * 2) (pbCells p) := fun i v hv => o3.cell pbCells_length hjl (by rw [hp]; exact hv)
      have R1 := Lib.hid r1
      have R3 := Lib.hid r3
      clear r1 r3 o1 o3 hp
      go_upto_region 14 with fail
      have hKp := Keeps.base wr
      refine wp_region_mixedT [.pure, .pure, .pure, .held, .pure, .pure, .pure, .held, .pure] (fun _ => ⟨fun _ => True, fun _ _ => True⟩) (by kernel_rfl) (by kernel_rfl) ?_
      repeat (first | (refine mix_pure rfl rfl rfl (fun K hK => ?_); go_big_quiet_op; refine hK _ ?_; clear hK K))
      refine mix_load rfl rfl (by assumption) 34 (.tmp 114) rfl g1 (j * 2) rfl (pbCells p) _ hg1 R1.out Tryz.underlying34 rfl (by kernel_rfl) ?_
      simp only [Act.put, List.setIfInBounds_toArray, List.set_cons_zero, List.set_cons_succ]
      repeat (first | (refine mix_pure rfl rfl rfl (fun K hK => ?_); go_big_quiet_op; refine hK _ ?_; clear hK K))
      refine mix_load rfl rfl (by assumption) 34 (.tmp 118) rfl g3 (j * 2) rfl (pbCells p) _ hg3 R3.out Tryz.underlying34 rfl (by kernel_rfl) ?_
      simp only [Act.put, List.setIfInBounds_toArray, List.set_cons_zero, List.set_cons_succ]
      refine mix_run (.bool false) rfl rfl (runs_neq rfl rfl rfl (by kernel_rfl) (fun W => pb_neq p.1 p.2 W)) ?_
      simp only [Act.put, List.setIfInBounds_toArray, List.set_cons_zero, List.set_cons_succ]
      refine mix_nil ?_
      intro w8 hD
      have hD : Grown wr w8 := hD
      have hb8 := bTrans hbw hD
      clear hD hKp
      go_wp2_with fail
      go_roundw
      case rel => exact ⟨j + 1, by omega, by go_num, hb8⟩
      case measure => simp [intOf]; omega
    · have HO18 := Lib.hid (HO17.out.below hbw)
      have HO28 := Lib.hid (HO27.out.below hbw)
      have HK98 := Lib.hid (HK97.out.on hbw)
      have HB8 := Lib.hid (bTrans HB7.out hbw)
      clear HO17 HO27 HO37 HK97 HB7
      go_upto_region 17 with (first
        | (go_at_call 11; refine (HBEG.out _).mono ?_; rintro e w9 ⟨rfl, hb9⟩; have HB9 := Lib.hid hb9; have HO19 := Lib.hid (HO18.out.below hb9); clear hb9)
        | (go_at_call 16; refine (HRUN.out _ _ _ HO19.out.rd).mono ?_; rintro e w10 ⟨AE, cE, rfl, ho, hb10⟩; have HE10 := Lib.hid ho; have HB10 := Lib.hid (bTrans HB9.out hb10); clear ho hb10)
        | (refine wpList_store_mid rfl 33 (.tmp 17) (.tmp 126) rfl w10.heap.size 0 C0 rfl rfl (there_new _ _ _ (by rw [HSI.out]; rfl)) HSZ.out H1C.out ?_))
      refine named_put (F := fun W => Code.wp _ _ _ _ W) (by rw [Array.length_toList, HSI.out]; rfl) ?_
      rintro w11 k17 hb11 -
      rw [Array.toArray_toList, ← HC0.out] at k17
      obtain ⟨g17, hg17⟩ : ∃ g17, w10.heap.size = g17 := ⟨_, rfl⟩
      rw [HML.out] at HE10 ⊢
      rw [hg17] at k17 ⊢
      have hb811 := bTrans HB10.out hb11
      have HK17 := Lib.hid k17
      have HK911 := Lib.hid (HK98.out.on hb811)
      have HE11 := Lib.hid (HE10.out.below hb11)
      have HO211 := Lib.hid (HO28.out.below hb811)
      have HB11 := Lib.hid (bTrans HB8.out hb811)
      have hl9 := HK911.out.lt
      have hl17 := k17.lt
      clear k17 hb11 hb811 hg17 HK98 HE10 HO28 HO18 HB10 HB8 HRUN HBEG
      go_wp2_with (first
        | (refine wpList_load_mid rfl 33 (.tmp 17) rfl g17 0 rfl (stCells T) _ (Blk.range HK17.out) Tryz.underlying33 rfl (by kernel_rfl) ?_)
        | (refine wpList_load_mid rfl 33 (.tmp 9) rfl g9 0 rfl (stCells T) _ (Blk.range HK911.out) Tryz.underlying33 rfl (by kernel_rfl) ?_)
        | (refine wpList_runs (.bool true) rfl (runs_eql rfl rfl rfl (by kernel_rfl) HEQ.out _) ?_)
        | (go_at_call 14; refine (HSA.out _ _ _ _ _ HE11.out.rd HO211.out.rd).mono ?_; rintro e w12 ⟨rfl, hb12⟩))
      go_ret
      exact ⟨rfl, bTrans HB11.out hb12⟩
end
end Go.Proofs.YtnaclkaapicelaaGreat
