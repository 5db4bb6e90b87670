/-
  The walks beneath: MatR, Awk, Lad1, Lad2, Lad3, Lad4.
-/
import Derived.Deep.Cut
import Derived.Test.YtnaclkaapicelaaGreatMb1L
import Derived.Test.YtnaclkaapicelaaGreatMa5
import Derived.Test.YtnaclkaapicelaaGreatBot3
import Derived.Test.YtnaclkaapicelaaGreatEv
import Derived.Test.YtnaclkaapicelaaGreatMild
import Derived.Test.YtnaclkaapicelaaGreatDice
namespace Go.Proofs.YtnaclkaapicelaaGreat
open Go.RowKit Go.Shelf
attribute [local go_sem] Oper.semAt_some
set_option maxRecDepth 100000
set_option linter.unusedSimpArgs false
/-- An operation that is told what it does. -/
theorem wpList_goes {P : Program} {ops : Array Oper} {rest : List Oper} {o : Oper} {a : Act} {w : World} {Q : Exit → Act → World → Prop} {T : Value → World → Prop} (hw : Region.wanted o (yielded ops a.tmps) = true)
    (h : Oper.goes P o a w T) (k : ∀ v w', T v w' → wpList P ops Q rest (a.put o.dst v) w') : wpList P ops Q (o :: rest) a w :=
  wpList_step fun K hK => by
    simp only [hw, if_true]
    unfold Oper.wp
    unfold Oper.goes at h
    generalize (execOp a.eval o).run P w = r at *
    cases r with
    | ok x w' =>
      cases x <;> simp only [Oper.goesUpon] at h
      case value u => exact hK _ _ (k _ _ h)
      case skip => exact hK _ _ (k _ _ h)
      case enter f args => exact h.mono fun e w'' ⟨v, he, hh⟩ => by subst he; exact hK _ _ (k _ _ hh)
    | halt x w' => simp only [Oper.goesUpon] at h
/-- What the document's Press answers. -/
def PressR : Prop := ∀ (S : Nat → Int) (who skill : Int) (w : World), StOk S → 0 ≤ who ∧ who ≤ 1 → 0 ≤ skill ∧ skill ≤ 3 → Calls Tryz.prog 49 #[.agg (stCells S).toArray, .int .i64 who, .int .i64 skill] w fun e w' => e = .returned (.int .u8 (pressZ S who skill)) ∧ Below w.heap.size w w'
/-- What the document's Step answers. -/
def StepR : Prop := ∀ (S : Nat → Int) (n0 n1 : Nat) (w : World) (T : Nat → Int) (M : List Ev), StOk S → n0 < 64 → n1 < 64 → stepS n0 n1 S = (T, M) → Calls Tryz.prog 13 #[.agg (stCells S).toArray, .agg #[.int .u8 n0, .int .u8 n1]] w fun e w' => ∃ A n c, e = .returned (.tuple #[.agg (stCells T).toArray, .slice A n c]) ∧ OwnL w' w.heap.size 65 9 (.slice A n c) Ev.cells M ∧ Below w.heap.size w w'
theorem evs_len {a b : Int} {S : Nat → Int} (h : StOk S) (h0 : S 0 = 0) (h2 : S 2 = 0) : ∀ N, N ≤ 5000 → ((preM a b S N).flatMap (·.2.2)).length ≤ 22 * N
  | 0, _ => by simp [preM]
  | N + 1, hN => by
    obtain ⟨k1, k2, k3, k4⟩ := stM_ok (a := a) (b := b) h h0 h2 N (by omega)
    have := (stepS_ok (pressZ (stM a b S N) 0 a).toNat (pressZ (stM a b S N) 1 b).toNat k1 (by omega) (by omega)).2.1
    have h3 := evs_len (a := a) (b := b) h h0 h2 N (by omega)
    rw [preM_succ, List.flatMap_append, List.length_append]
    simp only [List.flatMap_cons, List.flatMap_nil, List.append_nil]
    have e : ((rdM a b (stM a b S N)).2.2).length ≤ 22 := this
    omega
set_option maxHeartbeats 16000000 in
theorem rmatch_any (hpr : PressR) (hst : StepR) (seed a b : Int) (N : Nat) (w : World) (hs : U32 seed) (ha : 0 ≤ a ∧ a ≤ 3) (hb : 0 ≤ b ∧ b ≤ 3) (hN : N ≤ 5000) :
    Calls Tryz.prog 19 #[.int .u32 seed, .int .i64 a, .int .i64 b, .int .i64 N] w fun e w' => ∃ v1 v2 : Value, e = .returned (.tuple #[.agg (stCells (stM a b (beginS seed) N)).toArray, v1, v2]) ∧ OwnL w' w.heap.size 34 2 v1 pbCells ((preM a b (beginS seed) N).map (·.1)) ∧ OwnL w' w.heap.size 65 9 v2 Ev.cells ((preM a b (beginS seed) N).flatMap (·.2.2)) ∧ Below w.heap.size w w' := by
  have HOK := Lib.hid (begin_ok hs)
  obtain ⟨T0, hT0⟩ : ∃ T0, beginS seed = T0 := ⟨_, rfl⟩
  have hbeg := fun V => r12Begin_any seed V
  have hz : T0 0 = 0 ∧ T0 2 = 0 := by rw [← hT0]; exact ⟨rfl, rfl⟩
  rw [hT0] at hbeg HOK ⊢
  have HLEN := Lib.hid (fun k hk => evs_len (a := a) (b := b) HOK.out hz.1 hz.2 k hk)
  obtain ⟨C0, hC0⟩ : ∃ C0 : Array Value, (stCells T0).toArray = C0 := ⟨_, rfl⟩
  rw [hC0] at hbeg
  have hsz : C0.size = 60 := by rw [← hC0, List.size_toArray, stCells_length]
  have H1C : Hid (C0.all (·.oneCell') = true) := Lib.hid (by rw [← hC0]; exact all_oneCell_toArray (int_one _))
  have HSZ : Hid ((Tryz.prog.info? 33).map (·.size) = some C0.size) := Lib.hid (by rw [hsz]; kernel_rfl)
  have HSI := Lib.hid hsz
  have HC0 := Lib.hid hC0
  have HBEG := Lib.hid hbeg
  have HZ := Lib.hid hz
  have HPR := Lib.hid hpr
  have HST := Lib.hid hst
  have HAB := Lib.hid (And.intro ha hb)
  clear hbeg hsz hC0 hT0 hz hpr hst ha hb
  go_enter Tryz.func19, Tryz.ntmps19
  go_upto_region 1 with fail
  refine named1 (F := fun W => Code.wp _ _ _ _ W) ?_
  intro w1 k8 hb1 hz1
  have HK8 := Lib.hid k8
  have HB1 := Lib.hid hb1
  clear k8 hb1 hz1
  go_upto_region 2 with (first
    | (go_at_call 12; refine (HBEG.out _).mono ?_; rintro e w3 ⟨rfl, hb3⟩; have HB3 := Lib.hid hb3; clear hb3)
    | (refine wpList_store_mid rfl 33 (.tmp 11) (.tmp 19) rfl w3.heap.size 0 C0 rfl rfl (there_new _ _ _ (by rw [HSI.out]; rfl)) HSZ.out H1C.out ?_))
  refine named_put (F := fun W => Code.wp _ _ _ _ W) (by rw [Array.length_toList, HSI.out]; rfl) ?_
  rintro w4 k11 hb4 -
  rw [Array.toArray_toList, ← HC0.out] at k11
  obtain ⟨b11, hb11⟩ : ∃ b11, w3.heap.size = b11 := ⟨_, rfl⟩
  have hge : w.heap.size ≤ b11 := by rw [← hb11]; exact (bTrans HB1.out HB3.out).size
  have hlt8 : w.heap.size < b11 := by have h1 := HK8.out.lt; have h2 := HB3.out.size; omega
  have HK84 := Lib.hid ((HK8.out.on HB3.out).on hb4)
  have HB4 := Lib.hid (bTrans (bTrans HB1.out HB3.out) hb4)
  rw [hb11] at k11 ⊢
  have HK11 := Lib.hid k11
  clear k11 hb4 hb11 HK8 HB1 HB3 HBEG H1C HSZ HC0 HSI
  go_upto_region 4 with fail
  obtain ⟨w5, hw5⟩ : ∃ w5, w5 = ((w4.alloc (.cells #[] 34)).alloc (.cells #[] 65)) := ⟨_, rfl⟩
  have ho1 : OwnL w5 w.heap.size 34 2 (.slice (some ⟨w4.heap.size, 0, none⟩) 0 0) pbCells [] := by
    rw [hw5]
    exact (OwnL.lit (f := pbCells) [] #[] HB4.out.size (by simp) pbCells_length rfl rfl rfl).alloc _
  have ho2 : OwnL w5 w.heap.size 65 9 (.slice (some ⟨w4.heap.size + 1, 0, none⟩) 0 0) Ev.cells [] := by
    rw [hw5]
    have := OwnL.lit (w := w4.alloc (.cells #[] 34)) (base := w.heap.size) (E := 65) (f := Ev.cells) [] #[] (by rw [World.size_alloc]; exact Nat.le_succ_of_le HB4.out.size) (by simp) Ev.cells_length (n := 0) (c := 0) rfl rfl rfl
    rwa [World.size_alloc] at this
  have hb45 : Below w4.heap.size w4 w5 := by rw [hw5]; exact bAlloc (bAlloc (Below.refl _ _) _) _
  rw [← hw5]
  have HO1 := Lib.hid ho1
  have HO2 := Lib.hid ho2
  have HK85 := Lib.hid (HK84.out.on hb45)
  have HK15 := Lib.hid (HK11.out.on hb45)
  have HB5 := Lib.hid (bTrans HB4.out hb45)
  clear hw5 ho1 ho2 hb45 HK84 HK11 HB4
  go_wp2_with fail
  go_loopw [12, 13, 14] (fun v1 v2 v wr => ∃ (k : Nat) (A1 A2 : Option Addr) (n1 n2 c1 c2 : Nat), k ≤ N ∧ v = .int .i64 k ∧ v1 = .slice A1 n1 c1 ∧ v2 = .slice A2 n2 c2 ∧ Hid (OwnL wr w.heap.size 34 2 (.slice A1 n1 c1) pbCells ((preM a b T0 k).map (·.1))) ∧ Hid (OwnL wr w.heap.size 65 9 (.slice A2 n2 c2) Ev.cells ((preM a b T0 k).flatMap (·.2.2))) ∧
    Hid (∃ Z : Array Value, Z.size = 60 ∧ Blk wr w.heap.size 33 Z) ∧ Hid (Blk wr b11 33 (stCells (stM a b T0 k)).toArray) ∧ Hid (Below w.heap.size w wr)) (fun _ _ v _ => N - (intOf v).toNat)
  case atStart => exact ⟨0, _, _, _, _, _, _, Nat.zero_le _, rfl, rfl, rfl, HO1, HO2, Lib.hid ⟨_, rfl, HK85.out⟩, HK15, HB5⟩
  case round =>
  obtain ⟨k, A1, A2, n1, n2, c1, c2, hk, rfl, rfl, rfl, H1, H2, H8, H11, HB⟩ := hrel
  clear HO1 HO2 HK85 HK15 HB5
  by_cases hlt : k < N
  · as_aux_lemma =>
    obtain ⟨q1, q2, q3, q4⟩ := stM_ok (a := a) (b := b) HOK.out HZ.out.1 HZ.out.2 k (by omega)
    have hsucc : stM a b T0 (k + 1) = (rdM a b (stM a b T0 k)).2.1 := rfl
    have hpsucc := preM_succ a b T0 k
    obtain ⟨S, hS⟩ : ∃ S, stM a b T0 k = S := ⟨_, rfl⟩
    rw [hS] at q1 q2 q3 q4 hsucc hpsucc H11
    have hx0 := press_bd S 0 a
    have hy0 := press_bd S 1 b
    obtain ⟨x, hxn⟩ := Int.eq_ofNat_of_zero_le hx0.1
    obtain ⟨y, hyn⟩ := Int.eq_ofNat_of_zero_le hy0.1
    obtain ⟨T', L', hTL⟩ : ∃ T' L', stepS x y S = (T', L') := ⟨_, _, rfl⟩
    have hrd : rdM a b S = ((x, y), T', L') := by
      unfold rdM
      rw [hxn, hyn]
      show ((x, y), stepS x y S) = _
      rw [hTL]
    rw [hrd] at hsucc hpsucc
    have hl22 : L'.length ≤ 22 := by
      have := (stepS_ok x y q1 (by omega) (by omega)).2.1
      rw [hTL] at this; exact this
    have hpr0 := fun V => HPR.out S 0 a V q1 ⟨by decide, by decide⟩ HAB.out.1
    have hpr1 := fun V => HPR.out S 1 b V q1 ⟨by decide, by decide⟩ HAB.out.2
    rw [hxn] at hpr0
    rw [hyn] at hpr1
    have hstp := fun V => HST.out S x y V T' L' q1 (by omega) (by omega) hTL
    have hlen := HLEN.out k (by omega)
    obtain ⟨C1, hC1⟩ : ∃ C1 : Array Value, (stCells T').toArray = C1 := ⟨_, rfl⟩
    rw [hC1] at hstp
    have hsz1 : C1.size = 60 := by rw [← hC1, List.size_toArray, stCells_length]
    have H1C : Hid (C1.all (·.oneCell') = true) := Lib.hid (by rw [← hC1]; exact all_oneCell_toArray (int_one _))
    have HSZ : Hid ((Tryz.prog.info? 33).map (·.size) = some C1.size) := Lib.hid (by rw [hsz1]; kernel_rfl)
    have HS1 := Lib.hid hsz1
    have HC1 := Lib.hid hC1
    have HPR0 : Hid (∀ V, Calls Tryz.prog 49 #[.agg (stCells S).toArray, .int .i64 0, .int .i64 a] V fun e w' => e = .returned (.int .u8 (x : Int)) ∧ Below V.heap.size V w') := Lib.hid hpr0
    have HPR1 : Hid (∀ V, Calls Tryz.prog 49 #[.agg (stCells S).toArray, .int .i64 1, .int .i64 b] V fun e w' => e = .returned (.int .u8 (y : Int)) ∧ Below V.heap.size V w') := Lib.hid hpr1
    have HSP := Lib.hid hstp
    have HTN : Hid (stM a b T0 (k + 1) = T') := Lib.hid hsucc
    have HPN : Hid (preM a b T0 (k + 1) = preM a b T0 k ++ [((x, y), T', L')]) := Lib.hid hpsucc
    have HL22 := Lib.hid hl22
    have HLK := Lib.hid hlen
    have hlg := H11.out.lt
    have hszw := HB.out.size
    obtain ⟨Z8, hZ8, k8⟩ := H8.out
    have HK8 := Lib.hid k8
    have HZ8 := Lib.hid hZ8
    clear q1 q2 q3 q4 hsucc hpsucc hS hx0 hy0 hxn hyn hTL hrd hl22 hpr0 hpr1 hstp hC1 hsz1 HOK HZ HPR HST HLEN hlen k8 hZ8 H8
    go_upto_region 7 with fail
    have hKp := Keeps.base wr
    refine wp_region_mixedT [.held, .pure, .make, .held, .pure, .make, .pure, .make, .tail] (fun | 2 => valF (.int .u8 (x : Int)) | 5 => valF (.int .u8 (y : Int)) | _ => newTold wr 34 #[.int .u8 0, .int .u8 0]) (by kernel_rfl) (by kernel_rfl) ?_
    refine mix_load rfl rfl (by assumption) 33 (.tmp 11) rfl b11 0 rfl (stCells S) _ hlg (Blk.range H11.out) Tryz.underlying33 rfl (by kernel_rfl) ?_
    simp only [Act.put, List.setIfInBounds_toArray, List.set_cons_zero, List.set_cons_succ]
    repeat (first | (refine mix_pure rfl rfl rfl (fun K hK => ?_); go_big_quiet_op; refine hK _ ?_; clear hK K) | (refine mix_held rfl rfl rfl (by assumption) (fun K hK => ?_); go_big_quiet_op; refine hK _ ?_; clear hK K))
    refine mix_make rfl rfl (by assumption) valF_st (fun V hV => ?_) ?_
    · have HS2 := Lib.hid (valF_of (HPR0.out V))
      go_simp
      exact HS2.out
    rintro _ rfl hKp2
    simp only [Act.put, List.setIfInBounds_toArray, List.set_cons_zero, List.set_cons_succ]
    refine mix_load rfl rfl (by assumption) 33 (.tmp 11) rfl b11 0 rfl (stCells S) _ hlg (Blk.range H11.out) Tryz.underlying33 rfl (by kernel_rfl) ?_
    simp only [Act.put, List.setIfInBounds_toArray, List.set_cons_zero, List.set_cons_succ]
    repeat (first | (refine mix_pure rfl rfl rfl (fun K hK => ?_); go_big_quiet_op; refine hK _ ?_; clear hK K) | (refine mix_held rfl rfl rfl (by assumption) (fun K hK => ?_); go_big_quiet_op; refine hK _ ?_; clear hK K))
    refine mix_make rfl rfl (by assumption) valF_st (fun V hV => ?_) ?_
    · have HS2 := Lib.hid (valF_of (HPR1.out V))
      go_simp
      exact HS2.out
    rintro _ rfl hKp3
    simp only [Act.put, List.setIfInBounds_toArray, List.set_cons_zero, List.set_cons_succ]
    refine mix_built rfl rfl 34 [(0, .tmp 29), (1, .tmp 32)] rfl _ _ rfl (built_pb x y) ?_
    simp only [Act.put, List.setIfInBounds_toArray, List.set_cons_zero, List.set_cons_succ]
    refine mix_make rfl rfl (by assumption) newTold_st (newTold_makes rfl zero_pb rfl) ?_
    rintro v ⟨g6, rfl⟩ hKp4
    simp only [Act.put, List.setIfInBounds_toArray, List.set_cons_zero, List.set_cons_succ]
    refine mix_store rfl rfl 34 (.tmp 15) (.tmp 33) rfl g6 0 #[.int .u8 (x : Int), .int .u8 (y : Int)] rfl rfl (fun V hV => ?_) (by kernel_rfl) (by simp [Value.oneCell']) ?_
    · exact Blk.there (hV.2 g6 rfl).2 (by show 0 + 2 ≤ 2; decide)
    simp only [Act.put, List.setIfInBounds_toArray, List.set_cons_zero, List.set_cons_succ]
    refine mix_nil ?_
    rintro V' ⟨V, hD, rfl⟩
    obtain ⟨⟨⟨hg, -⟩, -⟩, hR⟩ := hD
    obtain ⟨hge6, hBg⟩ := hR g6 rfl
    have hg : Grown wr V := hg
    have hn6 := hBg.whole [.int .u8 (x : Int), .int .u8 (y : Int)] rfl
    have hs6 := (H11.out.on hg).farC (show b11 ≠ g6 by omega) 0 [.int .u8 (x : Int), .int .u8 (y : Int)]
    have hk6 := (HK8.out.on hg).farC (show w.heap.size ≠ g6 by omega) 0 [.int .u8 (x : Int), .int .u8 (y : Int)]
    have hb6 := bSetCells hg hge6 0 [.int .u8 (x : Int), .int .u8 (y : Int)]
    obtain ⟨w6, hw6⟩ : ∃ w6, V.setCells g6 0 [.int .u8 (x : Int), .int .u8 (y : Int)] = w6 := ⟨_, rfl⟩
    rw [hw6] at hn6 hs6 hk6 hb6
    first | rw [hw6] | (show Exit.then _ _ _ _ (V.setCells g6 0 [.int .u8 (x : Int), .int .u8 (y : Int)]); rw [hw6])
    have HN6 := Lib.hid hn6
    have H116 := Lib.hid hs6
    have HK86 := Lib.hid hk6
    have H16 := Lib.hid (H1.out.below hb6)
    have H26 := Lib.hid (H2.out.below hb6)
    have HB6 := Lib.hid (bTrans HB.out hb6)
    have hl6 := hn6.lt
    have q0 := hn6.cell 0
    have q1 := hn6.cell 1
    simp only [List.getElem?_toArray, List.getElem?_cons_zero, List.getElem?_cons_succ] at q0 q1
    clear hw6 hn6 hs6 hk6 hb6 hg hge6 hBg hR hKp hKp2 hKp3 hKp4 HPR0 HPR1 H1 H2 H11 HK8 HB hlg hszw
    go_upto_region 9 with (first
      | (refine wpList_load_mid rfl 33 (.tmp 11) rfl b11 0 rfl (stCells S) _ (Blk.range H116.out) Tryz.underlying33 rfl (by kernel_rfl) ?_)
      | (go_at_call 13; refine (HSP.out _).mono ?_; rintro e w7 ⟨AN, nN, cN, rfl, ho7, hb7⟩; have HO7 := Lib.hid ho7; have HB7 := Lib.hid hb7; clear ho7 hb7)
      | (refine wpList_store_mid rfl 33 (.tmp 16) (.tmp 38) rfl w7.heap.size 0 C1 rfl rfl (there_new _ _ _ (by rw [HS1.out]; rfl)) HSZ.out H1C.out ?_))
    refine named_put (F := fun W => Code.wp _ _ _ _ W) (by rw [Array.length_toList, HS1.out]; rfl) ?_
    rintro w8 hk8 hb8 -
    rw [Array.toArray_toList] at hk8
    have hb68 := bTrans HB7.out hb8
    have hg16 : w.heap.size < w7.heap.size ∧ b11 < w7.heap.size := by have h1 := HK86.out.lt; have h2 := H116.out.lt; have h3 := HB7.out.size; omega
    obtain ⟨g16, hg16'⟩ : ∃ g16, w7.heap.size = g16 := ⟨_, rfl⟩
    rw [hg16'] at hk8 hg16 ⊢
    have HG8 := Lib.hid hk8
    have HN8 := Lib.hid (HN6.out.on hb68)
    have H118 := Lib.hid (H116.out.on hb68)
    have HK88 := Lib.hid (HK86.out.on hb68)
    have H18 := Lib.hid (H16.out.below hb68)
    have H28 := Lib.hid (H26.out.below hb68)
    have HO8 := Lib.hid (HO7.out.below hb8)
    have HB8 := Lib.hid (bTrans HB6.out hb68)
    clear hk8 hb8 hb68 hg16' HN6 H116 HK86 H16 H26 HO7 HB6 HB7 q0 q1 hl6 HSP H1C HSZ
    have HI := Lib.hid (int_one T')
    obtain ⟨CL, hCL⟩ : ∃ CL, stCells T' = CL := ⟨_, rfl⟩
    have hlen : CL.length = 60 := by rw [← hCL, stCells_length]
    have hcl := HC1.out
    rw [hCL] at HI hcl
    have hG9 := HG8.out
    rw [← hcl] at hG9
    have hone := all_oneCell_toArray HI.out
    have hsz9 : (Tryz.prog.info? 33).map (·.size) = some CL.toArray.size := by rw [List.size_toArray, hlen]; kernel_rfl
    have hlg9 := hG9.lt
    have hls9 := H118.out.lt
    apply wp_region_lit
    refine wpList_load_mid rfl 33 (.tmp 16) rfl g16 0 rfl CL _ (Blk.range hG9) Tryz.underlying33 rfl (by rw [hlen]; kernel_rfl) ?_
    simp only [Act.put, List.setIfInBounds_toArray, List.set_cons_zero, List.set_cons_succ]
    refine wpList_store_mid rfl 33 (.tmp 11) (.tmp 40) rfl b11 0 CL.toArray rfl rfl (Blk.there H118.out (by rw [List.size_toArray, List.size_toArray, stCells_length, hlen]; decide)) hsz9 hone ?_
    have h1110 := H118.out.whole CL (by rw [List.size_toArray, stCells_length, hlen])
    have hn10 := HN8.out.farC (show g6 ≠ b11 from fun e => by
      have h1 : w8.heap[g6]? = some (.cells #[.int .u8 (x : Int), .int .u8 (y : Int)] 34 (0, 0)) := HN8.out
      have h2 : w8.heap[b11]? = some (.cells (stCells S).toArray 33 (0, 0)) := H118.out
      rw [e, h2] at h1
      cases h1) 0 CL
    have hk10 := HK88.out.farC (show w.heap.size ≠ b11 by omega) 0 CL
    have ho1 := H18.out.farC (H118.out.apart H18.out (by decide)) 0 CL
    have ho2 := H28.out.farC (H118.out.apart H28.out (by decide)) 0 CL
    have hoN := HO8.out.farC (H118.out.apart HO8.out (by decide)) 0 CL
    have hb10 := bSetCells HB8.out hge 0 CL
    obtain ⟨w10, hw10⟩ : ∃ w10, w8.setCells b11 0 CL.toArray.toList = w10 := ⟨_, rfl⟩
    have hw10' : w8.setCells b11 0 CL = w10 := hw10
    rw [hw10'] at h1110 hn10 hk10 ho1 ho2 hoN hb10
    rw [hw10]
    simp only [Act.put, List.setIfInBounds_toArray, List.set_cons_zero, List.set_cons_succ]
    refine wpList_nil ?_
    have H1110 := Lib.hid h1110
    have HK10 := Lib.hid hk10
    have HO1 := Lib.hid ho1
    have HO2 := Lib.hid ho2
    have HON := Lib.hid hoN
    have HB10 := Lib.hid hb10
    have q0 := hn10.cell 0
    have q1 := hn10.cell 1
    have hl6 := hn10.lt
    simp only [List.getElem?_toArray, List.getElem?_cons_zero, List.getElem?_cons_succ] at q0 q1
    have hl1 := HO1.out.len
    have hl2 := HO2.out.len
    have hlN := HON.out.len
    rw [List.length_map, preM_length] at hl1
    have hb2 := HLK.out
    rw [← hl2] at hb2
    have HL1 := Lib.hid hl1
    have HL2 := Lib.hid hl2
    have HLN := Lib.hid hlN
    clear hl1 hl2 hlN hw10 hw10' h1110 hn10 hk10 ho1 ho2 hoN hb10 hG9 hone hsz9 hlg9 hls9 hcl HG8 HN8 H118 HK88 H18 H28 HO8 HB8 HI
    have hsz10 := HB10.out.size
    go_upto_region 11 with (first
      | (refine wpList_goes rfl (goes_app_pb (.tmp 41) (.tmp 43) rfl w.heap.size (.slice A1 n1 c1) ((preM a b T0 k).map (·.1)) [(x, y)] (HO1.out.alloc _) rfl (w10.heap.size + 1) (some ⟨w10.heap.size, 0, none⟩) 1 1 rfl rfl ?_ ?_ ?_) ?_
         · exact rd_new w10 #[.int .u8 (x : Int), .int .u8 (y : Int)] 34 w10.heap.size rfl (w10.heap.size + 1) (by omega)
         · rw [List.length_map, preM_length, List.length_singleton]; omega
         · rw [World.size_alloc]; omega
         rintro v11 w11 ⟨ho11, hg11⟩
         have HO11 := Lib.hid ho11
         have HG11 := Lib.hid hg11
         clear ho11 hg11))
    have hne1 : ∀ (E3 : TypeId) (m3 : Nat) (A3 : Option Addr) (n3 c3 : Nat) (L3 : List Ev), E3 ≠ 34 → OwnL w10 m3 E3 9 (.slice A3 n3 c3) Ev.cells L3 → OwnL w11 m3 E3 9 (.slice A3 n3 c3) Ev.cells L3 := fun E3 m3 A3 n3 c3 L3 hE h3 => OwnL.kept (h3.alloc _) HG11.out (by
      cases hb : (Value.slice A1 n1 c1).ownBlock with
      | none => cases hb3 : (Value.slice A3 n3 c3).ownBlock with
        | none => exact .inl rfl
        | some q => exact .inr (by simp)
      | some q => exact .inr (OwnL.apart h3 HO1.out hE hb))
    have hkk1 : ∀ (g : Nat) (cs : Array Value), Blk w10 g 33 cs → Blk w11 g 33 cs := fun g cs h => (h.alloc _).grown HG11.out (h.apart HO1.out (by decide))
    have h2_11 := Lib.hid (hne1 _ _ _ _ _ _ (by decide) HO2.out)
    have hN_11 := Lib.hid (hne1 _ _ _ _ _ _ (by decide) HON.out)
    have h11_11 := Lib.hid (hkk1 _ _ H1110.out)
    have h8_11 := Lib.hid (hkk1 _ _ HK10.out)
    have hb11 : Hid (Below w.heap.size w w11) := Lib.hid ((bAlloc HB10.out _).grown HG11.out (by rw [World.size_alloc]; omega) (fun k e => HO1.out.base_le k e))
    obtain ⟨A11, c11, e11⟩ := HO11.out.shape
    rw [List.length_append, List.length_map, preM_length, List.length_singleton] at e11
    subst e11
    clear hne1 hkk1 HO2 HON H1110 HK10 HB10 q0 q1 hl6 HG11 HO1
    have hsz11 := hb11.out.size
    go_wp2_with (first
      | (refine wpList_goes rfl (goes_app_ev (.tmp 45) (.tmp 46) rfl w.heap.size (.slice A2 n2 c2) ((preM a b T0 k).flatMap (·.2.2)) L' h2_11.out rfl w11.heap.size AN nN cN HLN.out rfl hN_11.out.rd ?_ hsz11) ?_
         · rw [← HL2.out]; have := HL22.out; omega
         rintro v12 w12 ⟨ho12, hg12⟩
         have HO12 := Lib.hid ho12
         have HG12 := Lib.hid hg12
         clear ho12 hg12))
    obtain ⟨A12, c12, e12⟩ := HO12.out.shape
    subst e12
    go_roundw
    · refine ⟨k + 1, A11, A12, _, _, c11, c12, by omega, by push_cast; rfl, rfl, rfl, Lib.hid ?_, Lib.hid ?_, Lib.hid ⟨Z8, HZ8.out, ?_⟩, Lib.hid ?_, Lib.hid ?_⟩
      · rw [HPN.out, List.map_append]
        refine OwnL.kept HO11.out HG12.out ?_
        cases hb : (Value.slice A2 n2 c2).ownBlock with
        | none => cases hb3 : (Value.slice A11 (k + 1) c11).ownBlock with
          | none => exact .inl rfl
          | some q => exact .inr (by simp)
        | some q => exact .inr (OwnL.apart HO11.out h2_11.out (by decide) hb)
      · rw [HPN.out, List.flatMap_append]
        simpa using HO12.out
      · exact h8_11.out.grown HG12.out (h8_11.out.apart h2_11.out (by decide))
      · rw [HTN.out, hCL]
        exact h11_11.out.grown HG12.out (h11_11.out.apart h2_11.out (by decide))
      · exact hb11.out.grown HG12.out hsz11 (fun k e => h2_11.out.base_le k e)
    · have e1 : intOf (Value.int .i64 ((k : Int) + 1)) = (k : Int) + 1 := rfl
      have e2 : intOf (Value.int .i64 (k : Int)) = (k : Int) := rfl
      rw [e1, e2]; omega
  · have hkN : k = N := by omega
    subst hkN
    clear HPR HST HLEN HOK HZ
    obtain ⟨Z8, hZ8, k8⟩ := H8.out
    obtain ⟨CL, hCL⟩ : ∃ CL, stCells (stM a b T0 k) = CL := ⟨_, rfl⟩
    have hlen : CL.length = 60 := by rw [← hCL, stCells_length]
    have hone := all_oneCell_toArray (int_one (stM a b T0 k))
    rw [hCL] at hone
    have h11 := H11.out
    rw [hCL] at h11
    have hsz9 : (Tryz.prog.info? 33).map (·.size) = some CL.toArray.size := by rw [List.size_toArray, hlen]; kernel_rfl
    have HK8 := Lib.hid k8
    have H11' := Lib.hid h11
    clear k8 h11 H8 H11
    go_upto_region 12 with fail
    apply wp_region_lit
    refine wpList_load_mid rfl 33 (.tmp 11) rfl b11 0 rfl CL _ (Blk.range H11'.out) Tryz.underlying33 rfl (by rw [hlen]; kernel_rfl) ?_
    simp only [Act.put, List.setIfInBounds_toArray, List.set_cons_zero, List.set_cons_succ]
    refine wpList_runs (.slice A1 n1 c1) rfl rfl ?_
    simp only [Act.put, List.setIfInBounds_toArray, List.set_cons_zero, List.set_cons_succ]
    refine wpList_runs (.slice A2 n2 c2) rfl rfl ?_
    simp only [Act.put, List.setIfInBounds_toArray, List.set_cons_zero, List.set_cons_succ]
    refine wpList_store_mid rfl 33 (.tmp 8) (.tmp 48) rfl w.heap.size 0 CL.toArray rfl rfl (Blk.there HK8.out (by rw [List.size_toArray, hlen, hZ8]; decide)) hsz9 hone ?_
    have k9 := HK8.out.whole CL (by rw [hlen, hZ8])
    have o1 := H1.out.farC (HK8.out.apart H1.out (by decide)) 0 CL
    have o2 := H2.out.farC (HK8.out.apart H2.out (by decide)) 0 CL
    have hb9 := bSetCells HB.out (Nat.le_refl w.heap.size) 0 CL
    obtain ⟨w9, hw9⟩ : ∃ w9, wr.setCells w.heap.size 0 CL.toArray.toList = w9 := ⟨_, rfl⟩
    have hw9' : wr.setCells w.heap.size 0 CL = w9 := hw9
    rw [hw9'] at k9 o1 o2 hb9
    rw [hw9]
    simp only [Act.put, List.setIfInBounds_toArray, List.set_cons_zero, List.set_cons_succ]
    refine wpList_runs (.slice A1 n1 c1) rfl rfl ?_
    simp only [Act.put, List.setIfInBounds_toArray, List.set_cons_zero, List.set_cons_succ]
    refine wpList_runs (.slice A2 n2 c2) rfl rfl ?_
    simp only [Act.put, List.setIfInBounds_toArray, List.set_cons_zero, List.set_cons_succ]
    refine wpList_nil ?_
    clear hw9 hw9'
    go_wp2_with fail
    refine bodyPost_ret (v := .tuple #[.agg CL.toArray, .slice A1 n1 c1, .slice A2 n2 c2]) ?_ rfl ⟨_, _, by rw [hCL], o1, o2, hb9⟩
    refine results_c2 (a := 8) (x := 9) (y := 10) (t := 33) (p := ⟨w.heap.size, 0, none⟩) (v := .agg CL.toArray) ?_ ?_ ?_
    · rfl
    · rfl
    · exact run_loadVar_mid _ _ _ 33 CL _ (Blk.range k9) Tryz.underlying33 rfl (by rw [hlen]; kernel_rfl)
end Go.Proofs.YtnaclkaapicelaaGreat

namespace Go.Proofs.YtnaclkaapicelaaGreat
open Go.RowKit
/-- The chapter's example. -/
def Awake30 : Prop := ∀ w : World, Calls Tryz.prog 17 #[] w fun e w' => e = .returned (.bool true) ∧ Below w.heap.size w w'
end Go.Proofs.YtnaclkaapicelaaGreat

namespace Go.Proofs.YtnaclkaapicelaaGreat
open Go.RowKit
set_option maxRecDepth 100000
def isDth (who : Int) (e : Ev) : Bool := e.kind == 5 && e.emitter == who
def dthN (l : List Ev) (who : Int) : Nat := l.countP (isDth who)
theorem dthN_take (l : List Ev) (who : Int) (k : Nat) (h : k < l.length) : dthN (l.take (k + 1)) who = dthN (l.take k) who + if isDth who l[k] = true then 1 else 0 := by
  unfold dthN
  rw [List.take_succ_eq_append_getElem h, List.countP_append, List.countP_singleton]
theorem dthN_le (l : List Ev) (who : Int) : dthN l who ≤ l.length := List.countP_le_length
set_option maxHeartbeats 1000000 in
theorem deaths_any (A : Option Addr) (c : Nat) (l : List Ev) (who : Int) (w : World) (hn : l.length ≤ 1000000) (hr : Rd w w.heap.size A (l.flatMap Ev.cells)) :
    Calls Tryz.prog 53 #[.slice A l.length c, .int .i64 who] w fun e w' => e = .returned (.int .i64 (dthN l who : Nat)) ∧ Below w.heap.size w w' := by
  have HR := Lib.hid hr
  clear hr
  go_enter Tryz.func53, Tryz.ntmps53
  go_wp2
  go_loopw [5, 10] (fun v i wr => ∃ k : Nat, k ≤ l.length ∧ i = .int .i64 k ∧ ∃ z : Nat, v = .int .i64 z ∧ Hid (z = dthN (l.take k) who) ∧ z ≤ k ∧ Below w.heap.size w wr) (fun _ i _ => l.length - (intOf i).toNat)
  case atStart => exact ⟨0, Nat.zero_le _, rfl, 0, rfl, rfl, by omega, Below.refl _ _⟩
  case round =>
    obtain ⟨k, hk, rfl, z, rfl, hz, z1, hb⟩ := hrel
    by_cases hlt : k < l.length
    · obtain ⟨b, off, rfl, hB, h0, h1, h2, h3, h4, h5, h6, h7, h8⟩ := (HR.out.below hb (Nat.le_refl _)).ev hlt
      have hst := dthN_take l who k hlt
      rw [← hz.out] at hst
      have HS := Lib.hid hst
      have hbw := hb.size
      clear hst
      by_cases hh : isDth who l[k] = true
      · have hh' := hh
        simp only [isDth, Bool.and_eq_true, beq_iff_eq] at hh'
        have HH := Lib.hid hh
        obtain ⟨g1, g2⟩ := hh'
        have k1 : (l[k].kind == 5) = true := by simpa using g1
        have k2 : (l[k].emitter == who) = true := by simpa using g2
        clear hh g1 g2
        go_wp2
        go_roundw
        case rel => exact ⟨k + 1, by omega, by go_num, z + 1, by go_num, (show _ = _ by rw [HS.out, if_pos HH.out]), by omega, bAlloc hb _⟩
        case measure => simp [intOf]; omega
      · have HH := Lib.hid hh
        have hh' : (l[k].kind == 5) = false ∨ (l[k].kind == 5) = true ∧ (l[k].emitter == who) = false := by
          simp only [isDth, Bool.and_eq_true, not_and] at hh
          cases h5 : (l[k].kind == 5)
          · exact .inl rfl
          · exact .inr ⟨rfl, by simpa using hh h5⟩
        clear hh
        rcases hh' with k1 | ⟨k1, k2⟩
        all_goals
          go_wp2
          go_roundw
          case rel => exact ⟨k + 1, by omega, by go_num, z, rfl, (show _ = _ by rw [HS.out, if_neg HH.out, Nat.add_zero]), by omega, bAlloc hb _⟩
          case measure => simp [intOf]; omega
    · have e1 : z = dthN l who := by rw [hz.out, List.take_of_length_le (by omega)]
      have E1 := Lib.hid e1
      clear e1
      go_wp2
      go_ret
      exact ⟨ret_int (by rw [E1.out]), hb⟩
set_option maxHeartbeats 1000000 in
theorem rdeaths_any (A : Option Addr) (c : Nat) (l : List Ev) (who : Int) (w : World) (hn : l.length ≤ 1000000) (hr : Rd w w.heap.size A (l.flatMap Ev.cells)) :
    Calls Tryz.prog 22 #[.slice A l.length c, .int .i64 who] w fun e w' => e = .returned (.int .i64 (dthN l who : Nat)) ∧ Below w.heap.size w w' := by
  have HR := Lib.hid hr
  clear hr
  go_enter Tryz.func22, Tryz.ntmps22
  go_wp2
  go_loopw [5, 6] (fun v i wr => ∃ k : Nat, k ≤ l.length ∧ i = .int .i64 k ∧ ∃ z : Nat, v = .int .i64 z ∧ Hid (z = dthN (l.take k) who) ∧ z ≤ k ∧ wr = w) (fun _ i _ => l.length - (intOf i).toNat)
  case atStart => exact ⟨0, Nat.zero_le _, rfl, 0, rfl, rfl, by omega, rfl⟩
  case round =>
    obtain ⟨k, hk, rfl, z, rfl, hz, z1, rfl⟩ := hrel
    by_cases hlt : k < l.length
    · obtain ⟨b, off, rfl, hB, h0, h1, h2, -, -, -, -, -, -⟩ := HR.out.ev hlt
      have hst := dthN_take l who k hlt
      rw [← hz.out] at hst
      have HS := Lib.hid hst
      clear hst
      by_cases hh : isDth who l[k] = true
      · have hh' := hh
        simp only [isDth, Bool.and_eq_true, beq_iff_eq] at hh'
        have HH := Lib.hid hh
        obtain ⟨g1, g2⟩ := hh'
        have k1 : (l[k].kind == 5) = true := by simpa using g1
        have k2 : (l[k].emitter == who) = true := by simpa using g2
        clear hh g1 g2
        go_wp2
        go_roundw
        case rel => exact ⟨k + 1, by omega, by go_num, z + 1, by go_num, (show _ = _ by rw [HS.out, if_pos HH.out]), by omega, trivial⟩
        case measure => simp [intOf]; omega
      · have HH := Lib.hid hh
        have hh' : (l[k].kind == 5) = false ∨ (l[k].kind == 5) = true ∧ (l[k].emitter == who) = false := by
          simp only [isDth, Bool.and_eq_true, not_and] at hh
          cases h5 : (l[k].kind == 5)
          · exact .inl rfl
          · exact .inr ⟨rfl, by simpa using hh h5⟩
        clear hh
        rcases hh' with k1 | ⟨k1, k2⟩
        all_goals
          go_wp2
          go_roundw
          case rel => exact ⟨k + 1, by omega, by go_num, z, rfl, (show _ = _ by rw [HS.out, if_neg HH.out, Nat.add_zero]), by omega, trivial⟩
          case measure => simp [intOf]; omega
    · have e1 : z = dthN l who := by rw [hz.out, List.take_of_length_le (by omega)]
      have E1 := Lib.hid e1
      clear e1
      go_wp2
      go_ret
      exact ⟨ret_int (by rw [E1.out]), Below.refl _ _⟩
def inC (n : Int) : List Value := [.int .i64 n]
theorem inC_length (n : Int) : (inC n).length = 1 := rfl
/-- The first number that is no skill, or -1. -/
def badSk : Nat → List Int → Int
  | _, [] => -1
  | k, x :: r => if inB x 0 3 = false then (k : Int) else badSk (k + 1) r
def badS (l : List Int) : Bool := l.any fun x => !inB x 0 3
theorem badSk_iff : ∀ (l : List Int) (k : Nat), (0 ≤ badSk k l) = (badS l = true)
  | [], k => by simp [badSk, badS]
  | x :: r, k => by
    have ih := badSk_iff r (k + 1)
    rw [badSk]
    unfold badS at *
    rw [List.any_cons]
    cases h : inB x 0 3
    · simp
    · simp only [Bool.true_eq_false, if_false, Bool.not_true, Bool.false_or]
      exact ih
theorem badSk_bd : ∀ (l : List Int) (k : Nat), -1 ≤ badSk k l ∧ badSk k l ≤ k + l.length
  | [], k => by simp [badSk]
  | x :: r, k => by
    have ih := badSk_bd r (k + 1)
    unfold badSk
    rw [List.length_cons]
    split <;> omega
set_option maxHeartbeats 400000 in
theorem ladC_any (n : Int) (w : World) : Calls Tryz.prog 50 #[.int .i64 n] w fun e w' => e = .returned (.bool (!inB n 0 3)) ∧ w = w' := by
  have HW := Lib.hid (fun V => bw n 0 3 V _ rfl)
  go_enter Tryz.func50, Tryz.ntmps50
  go_wp2_with (first | (go_at_call 47; refine (HW.out _).mono ?_; rintro e w2 ⟨rfl, rfl⟩))
  go_ret
  exact ⟨rfl, rfl⟩
set_option maxHeartbeats 1000000 in
theorem iIF_any (A : Option Addr) (c : Nat) (L : List Int) (w : World) (hn : L.length ≤ 1000000) (hr : Rd w w.heap.size A (L.flatMap inC)) :
    Calls Tryz.prog 100 #[.slice A L.length c, .func (.func 50) #[] #[]] w fun e w' => e = .returned (.int .i64 (badSk 0 L)) ∧ w = w' := by
  have HR := Lib.hid hr
  have HC := Lib.hid (fun n V => ladC_any n V)
  clear hr
  go_enter Tryz.func100, Tryz.ntmps100
  go_wp2
  go_loopw [8] (fun i wr => ∃ k : Nat, k ≤ L.length ∧ i = .int .i64 k ∧ Hid (badSk 0 L = badSk k (L.drop k)) ∧ w = wr) (fun i _ => L.length - (intOf i).toNat)
  case atStart => exact ⟨0, Nat.zero_le _, rfl, rfl, rfl⟩
  case round =>
    obtain ⟨k, hk, rfl, hi, rfl⟩ := hrel
    by_cases hlt : k < L.length
    · obtain ⟨b, off, rfl, hB, hc⟩ := HR.out.at_ inC_length (by omega) hlt
      have c0 := hc 0 _ rfl
      rw [Nat.add_zero, Nat.mul_one] at c0
      clear hc
      have hst : badSk k (L.drop k) = if inB L[k] 0 3 = false then (k : Int) else badSk (k + 1) (L.drop (k + 1)) := by
        rw [List.drop_eq_getElem_cons hlt, badSk]
      have HS := Lib.hid hst
      clear hst
      obtain ⟨x, hx⟩ : ∃ x, L[k] = x := ⟨_, rfl⟩
      rw [hx] at c0 HS
      cases hin : inB x 0 3 with
      | false =>
        have HI := Lib.hid hin
        clear hin
        go_wp2_with (first | (refine (HC.out x _).mono ?_; rintro e w1 ⟨rfl, rfl⟩; rw [HI.out]))
        go_ret
        exact ⟨ret_int (by rw [hi.out, HS.out, if_pos HI.out]), rfl⟩
      | true =>
        have HI := Lib.hid hin
        clear hin
        go_wp2_with (first | (refine (HC.out x _).mono ?_; rintro e w1 ⟨rfl, rfl⟩; rw [HI.out]))
        go_roundw
        case rel => exact ⟨k + 1, by omega, by go_num, (show _ = _ by rw [hi.out, HS.out, if_neg (by rw [HI.out]; decide)]), trivial⟩
        case measure => simp [intOf]; omega
    · have e0 : badSk 0 L = -1 := by rw [hi.out, List.drop_of_length_le (by omega), badSk]
      have E0 := Lib.hid e0
      clear e0
      go_wp2
      go_ret
      exact ⟨ret_int E0.out.symm, rfl⟩
set_option maxHeartbeats 400000 in
theorem iCF_any (A : Option Addr) (c : Nat) (L : List Int) (w : World) (hn : L.length ≤ 1000000) (hr : Rd w w.heap.size A (L.flatMap inC)) :
    Calls Tryz.prog 51 #[.slice A L.length c, .func (.func 50) #[] #[]] w fun e w' => e = .returned (.bool (badS L)) ∧ w = w' := by
  have HC := Lib.hid (iIF_any A c L w hn hr)
  have hbd := badSk_bd L 0
  have hif := badSk_iff L 0
  obtain ⟨z, hz⟩ : ∃ z, badSk 0 L = z := ⟨_, rfl⟩
  rw [hz] at hbd hif HC
  clear hr hz
  by_cases h0 : 0 ≤ z
  · have HB := Lib.hid (show badS L = true by rw [← hif]; exact h0)
    clear hif
    go_enter Tryz.func51, Tryz.ntmps51
    go_wp2_with (first | (refine HC.out.mono ?_; rintro e w1 ⟨rfl, rfl⟩))
    go_ret
    exact ⟨ret_bool HB.out.symm, rfl⟩
  · have HB := Lib.hid (show badS L = false by cases h : badS L with
      | false => rfl
      | true => exact absurd (hif.mpr h) h0)
    clear hif
    go_enter Tryz.func51, Tryz.ntmps51
    go_wp2_with (first | (refine HC.out.mono ?_; rintro e w1 ⟨rfl, rfl⟩))
    go_ret
    exact ⟨ret_bool (by rw [HB.out]; simpa using h0), rfl⟩
set_option maxHeartbeats 1000000 in
theorem ints_same (A B : Option Addr) (c d : Nat) (L : List Int) (w : World) (hn : L.length ≤ 1000000) (hr : Rd w w.heap.size A (L.flatMap inC)) (hr' : Rd w w.heap.size B (L.flatMap inC)) :
    Calls Tryz.prog 23 #[.slice A L.length c, .slice B L.length d] w fun e w' => e = .returned (.bool true) ∧ Below w.heap.size w w' := by
  have HR := Lib.hid hr
  have HR' := Lib.hid hr'
  clear hr hr'
  go_enter Tryz.func23, Tryz.ntmps23
  go_wp2
  go_loopw [5] (fun i wr => ∃ k : Nat, k ≤ L.length ∧ i = .int .i64 k ∧ Below w.heap.size w wr) (fun i _ => L.length - (intOf i).toNat)
  case atStart => exact ⟨0, Nat.zero_le _, rfl, Below.refl _ _⟩
  case round =>
    obtain ⟨k, hk, rfl, hb⟩ := hrel
    by_cases hlt : k < L.length
    · obtain ⟨b, off, rfl, hB, hc⟩ := (HR.out.below hb (Nat.le_refl _)).at_ inC_length (by omega) hlt
      obtain ⟨b', off', rfl, hB', hc'⟩ := (HR'.out.below hb (Nat.le_refl _)).at_ inC_length (by omega) hlt
      have c0 := hc 0 _ rfl
      have c1 := hc' 0 _ rfl
      rw [Nat.add_zero, Nat.mul_one] at c0 c1
      have hbz := hb.size
      have hg1 : b < wr.heap.size := by omega
      have hg2 : b' < wr.heap.size := by omega
      clear hc hc'
      go_upto_region 6 with fail
      refine wp_region_mild (by kernel_rfl) (by kernel_rfl) ?_
      repeat (go_big_quiet_step (fail))
      refine wpQuiet_nil ?_
      intro w6 hw'
      obtain ⟨⟨wq, k6⟩, hw''⟩ := hw'
      subst hw''
      obtain ⟨W6, hW6⟩ : ∃ W6, w6 = W6 := ⟨_, rfl⟩
      have hb6 : Below w.heap.size w W6 := by rw [← hW6]; exact bTrans hb k6
      first | rw [hW6] | (show Exit.then _ _ _ _ w6; rw [hW6])
      clear hW6 k6
      go_wp2_with fail
      go_roundw
      case rel => exact ⟨k + 1, by omega, by go_num, hb6⟩
      case measure => simp [intOf]; omega
    · go_wp2
      go_ret
      exact ⟨rfl, hb⟩
end Go.Proofs.YtnaclkaapicelaaGreat

namespace Go.Proofs.YtnaclkaapicelaaGreat
open Go.RowKit Go.Shelf
attribute [local go_sem] Oper.semAt_some
set_option maxRecDepth 100000
set_option linter.unusedSimpArgs false
/-- The events of a ladder's match. -/
def evL (seed : Int) (sk : List Int) (N k i j : Nat) : List Ev := (preM (sk.getD i 0) (sk.getD j 0) (beginS (seedZ seed k)) N).flatMap (·.2.2)
def up1 (f : Nat → Int) (i : Nat) (d : Int) : Nat → Int := fun q => if q = i then f i + d else f q
def upL (seed : Int) (sk : List Int) (N : Nat) (s : (Nat → Int) × Nat) (i j : Nat) : (Nat → Int) × Nat :=
  (up1 (up1 s.1 i (dthN (evL seed sk N s.2 i j) 2 : Nat)) j (dthN (evL seed sk N s.2 i j) 1 : Nat), s.2 + 1)
/-- One against those behind it, so many of them. -/
def stI (seed : Int) (sk : List Int) (N i : Nat) (s : (Nat → Int) × Nat) : Nat → (Nat → Int) × Nat
  | 0 => s
  | m + 1 => upL seed sk N (stI seed sk N i s m) i (i + 1 + m)
/-- Each against each, so far. -/
def stO (seed : Int) (sk : List Int) (N : Nat) : Nat → (Nat → Int) × Nat
  | 0 => (fun _ => 0, 0)
  | i + 1 => stI seed sk N i (stO seed sk N i) (sk.length - (i + 1))
def LadB (s : (Nat → Int) × Nat) : Prop := ∀ q, 0 ≤ s.1 q ∧ s.1 q ≤ 4400 * (s.2 : Int)
theorem up1_bd {f : Nat → Int} {i : Nat} {d B : Int} (h : ∀ q, 0 ≤ f q ∧ f q ≤ B) (h0 : 0 ≤ d) (h1 : d ≤ 2200) : ∀ q, 0 ≤ up1 f i d q ∧ up1 f i d q ≤ B + 2200 := fun q => by
  unfold up1
  have h2 := h i
  have h3 := h q
  split <;> omega
theorem evL_len (seed : Int) (sk : List Int) (N k i j : Nat) (hN : N ≤ 100) : (evL seed sk N k i j).length ≤ 2200 := by
  have := evs_len (a := sk.getD i 0) (b := sk.getD j 0) (begin_ok (seedZ_bd seed k)) rfl rfl N (by omega)
  unfold evL
  omega
theorem upL_bd {seed : Int} {sk : List Int} {N : Nat} {s : (Nat → Int) × Nat} (i j : Nat) (hN : N ≤ 100) (h : LadB s) : LadB (upL seed sk N s i j) := fun q => by
  have hl := evL_len seed sk N s.2 i j hN
  have d1 := dthN_le (evL seed sk N s.2 i j) 1
  have d2 := dthN_le (evL seed sk N s.2 i j) 2
  have h1 := up1_bd (i := i) (d := (dthN (evL seed sk N s.2 i j) 2 : Nat)) h (by omega) (by omega)
  have h2 := up1_bd (i := j) (d := (dthN (evL seed sk N s.2 i j) 1 : Nat)) h1 (by omega) (by omega) q
  unfold upL
  dsimp only
  push_cast
  omega
theorem stI_bd {seed : Int} {sk : List Int} {N i : Nat} {s : (Nat → Int) × Nat} (hN : N ≤ 100) (h : LadB s) : ∀ m, LadB (stI seed sk N i s m) ∧ (stI seed sk N i s m).2 = s.2 + m
  | 0 => ⟨h, rfl⟩
  | m + 1 => by
    obtain ⟨h1, h2⟩ := stI_bd (seed := seed) (sk := sk) (i := i) hN h m
    refine ⟨upL_bd _ _ hN h1, ?_⟩
    show (stI seed sk N i s m).2 + 1 = _
    omega
theorem stO_bd {seed : Int} {sk : List Int} {N : Nat} (hN : N ≤ 100) (hn : sk.length ≤ 4) : ∀ i, LadB (stO seed sk N i) ∧ (stO seed sk N i).2 ≤ 4 * i
  | 0 => ⟨fun q => ⟨Int.le_refl _, Int.le_refl _⟩, Nat.le_refl _⟩
  | i + 1 => by
    obtain ⟨h1, h2⟩ := stO_bd (seed := seed) hN hn i
    obtain ⟨h3, h4⟩ := stI_bd (seed := seed) (sk := sk) (i := i) hN h1 (sk.length - (i + 1))
    refine ⟨h3, ?_⟩
    show (stI seed sk N i (stO seed sk N i) (sk.length - (i + 1))).2 ≤ _
    omega
/-- What a match answers, told ahead. -/
def mtTold (w : World) (CT : Array Value) (L : List Ev) : Told :=
  ⟨fun v => ∃ v1 A c, v = .tuple #[.agg CT, v1, .slice A L.length c, .int .i64 0], fun v W => ∀ v1 A c, v = .tuple #[.agg CT, v1, .slice A L.length c, .int .i64 0] → OwnL W w.heap.size 65 9 (.slice A L.length c) Ev.cells L⟩
theorem mtTold_st {w : World} {CT : Array Value} {L : List Ev} : ∀ v W U, (mtTold w CT L).R v W → Grown W U → (mtTold w CT L).R v U := fun _ _ _ h k v1 A c hv => (h v1 A c hv).below k
theorem mtTold_of {w W : World} {seed a b : Int} {N : Nat} (hW : Grown w W) (hs : U32 seed) (ha : 0 ≤ a ∧ a ≤ 3) (hb : 0 ≤ b ∧ b ≤ 3) (hN : N ≤ 5000) :
    Calls Tryz.prog 18 #[.int .u32 seed, .int .i64 a, .int .i64 b, .int .i64 N] W fun e w' => ∃ v, e = .returned v ∧ ((mtTold w (stCells (stM a b (beginS seed) N)).toArray ((preM a b (beginS seed) N).flatMap (·.2.2))).S v ∧ (mtTold w (stCells (stM a b (beginS seed) N)).toArray ((preM a b (beginS seed) N).flatMap (·.2.2))).R v w') ∧ Grown W w' := by
  refine (match_any seed a b N W hs ha hb hN).mono ?_
  rintro e w' ⟨v1, v2, rfl, -, ho, hb⟩
  obtain ⟨A, c, rfl⟩ := ho.shape
  refine ⟨_, rfl, ⟨⟨v1, A, c, rfl⟩, fun v1' A' c' hv => ?_⟩, hb⟩
  simp only [Value.tuple.injEq, Array.mk.injEq, List.cons.injEq, Value.slice.injEq, true_and, and_true] at hv
  obtain ⟨-, rfl, rfl⟩ := hv
  exact ho.more (Below.size hW)
theorem Tryz.infoInt : (Tryz.prog.info? 3).map (fun i => (i.zero, i.size, i.bytes)) = some (some (.int .i64 0), 1, 8) := by kernel_rfl
theorem rowOf_zero (n : Nat) : (rowOf n fun _ => (0 : Int)).flatMap inC = List.replicate n (Value.int .i64 0) := by
  rw [rowOf_const, List.flatMap_def, List.map_replicate]
  simp [inC, List.flatten_replicate_singleton]
set_option maxHeartbeats 16000000 in
theorem ladder_any (seed : Int) (A : Option Addr) (c : Nat) (sk : List Int) (N : Nat) (w : World) (hs : U32 seed) (hn : sk.length ≤ 4) (hN : N ≤ 100) (hok : badS sk = false) (hr : Rd w w.heap.size A (sk.flatMap inC)) :
    Calls Tryz.prog 20 #[.int .u32 seed, .slice A sk.length c, .int .i64 N] w fun e w' => ∃ A' c', e = .returned (.tuple #[.slice A' sk.length c', .int .i64 0]) ∧ OwnL w' w.heap.size 3 1 (.slice A' sk.length c') inC (rowOf sk.length (stO seed sk N sk.length).1) ∧ Below w.heap.size w w' := by
  have HCF := Lib.hid (iCF_any A c sk w (by omega) hr)
  rw [hok] at HCF
  have HWN := Lib.hid (fun V => bw (N : Int) 0 2000 V true (decide_eq_true (by omega)))
  have HR := Lib.hid hr
  have HOK := Lib.hid hok
  obtain ⟨n, hl⟩ : ∃ n, sk.length = n := ⟨_, rfl⟩
  rw [hl] at hn HCF ⊢
  have HL := Lib.hid hl
  obtain ⟨ib, hib, hbz, hb1, hb2⟩ := info_parts Tryz.infoInt
  clear hr hok hl
  go_enter Tryz.func20, Tryz.ntmps20
  go_upto_region 5 with (first
    | (go_at_call 51; refine HCF.out.mono ?_; rintro e w2 ⟨rfl, rfl⟩)
    | (go_at_call 47; refine (HWN.out _).mono ?_; rintro e w2 ⟨rfl, rfl⟩)
    | (refine wpList_make_full _ rfl (.tmp 31) (.tmp 31) 55 rfl w.heap.size 3 ib _ 1 Tryz.underlying55 hib hbz hb1 .i64 .i64 _ _ n rfl rfl rfl rfl (by rw [hb2]; omega) (by unfold maxLen; omega) (Nat.le_refl _) ?_
       intro w3 hown3 hg3
       have HW3 := Lib.hid hown3
       have HG3 := Lib.hid hg3
       clear hown3 hg3))
  have ho3 : OwnL w3 w.heap.size 3 1 (.slice (some ⟨w.heap.size, 0, none⟩) n n) inC (rowOf n (stO seed sk N 0).1) := by
    unfold OwnL
    show w3.ownsRow w.heap.size 3 1 _ (rowOf n fun _ => (0 : Int)).length ((rowOf n fun _ => (0 : Int)).flatMap inC)
    rw [rowOf_length, rowOf_zero]
    simpa [toList_madeCells_one, Value.cells] using HW3.out
  have hb3 : Below w.heap.size w w3 := (Below.refl _ _).grown HG3.out (Nat.le_refl _) (by simp)
  have HO3 := Lib.hid ho3
  have hg3 : w.heap.size < w3.heap.size := HO3.out.block_lt _ rfl
  clear ho3 HW3 HG3 HCF HWN hib hbz hb1 hb2
  go_wp2_with fail
  go_loopw [10, 35] (fun kv v wr => ∃ i : Nat, i ≤ n ∧ v = .int .i64 i ∧ kv = .int .u32 ((stO seed sk N i).2 : Nat) ∧ Hid (OwnL wr w.heap.size 3 1 (.slice (some ⟨w.heap.size, 0, none⟩) n n) inC (rowOf n (stO seed sk N i).1)) ∧ Below w.heap.size w wr) (fun _ v _ => n - (intOf v).toNat)
  case atStart => exact ⟨0, Nat.zero_le _, rfl, rfl, HO3, hb3⟩
  case round =>
  obtain ⟨i, hi, rfl, rfl, HO, hb⟩ := hrel
  clear HO3 hb3 hg3
  by_cases hlt : i < n
  · obtain ⟨hsb, hsk⟩ := stO_bd (seed := seed) (sk := sk) hN (by rw [HL.out]; exact hn) i
    have hnext : stO seed sk N (i + 1) = stI seed sk N i (stO seed sk N i) (n - (i + 1)) := by rw [← HL.out]; rfl
    obtain ⟨s0, hs0⟩ : ∃ s0, stO seed sk N i = s0 := ⟨_, rfl⟩
    rw [hs0] at hsb hsk hnext HO ⊢
    have HNX := Lib.hid hnext
    have HSB := Lib.hid hsb
    clear hs0 hnext hsb
    go_wp2_with fail
    go_loopw [10, 12] (fun kv v wr => ∃ m : Nat, m ≤ n - (i + 1) ∧ v = .int .i64 ((i + 1 + m : Nat) : Int) ∧ kv = .int .u32 ((stI seed sk N i s0 m).2 : Nat) ∧ Hid (OwnL wr w.heap.size 3 1 (.slice (some ⟨w.heap.size, 0, none⟩) n n) inC (rowOf n (stI seed sk N i s0 m).1)) ∧ Below w.heap.size w wr) (fun _ v _ => n - (intOf v).toNat)
    case atStart => exact ⟨0, Nat.zero_le _, by go_num, rfl, HO, hb⟩
    case round =>
    obtain ⟨m, hm, rfl, rfl, HOI, hbi⟩ := hrel
    clear HO hb
    obtain ⟨j, hj⟩ : ∃ j, i + 1 + m = j := ⟨_, rfl⟩
    rw [hj]
    by_cases hlj : j < n
    · obtain ⟨hib1, hib2⟩ := stI_bd (seed := seed) (sk := sk) (i := i) hN HSB.out m
      have hstp : stI seed sk N i s0 (m + 1) = upL seed sk N (stI seed sk N i s0 m) i j := by rw [← hj]; rfl
      obtain ⟨t, ht⟩ : ∃ t, stI seed sk N i s0 m = t := ⟨_, rfl⟩
      rw [ht] at hib1 hib2 hstp HOI ⊢
      obtain ⟨f, k⟩ := t
      dsimp only at hib1 hib2 HOI ⊢
      have hk20 : k ≤ 40 := by omega
      obtain ⟨b, off, rfl, hB, hci⟩ := (HR.out.below hbi (Nat.le_refl _)).at_ inC_length (by omega) (show i < sk.length by rw [HL.out]; exact hlt)
      obtain ⟨b', off', hA', -, hcj⟩ := (HR.out.below hbi (Nat.le_refl _)).at_ inC_length (by omega) (show j < sk.length by rw [HL.out]; exact hlj)
      simp only [Option.some.injEq, Addr.mk.injEq, and_true] at hA'
      obtain ⟨rfl, rfl⟩ := hA'
      have ci := hci 0 _ rfl
      have cj := hcj 0 _ rfl
      rw [Nat.add_zero, Nat.mul_one] at ci cj
      have hskd : ∀ q (hq : q < sk.length), 0 ≤ sk[q] ∧ sk[q] ≤ 3 := fun q hq => by
        have := HOK.out
        unfold badS inB at this
        rw [List.any_eq_false] at this
        have := this _ (List.getElem_mem hq)
        simpa using this
      have hxi := hskd i (by rw [HL.out]; exact hlt)
      have hxj := hskd j (by rw [HL.out]; exact hlj)
      obtain ⟨x, hx⟩ : ∃ x, sk.getD i 0 = x := ⟨_, rfl⟩
      obtain ⟨y, hy⟩ : ∃ y, sk.getD j 0 = y := ⟨_, rfl⟩
      rw [show sk[i]'(by rw [HL.out]; exact hlt) = x from by rw [← hx]; simp [List.getD_eq_getElem?_getD, show i < sk.length by rw [HL.out]; exact hlt]] at ci hxi
      rw [show sk[j]'(by rw [HL.out]; exact hlj) = y from by rw [← hy]; simp [List.getD_eq_getElem?_getD, show j < sk.length by rw [HL.out]; exact hlj]] at cj hxj
      have hlev := evL_len seed sk N k i j hN
      have hL : evL seed sk N k i j = (preM x y (beginS (seedZ seed k)) N).flatMap (·.2.2) := by unfold evL; rw [hx, hy]
      have hmt := fun (V : World) (hV : Grown wr V) => mtTold_of (w := wr) (N := N) hV (seedZ_bd seed k) hxi hxj (by omega)
      rw [← hL] at hmt
      obtain ⟨CT, hCT⟩ : ∃ CT : Array Value, (stCells (stM x y (beginS (seedZ seed k)) N)).toArray = CT := ⟨_, rfl⟩
      rw [hCT] at hmt
      have hsz : CT.size = 60 := by rw [← hCT, List.size_toArray, stCells_length]
      have H1C : Hid (CT.all (·.oneCell') = true) := Lib.hid (by rw [← hCT]; exact all_oneCell_toArray (int_one _))
      have HSZ : Hid ((Tryz.prog.info? 33).map (·.size) = some CT.size) := Lib.hid (by rw [hsz]; kernel_rfl)
      obtain ⟨L, hLe⟩ : ∃ L, evL seed sk N k i j = L := ⟨_, rfl⟩
      have hstp' : stI seed sk N i s0 (m + 1) = (up1 (up1 f i (dthN L 2 : Nat)) j (dthN L 1 : Nat), k + 1) := by rw [hstp, ← hLe]; rfl
      rw [hLe] at hlev hmt
      obtain ⟨z, hzz⟩ : ∃ z, seedZ seed k = z := ⟨_, rfl⟩
      have hsd := fun V => dSeed_any seed k V hs (by unfold U32; omega)
      rw [hzz] at hsd hmt
      have HSI := Lib.hid hsz
      have HSEED := Lib.hid hsd
      have HMT := Lib.hid hmt
      have HSTP := Lib.hid hstp'
      have HLV := Lib.hid hlev
      have HFB := Lib.hid hib1
      have hbw : b < wr.heap.size := Nat.lt_of_lt_of_le hB hbi.size
      clear hci hcj hskd hx hy hL hCT hsz hstp hstp' hlev hmt hsd hib1 hib2 ht hLe hzz hxi hxj
      go_upto_region 12 with fail
      have hKp := Keeps.base wr
      refine wp_region_mixedT [.pure, .pure, .make, .pure, .pure, .pure, .held, .pure, .pure, .pure, .held, .pure, .make, .pure, .pure, .pure, .pure, .pure, .make, .tail, .pure, .pure, .pure] (fun | 2 => valF (.int .u32 z) | 12 => mtTold wr CT L | _ => newTold wr 33 (stCells zeroT).toArray) (by kernel_rfl) (by kernel_rfl) ?_
      repeat (first | (refine mix_pure rfl rfl rfl (fun K hK => ?_); go_big_quiet_op; refine hK _ ?_; clear hK K) | (refine mix_held rfl rfl rfl (by assumption) (fun K hK => ?_); go_big_quiet_op; refine hK _ ?_; clear hK K))
      refine mix_make rfl rfl (by assumption) valF_st (fun V hV => ?_) ?_
      · have HS2 := Lib.hid (valF_of (HSEED.out V))
        go_simp
        exact HS2.out
      rintro _ rfl hKp2
      simp only [Act.put, List.setIfInBounds_toArray, List.set_cons_zero, List.set_cons_succ]
      repeat (first | (refine mix_pure rfl rfl rfl (fun K hK => ?_); go_big_quiet_op; refine hK _ ?_; clear hK K) | (refine mix_held rfl rfl rfl (by assumption) (fun K hK => ?_); go_big_quiet_op; refine hK _ ?_; clear hK K))
      refine mix_make rfl rfl (by assumption) mtTold_st (fun V hV => ?_) ?_
      · have HS2 := Lib.hid (HMT.out V hV)
        go_simp
        exact HS2.out
      rintro v ⟨v1, A2, c2, rfl⟩ hKp3
      simp only [Act.put, List.setIfInBounds_toArray, List.set_cons_zero, List.set_cons_succ]
      repeat (first | (refine mix_pure rfl rfl rfl (fun K hK => ?_); go_big_quiet_op; refine hK _ ?_; clear hK K) | (refine mix_held rfl rfl rfl (by assumption) (fun K hK => ?_); go_big_quiet_op; refine hK _ ?_; clear hK K))
      refine mix_make rfl rfl (by assumption) newTold_st (newTold_makes rfl zero_state rfl) ?_
      rintro v ⟨g13, rfl⟩ hKp4
      simp only [Act.put, List.setIfInBounds_toArray, List.set_cons_zero, List.set_cons_succ]
      refine mix_store rfl rfl 33 (.tmp 13) (.tmp 60) rfl g13 0 CT rfl rfl (fun V hV => ?_) HSZ.out H1C.out ?_
      · exact Blk.there (hV.2 g13 rfl).2 (by rw [HSI.out, List.size_toArray, stCells_length]; decide)
      simp only [Act.put, List.setIfInBounds_toArray, List.set_cons_zero, List.set_cons_succ]
      repeat (first | (refine mix_pure rfl rfl rfl (fun K hK => ?_); go_big_quiet_op; refine hK _ ?_; clear hK K) | (refine mix_held rfl rfl rfl (by assumption) (fun K hK => ?_); go_big_quiet_op; refine hK _ ?_; clear hK K))
      refine mix_nil ?_
      rintro V' ⟨V, hD, rfl⟩
      obtain ⟨⟨⟨hg, -⟩, hR1⟩, hR2⟩ := hD
      obtain ⟨hge, hBg⟩ := hR2 g13 rfl
      have hg : Grown wr V := hg
      have ho := hR1 v1 A2 c2 rfl
      have hE6 := ho.farC (b := g13) (hBg.apart ho (by decide)) 0 CT.toList
      have hb6 := bSetCells hg hge 0 CT.toList
      obtain ⟨w6, hw6⟩ : ∃ w6, V.setCells g13 0 CT.toList = w6 := ⟨_, rfl⟩
      rw [hw6] at hE6 hb6
      first | rw [hw6] | (show Exit.then _ _ _ _ (V.setCells g13 0 CT.toList); rw [hw6])
      have HE6 := Lib.hid hE6
      have HB6z : Hid (w.heap.size < wr.heap.size) := Lib.hid (HOI.out.block_lt _ rfl)
      have HO6 := Lib.hid (HOI.out.below hb6)
      have HB6 := Lib.hid (bTrans hbi hb6)
      obtain ⟨ln, hln⟩ : ∃ ln, L.length = ln := ⟨_, rfl⟩
      rw [hln] at HE6
      have HLN := Lib.hid hln
      have hD2 := fun V (hV : Below w6.heap.size w6 V) => deaths_any A2 c2 L 2 V (by have := HLV.out; omega) ((HE6.out.below hV).rd)
      rw [hln] at hD2 ⊢
      have HD2 := Lib.hid hD2
      have fi := HO6.out.one (h := fun n : Int => Value.int .i64 n) (fun _ => rfl) (k := i) (by rw [rowOf_length]; exact hlt)
      rw [rowOf_get] at fi
      have hdl1 : dthN L 1 ≤ 2200 := by have := dthN_le L 1; have := HLV.out; omega
      have hdl2 : dthN L 2 ≤ 2200 := by have := dthN_le L 2; have := HLV.out; omega
      have bi := HFB.out i
      have bj := HFB.out j
      have hgl := HO6.out.block_lt _ rfl
      dsimp only at bi bj
      clear hw6 hE6 hb6 hg hge hBg hR1 hR2 ho hKp hKp2 hKp3 hKp4 hD2 hln HSEED HMT H1C HSZ ci cj HOI hbi hbw
      go_upto_region 15 with fail
      refine wp_region_mild_tail 8 (by kernel_rfl) (by kernel_rfl) ?_
      simp only [List.take_succ_cons, List.take_zero, List.drop_succ_cons, List.drop_zero]
      repeat (go_big_quiet_step ((go_at_call 53; exact mild_of (HD2.out _ (Ext.below _)))))
      refine wpQuiet_nil ?_
      intro w7 hw'
      obtain ⟨⟨wq, k7⟩, hw''⟩ := hw'
      subst hw''
      obtain ⟨W7, hW7⟩ : ∃ W7, w7 = W7 := ⟨_, rfl⟩
      have HO7 := Lib.hid (HO6.out.below k7)
      have HB7 := Lib.hid (bTrans HB6.out k7)
      have HE7 := Lib.hid (HE6.out.below k7)
      rw [hW7] at HO7 HB7 HE7
      rw [hW7]
      have f7 := HO7.out.one (h := fun n : Int => Value.int .i64 n) (fun _ => rfl) (k := i) (by rw [rowOf_length]; exact hlt)
      rw [rowOf_get] at f7
      have z7 := HO7.out.frozen i
      have g7 := HO7.out.block_lt _ rfl
      clear hW7 k7 fi hgl HO6 HB6 HE6 HD2
      go_upto_region 16 with fail
      obtain ⟨d2, hd2⟩ : ∃ d2 : Nat, dthN L 2 = d2 := ⟨_, rfl⟩
      obtain ⟨d1, hd1⟩ : ∃ d1 : Nat, dthN L 1 = d1 := ⟨_, rfl⟩
      rw [hd2] at hdl2 ⊢
      rw [hd1] at hdl1
      have o8 := HO7.out.set1 (h := fun n : Int => Value.int .i64 n) (fun _ => rfl) (k := i) (by rw [rowOf_length]; exact hlt) (f i + d2)
      rw [rowOf_set] at o8
      have b8 := bSetG HB7.out (Nat.le_refl w.heap.size) i (.int .i64 (f i + d2))
      have e8 := HE7.out.farG (g := w.heap.size) (fun e => by have := (HE7.out.isRow e); exact absurd this.1 (by have := HB6z.out; omega)) i (.int .i64 (f i + d2))
      obtain ⟨W8, hW8⟩ : ∃ W8, W7.setCell ⟨w.heap.size, i, none⟩ (.int .i64 (f i + d2)) = W8 := ⟨_, rfl⟩
      rw [hW8] at o8 b8 e8
      rw [hW8]
      have o8' : OwnL W8 w.heap.size 3 1 (.slice (some ⟨w.heap.size, 0, none⟩) n n) inC (rowOf n (up1 f i d2)) := o8
      have HO8 := Lib.hid o8'
      have HB8 := Lib.hid b8
      have HE8 := Lib.hid e8
      have u1 : 0 ≤ up1 f i d2 j ∧ up1 f i d2 j ≤ 4400 * (k : Int) + 2200 := up1_bd HFB.out (by omega) (by omega) j
      have f8 := HO8.out.one (h := fun n : Int => Value.int .i64 n) (fun _ => rfl) (k := j) (by rw [rowOf_length]; exact hlj)
      rw [rowOf_get] at f8
      have z8 := HO8.out.frozen j
      have g8 := HO8.out.block_lt _ rfl
      obtain ⟨uj, huj⟩ : ∃ uj, up1 f i d2 j = uj := ⟨_, rfl⟩
      rw [huj] at u1 f8
      have hD1 := fun V (hV : Below W8.heap.size W8 V) => deaths_any A2 c2 L 1 V (by have := HLV.out; omega) ((HE8.out.below hV).rd)
      rw [HLN.out, hd1] at hD1
      have HD1 := Lib.hid hD1
      clear hW8 o8 o8' b8 e8 f7 z7 g7 HO7 HB7 HE7 hD1 bi bj hdl2
      refine wp_region_mild_tail 8 (by kernel_rfl) (by kernel_rfl) ?_
      simp only [List.take_succ_cons, List.take_zero, List.drop_succ_cons, List.drop_zero]
      repeat (go_big_quiet_step ((go_at_call 53; exact mild_of (HD1.out _ (Ext.below _)))))
      refine wpQuiet_nil ?_
      intro w9 hw'
      obtain ⟨⟨wq, k9⟩, hw''⟩ := hw'
      subst hw''
      obtain ⟨W9, hW9⟩ : ∃ W9, w9 = W9 := ⟨_, rfl⟩
      have HO9 := Lib.hid (HO8.out.below k9)
      have HB9 := Lib.hid (bTrans HB8.out k9)
      rw [hW9] at HO9 HB9
      rw [hW9]
      have f9 := HO9.out.one (h := fun n : Int => Value.int .i64 n) (fun _ => rfl) (k := j) (by rw [rowOf_length]; exact hlj)
      rw [rowOf_get, huj] at f9
      have z9 := HO9.out.frozen j
      have g9 := HO9.out.block_lt _ rfl
      clear hW9 k9 f8 z8 g8 HO8 HB8 HE8 HD1
      go_upto_region 17 with fail
      have o10 := HO9.out.set1 (h := fun n : Int => Value.int .i64 n) (fun _ => rfl) (k := j) (by rw [rowOf_length]; exact hlj) (uj + d1)
      rw [rowOf_set] at o10
      have b10 := bSetG HB9.out (Nat.le_refl w.heap.size) j (.int .i64 (uj + d1))
      obtain ⟨W10, hW10⟩ : ∃ W10, W9.setCell ⟨w.heap.size, j, none⟩ (.int .i64 (uj + d1)) = W10 := ⟨_, rfl⟩
      rw [hW10] at o10 b10
      rw [hW10]
      have hfin : stI seed sk N i s0 (m + 1) = (up1 (up1 f i d2) j d1, k + 1) := by rw [HSTP.out, hd1, hd2]
      have o10' : OwnL W10 w.heap.size 3 1 (.slice (some ⟨w.heap.size, 0, none⟩) n n) inC (rowOf n (up1 (up1 f i d2) j d1)) := by
        have : (fun q => if q = j then uj + (d1 : Int) else up1 f i d2 q) = up1 (up1 f i d2) j d1 := by
          funext q
          show _ = if q = j then up1 f i d2 j + d1 else _
          rw [huj]
        rw [← this]
        exact o10
      have HO10 := Lib.hid o10'
      have HB10 := Lib.hid b10
      have HFIN := Lib.hid hfin
      clear hW10 o10 o10' b10 f9 z9 g9 HO9 HB9 hfin hd1 hd2 huj u1
      go_wp2_with fail
      go_roundw
      case rel => exact ⟨m + 1, by omega, by rw [← hj]; go_num, by rw [HFIN.out]; go_num, by rw [HFIN.out]; exact HO10, HB10.out⟩
      case measure => simp [intOf]; omega
    · have hmf : m = n - (i + 1) := by omega
      subst hmf
      go_wp2_with fail
      go_roundw
      case rel => exact ⟨i + 1, by omega, by go_num, by rw [HNX.out], by rw [HNX.out]; exact HOI, hbi⟩
      case measure => simp [intOf]; omega
  · have hin : i = n := by omega
    subst hin
    go_wp2_with fail
    go_ret2
    exact ⟨_, _, rfl, HO.out, hb⟩
end Go.Proofs.YtnaclkaapicelaaGreat

namespace Go.Proofs.YtnaclkaapicelaaGreat
open Go.RowKit Go.Shelf
attribute [local go_sem] Oper.semAt_some
set_option maxRecDepth 100000
set_option linter.unusedSimpArgs false
set_option maxHeartbeats 4000000 in
theorem ladder_bad (seed f : Int) (A : Option Addr) (c : Nat) (sk : List Int) (w : World) (hr : Rd w w.heap.size A (sk.flatMap inC)) (hbad : 8 < sk.length ∨ badS sk = true ∨ inB f 0 2000 = false) :
    Calls Tryz.prog 20 #[.int .u32 seed, .slice A sk.length c, .int .i64 f] w fun e w' => e = .returned (.tuple #[.slice none 0 0, .int .i64 1]) ∧ Below w.heap.size w w' := by
  have HWN := Lib.hid (fun V => bw f 0 2000 V _ rfl)
  by_cases h8 : 8 < sk.length
  · obtain ⟨n, hl⟩ : ∃ n, sk.length = n := ⟨_, rfl⟩
    rw [hl] at h8 ⊢
    clear hr hbad hl
    go_enter Tryz.func20, Tryz.ntmps20
    go_wp2_with fail
    go_ret2
    exact ⟨rfl, Below.refl _ _⟩
  · have HCF := Lib.hid (iCF_any A c sk w (by omega) hr)
    have hc : badS sk = true ∨ (badS sk = false ∧ inB f 0 2000 = false) := by
      cases hs : badS sk
      · rcases hbad with h | h | h
        · exact absurd h h8
        · rw [hs] at h; cases h
        · exact .inr ⟨rfl, h⟩
      · exact .inl rfl
    obtain ⟨n, hl⟩ : ∃ n, sk.length = n := ⟨_, rfl⟩
    rw [hl] at h8 HCF ⊢
    clear hr hbad hl
    obtain ⟨bs, hbs⟩ : ∃ x, badS sk = x := ⟨_, rfl⟩
    obtain ⟨bf, hbf⟩ : ∃ x, inB f 0 2000 = x := ⟨_, rfl⟩
    rw [hbs] at HCF hc
    rw [hbf] at HWN hc
    clear hbs hbf
    rcases hc with rfl | ⟨rfl, rfl⟩
    all_goals
      go_enter Tryz.func20, Tryz.ntmps20
      go_wp2_with (first
        | (go_at_call 51; refine HCF.out.mono ?_; rintro e w2 ⟨rfl, rfl⟩)
        | (go_at_call 47; refine (HWN.out _).mono ?_; rintro e w2 ⟨rfl, rfl⟩))
      go_ret2
      exact ⟨rfl, Below.refl _ _⟩
/-- What the document's match answers, told ahead. -/
def rmTold (w : World) (CT : Array Value) (L : List Ev) : Told :=
  ⟨fun v => ∃ v1 A c, v = .tuple #[.agg CT, v1, .slice A L.length c], fun v W => ∀ v1 A c, v = .tuple #[.agg CT, v1, .slice A L.length c] → OwnL W w.heap.size 65 9 (.slice A L.length c) Ev.cells L⟩
theorem rmTold_st {w : World} {CT : Array Value} {L : List Ev} : ∀ v W U, (rmTold w CT L).R v W → Grown W U → (rmTold w CT L).R v U := fun _ _ _ h k v1 A c hv => (h v1 A c hv).below k
theorem rmTold_of (hpr : PressR) (hst : StepR) {w W : World} {seed a b : Int} {N : Nat} (hW : Grown w W) (hs : U32 seed) (ha : 0 ≤ a ∧ a ≤ 3) (hb : 0 ≤ b ∧ b ≤ 3) (hN : N ≤ 5000) :
    Calls Tryz.prog 19 #[.int .u32 seed, .int .i64 a, .int .i64 b, .int .i64 N] W fun e w' => ∃ v, e = .returned v ∧ ((rmTold w (stCells (stM a b (beginS seed) N)).toArray ((preM a b (beginS seed) N).flatMap (·.2.2))).S v ∧ (rmTold w (stCells (stM a b (beginS seed) N)).toArray ((preM a b (beginS seed) N).flatMap (·.2.2))).R v w') ∧ Grown W w' := by
  refine (rmatch_any hpr hst seed a b N W hs ha hb hN).mono ?_
  rintro e w' ⟨v1, v2, rfl, -, ho, hb⟩
  obtain ⟨A, c, rfl⟩ := ho.shape
  refine ⟨_, rfl, ⟨⟨v1, A, c, rfl⟩, fun v1' A' c' hv => ?_⟩, hb⟩
  simp only [Value.tuple.injEq, Array.mk.injEq, List.cons.injEq, Value.slice.injEq, and_true] at hv
  obtain ⟨-, -, rfl, -, rfl⟩ := hv
  exact ho.more (Below.size hW)
/-- Is all right, so far as it was looked at? -/
def rgtB (sk : List Int) (f : Int) (i : Nat) : Bool := (decide (sk.length ≤ 8) && (decide (0 ≤ f) && decide (f ≤ 2000))) && !badS (sk.take i)
theorem badS_take (sk : List Int) (i : Nat) (h : i < sk.length) : badS (sk.take (i + 1)) = (badS (sk.take i) || !inB sk[i] 0 3) := by
  unfold badS
  rw [List.take_succ_eq_append_getElem h, List.any_append]
  simp
theorem rgtB_step (sk : List Int) (f : Int) (i : Nat) (h : i < sk.length) : rgtB sk f (i + 1) = (rgtB sk f i && inB sk[i] 0 3) := by
  unfold rgtB
  rw [badS_take sk i h]
  cases badS (sk.take i) <;> cases inB sk[i] 0 3 <;> simp
theorem rgtB_end (sk : List Int) (f : Int) (i : Nat) (h : i = sk.length ∨ (8 < sk.length)) : rgtB sk f i = false ↔ (8 < sk.length ∨ badS sk = true ∨ inB f 0 2000 = false) := by
  unfold rgtB inB
  rcases h with rfl | h
  · rw [List.take_length]
    cases hb : badS sk
    · simp
      omega
    · simp
  · simp [h]
    omega
section
variable {seed f : Int} {A : Option Addr} {c : Nat} {sk : List Int} {w : World}
set_option maxHeartbeats 8000000 in
theorem ladders_1 (ha30 : Awake30) (h : 8 < sk.length ∨ (sk.length ≤ 8 ∧ f < 0) ∨ ((sk.length ≤ 8 ∧ 0 ≤ f) ∧ 2000 < f)) (hr : Rd w w.heap.size A (sk.flatMap inC)) : Calls Tryz.prog 6 #[.int .u32 seed, .slice A sk.length c, .int .i64 f] w fun e w' => e = .returned (.bool true) ∧ Below w.heap.size w w' := by
  have HLD := Lib.hid (fun V (hV : Below w.heap.size w V) => ladder_bad seed f A c sk V ((hr.below hV (Nat.le_refl _)).more hV.size) (by
    rcases h with h | h | h
    · exact .inl h
    · exact .inr (.inr (by unfold inB; simp; omega))
    · exact .inr (.inr (by unfold inB; simp; omega))))
  obtain ⟨n, hl⟩ : ∃ n, sk.length = n := ⟨_, rfl⟩
  rw [hl] at h HLD ⊢
  have hq1 : ((1 : Int) == 1) = true := rfl
  clear hr hl
  rcases h with h | ⟨h, h'⟩ | ⟨⟨h, h'⟩, h''⟩
  all_goals
    go_enter Tryz.func6, Tryz.ntmps6
    go_upto_region 3 with (first | (go_at_call 17; refine (ha30 _).mono ?_; rintro e w2 ⟨rfl, hb2⟩))
    clear ha30
    go_wp2_with fail
    go_loopw [7, 8] (fun r v wr => ∃ i : Nat, i ≤ n ∧ i ≤ 9 ∧ v = .int .i64 i ∧ r = .bool false ∧ Below w.heap.size w wr) (fun _ v _ => n - (intOf v).toNat)
    case atStart => exact ⟨0, Nat.zero_le _, by omega, rfl, (by first | rfl | (simp; omega)), hb2⟩
    case round =>
      clear hb2
      obtain ⟨i, hi, hi9, rfl, rfl, hb⟩ := hrel
      by_cases hlt : i < n
      · by_cases hl9 : i < 9
        · go_wp2_with fail
          go_roundw
          case rel => exact ⟨i + 1, by omega, by omega, by go_num, rfl, hb⟩
          case measure => simp [intOf]; omega
        · go_wp2_with (first | (go_at_call 20; refine (HLD.out _ hb).mono ?_; rintro e w3 ⟨rfl, hb3⟩))
          all_goals
            go_ret
            exact ⟨rfl, bTrans hb hb3⟩
      · go_wp2_with (first | (go_at_call 20; refine (HLD.out _ hb).mono ?_; rintro e w3 ⟨rfl, hb3⟩))
        go_ret
        exact ⟨rfl, bTrans hb hb3⟩
theorem skill_cases (x : Int) : (inB x 0 3 = false ∧ x < 0) ∨ (inB x 0 3 = false ∧ 0 ≤ x ∧ 3 < x) ∨ (inB x 0 3 = true ∧ 0 ≤ x ∧ x ≤ 3) := by
  unfold inB
  by_cases h0 : x < 0
  · exact .inl ⟨by simp; omega, h0⟩
  · by_cases h3 : 3 < x
    · exact .inr (.inl ⟨by simp; omega, by omega, h3⟩)
    · exact .inr (.inr ⟨by simp; omega, by omega, by omega⟩)
set_option maxHeartbeats 8000000 in
theorem ladders_2a {N : Nat} (ha30 : Awake30) (hn : sk.length ≤ 8) (hN : N ≤ 2000) (hbad : badS sk = true) (hr : Rd w w.heap.size A (sk.flatMap inC)) : Calls Tryz.prog 6 #[.int .u32 seed, .slice A sk.length c, .int .i64 N] w fun e w' => e = .returned (.bool true) ∧ Below w.heap.size w w' := by
  have HLD := Lib.hid (fun V (hV : Below w.heap.size w V) => ladder_bad seed N A c sk V ((hr.below hV (Nat.le_refl _)).more hV.size) (.inr (.inl hbad)))
  have HR := Lib.hid hr
  have HBD := Lib.hid hbad
  obtain ⟨n, hl⟩ : ∃ n, sk.length = n := ⟨_, rfl⟩
  rw [hl] at hn HLD ⊢
  have HL := Lib.hid hl
  have hq1 : ((1 : Int) == 1) = true := rfl
  clear hr hl hbad
  go_enter Tryz.func6, Tryz.ntmps6
  go_upto_region 3 with (first | (go_at_call 17; refine (ha30 _).mono ?_; rintro e w2 ⟨rfl, hb2⟩))
  clear ha30
  go_wp2_with fail
  go_loopw [7, 8] (fun r v wr => ∃ i : Nat, i ≤ n ∧ v = .int .i64 i ∧ r = .bool (!badS (sk.take i)) ∧ Below w.heap.size w wr) (fun _ v _ => n - (intOf v).toNat)
  case atStart => exact ⟨0, Nat.zero_le _, rfl, (by simp [badS]; omega), hb2⟩
  case round =>
  clear hb2
  obtain ⟨i, hi, rfl, rfl, hb⟩ := hrel
  by_cases hlt : i < n
  · obtain ⟨b, off, rfl, hB, hci⟩ := (HR.out.below hb (Nat.le_refl _)).at_ inC_length (by omega) (show i < sk.length by rw [HL.out]; exact hlt)
    have ci := hci 0 _ rfl
    rw [Nat.add_zero, Nat.mul_one] at ci
    have hst := badS_take sk i (by rw [HL.out]; exact hlt)
    obtain ⟨x, hx⟩ : ∃ x, sk[i]'(by rw [HL.out]; exact hlt) = x := ⟨_, rfl⟩
    rw [hx] at ci hst
    have HST := Lib.hid hst
    clear hci hx hst
    cases hbi : badS (sk.take i)
    · rcases skill_cases x with ⟨e1, e2⟩ | ⟨e1, e2, e3⟩ | ⟨e1, e2, e3⟩
      all_goals
        have hfin := HST.out
        rw [hbi, e1] at hfin
        have HFIN := Lib.hid hfin
        clear hfin e1 hbi
        go_wp2_with fail
        go_roundw
        case rel => exact ⟨i + 1, by omega, by go_num, by rw [HFIN.out]; first | rfl | (simp; omega), hb⟩
        case measure => simp [intOf]; omega
    · have hfin := HST.out
      rw [hbi, Bool.true_or] at hfin
      have HFIN := Lib.hid hfin
      clear hfin hbi
      go_wp2_with fail
      go_roundw
      case rel => exact ⟨i + 1, by omega, by go_num, by rw [HFIN.out]; rfl, hb⟩
      case measure => simp [intOf]; omega
  · have hin : i = n := by omega
    have hbi : badS (sk.take i) = true := by rw [hin, ← HL.out, List.take_length]; exact HBD.out
    rw [hbi]
    clear hbi
    go_wp2_with (first | (go_at_call 20; refine (HLD.out _ hb).mono ?_; rintro e w3 ⟨rfl, hb3⟩))
    go_ret
    exact ⟨rfl, bTrans hb hb3⟩
set_option maxHeartbeats 8000000 in
theorem ladders_2b {N : Nat} (ha30 : Awake30) (hn : sk.length ≤ 8) (hN : N ≤ 2000) (hok : badS sk = false) (hbig : 4 < sk.length ∨ (sk.length ≤ 4 ∧ 100 < N)) (hr : Rd w w.heap.size A (sk.flatMap inC)) : Calls Tryz.prog 6 #[.int .u32 seed, .slice A sk.length c, .int .i64 N] w fun e w' => e = .returned (.bool true) ∧ Below w.heap.size w w' := by
  have HR := Lib.hid hr
  have HBD := Lib.hid hok
  obtain ⟨n, hl⟩ : ∃ n, sk.length = n := ⟨_, rfl⟩
  rw [hl] at hn hbig ⊢
  have HL := Lib.hid hl
  clear hr hl hok
  go_enter Tryz.func6, Tryz.ntmps6
  go_upto_region 3 with (first | (go_at_call 17; refine (ha30 _).mono ?_; rintro e w2 ⟨rfl, hb2⟩))
  clear ha30
  go_wp2_with fail
  go_loopw [7, 8] (fun r v wr => ∃ i : Nat, i ≤ n ∧ v = .int .i64 i ∧ r = .bool (!badS (sk.take i)) ∧ Below w.heap.size w wr) (fun _ v _ => n - (intOf v).toNat)
  case atStart => exact ⟨0, Nat.zero_le _, rfl, (by simp [badS]; omega), hb2⟩
  case round =>
  clear hb2
  obtain ⟨i, hi, rfl, rfl, hb⟩ := hrel
  by_cases hlt : i < n
  · obtain ⟨b, off, rfl, hB, hci⟩ := (HR.out.below hb (Nat.le_refl _)).at_ inC_length (by omega) (show i < sk.length by rw [HL.out]; exact hlt)
    have ci := hci 0 _ rfl
    rw [Nat.add_zero, Nat.mul_one] at ci
    have hst := badS_take sk i (by rw [HL.out]; exact hlt)
    obtain ⟨x, hx⟩ : ∃ x, sk[i]'(by rw [HL.out]; exact hlt) = x := ⟨_, rfl⟩
    rw [hx] at ci hst
    have HST := Lib.hid hst
    clear hci hx hst
    cases hbi : badS (sk.take i)
    · rcases skill_cases x with ⟨e1, e2⟩ | ⟨e1, e2, e3⟩ | ⟨e1, e2, e3⟩
      all_goals
        have hfin := HST.out
        rw [hbi, e1] at hfin
        have HFIN := Lib.hid hfin
        clear hfin e1 hbi
        go_wp2_with fail
        go_roundw
        case rel => exact ⟨i + 1, by omega, by go_num, by rw [HFIN.out]; first | rfl | (simp; omega), hb⟩
        case measure => simp [intOf]; omega
    · have hfin := HST.out
      rw [hbi, Bool.true_or] at hfin
      have HFIN := Lib.hid hfin
      clear hfin hbi
      go_wp2_with fail
      go_roundw
      case rel => exact ⟨i + 1, by omega, by go_num, by rw [HFIN.out]; rfl, hb⟩
      case measure => simp [intOf]; omega
  · have hin : i = n := by omega
    have hbi : badS (sk.take i) = false := by rw [hin, ← HL.out, List.take_length]; exact HBD.out
    rw [hbi]
    clear hbi
    rcases hbig with h | ⟨h, h'⟩
    all_goals
      go_wp2_with fail
      go_ret
      exact ⟨rfl, hb⟩
end
end Go.Proofs.YtnaclkaapicelaaGreat

namespace Go.Proofs.YtnaclkaapicelaaGreat
open Go.RowKit Go.Shelf
attribute [local go_sem] Oper.semAt_some
set_option maxRecDepth 100000
set_option linter.unusedSimpArgs false
section
variable {seed f : Int} {A : Option Addr} {c : Nat} {sk : List Int} {w : World}
set_option maxHeartbeats 16000000 in
theorem ladders_3 {N : Nat} (ha30 : Awake30) (hpr : PressR) (hst : StepR) (hs : U32 seed) (hn : sk.length ≤ 4) (hN : N ≤ 100) (hok : badS sk = false) (hr : Rd w w.heap.size A (sk.flatMap inC)) : Calls Tryz.prog 6 #[.int .u32 seed, .slice A sk.length c, .int .i64 N] w fun e w' => e = .returned (.bool true) ∧ Below w.heap.size w w' := by
  have HLD := Lib.hid (fun V (hV : Below w.heap.size w V) => ladder_any seed A c sk N V hs hn hN hok ((hr.below hV (Nat.le_refl _)).more hV.size))
  have HR := Lib.hid hr
  have HBD := Lib.hid hok
  have HOK := Lib.hid hok
  have HPR := Lib.hid hpr
  have HST := Lib.hid hst
  obtain ⟨n, hl⟩ : ∃ n, sk.length = n := ⟨_, rfl⟩
  rw [hl] at hn HLD ⊢
  have HL := Lib.hid hl
  obtain ⟨ib, hib, hbz, hb1, hb2i⟩ := info_parts Tryz.infoInt
  have hq0 : ((0 : Int) == 0) = true := rfl
  clear hr hl hok hpr hst
  go_enter Tryz.func6, Tryz.ntmps6
  go_upto_region 3 with (first | (go_at_call 17; refine (ha30 _).mono ?_; rintro e w2 ⟨rfl, hb2⟩))
  clear ha30
  go_wp2_with fail
  go_loopw [7, 8] (fun r v wr => ∃ i : Nat, i ≤ n ∧ v = .int .i64 i ∧ r = .bool (!badS (sk.take i)) ∧ Below w.heap.size w wr) (fun _ v _ => n - (intOf v).toNat)
  case atStart => exact ⟨0, Nat.zero_le _, rfl, (by simp [badS]; omega), hb2⟩
  case round =>
  clear hb2
  obtain ⟨i, hi, rfl, rfl, hb⟩ := hrel
  by_cases hlt : i < n
  · obtain ⟨b, off, rfl, hB, hci⟩ := (HR.out.below hb (Nat.le_refl _)).at_ inC_length (by omega) (show i < sk.length by rw [HL.out]; exact hlt)
    have ci := hci 0 _ rfl
    rw [Nat.add_zero, Nat.mul_one] at ci
    have hst := badS_take sk i (by rw [HL.out]; exact hlt)
    obtain ⟨x, hx⟩ : ∃ x, sk[i]'(by rw [HL.out]; exact hlt) = x := ⟨_, rfl⟩
    rw [hx] at ci hst
    have HST := Lib.hid hst
    clear hci hx hst
    cases hbi : badS (sk.take i)
    · rcases skill_cases x with ⟨e1, e2⟩ | ⟨e1, e2, e3⟩ | ⟨e1, e2, e3⟩
      all_goals
        have hfin := HST.out
        rw [hbi, e1] at hfin
        have HFIN := Lib.hid hfin
        clear hfin e1 hbi
        go_wp2_with fail
        go_roundw
        case rel => exact ⟨i + 1, by omega, by go_num, by rw [HFIN.out]; first | rfl | (simp; omega), hb⟩
        case measure => simp [intOf]; omega
    · have hfin := HST.out
      rw [hbi, Bool.true_or] at hfin
      have HFIN := Lib.hid hfin
      clear hfin hbi
      go_wp2_with fail
      go_roundw
      case rel => exact ⟨i + 1, by omega, by go_num, by rw [HFIN.out]; rfl, hb⟩
      case measure => simp [intOf]; omega
  · have hin : i = n := by omega
    have hbi : badS (sk.take i) = false := by rw [hin, ← HL.out, List.take_length]; exact HBD.out
    rw [hbi]
    clear hbi HBD
    go_upto_region 14 with (first
      | (go_at_call 20; refine (HLD.out _ hb).mono ?_; rintro e wa ⟨AL, cL, rfl, hol, hbl⟩; have HSC := Lib.hid hol; have HBA := Lib.hid (bTrans hb hbl); clear hol hbl)
      | (refine wpList_make_full _ rfl (.tmp 83) (.tmp 83) 55 rfl wa.heap.size 3 ib _ 1 Tryz.underlying55 hib hbz hb1 .i64 .i64 _ _ n rfl rfl rfl rfl (by rw [hb2i]; omega) (by unfold maxLen; omega) (Nat.le_refl _) ?_
         intro w3 hown3 hg3
         have HW3 := Lib.hid hown3
         have HG3 := Lib.hid hg3
         clear hown3 hg3))
    have HR2 := Lib.hid ((HR.out.below HBA.out (Nat.le_refl _)).more HBA.out.size)
    clear HR
    have HR := HR2
    have ho3 : OwnL w3 wa.heap.size 3 1 (.slice (some ⟨wa.heap.size, 0, none⟩) n n) inC (rowOf n (stO seed sk N 0).1) := by
      unfold OwnL
      show w3.ownsRow wa.heap.size 3 1 _ (rowOf n fun _ => (0 : Int)).length ((rowOf n fun _ => (0 : Int)).flatMap inC)
      rw [rowOf_length, rowOf_zero]
      simpa [toList_madeCells_one, Value.cells] using HW3.out
    have hb3 : Below wa.heap.size wa w3 := (Below.refl _ _).grown HG3.out (Nat.le_refl _) (by simp)
    have HO3 := Lib.hid ho3
    have hg3 : wa.heap.size < w3.heap.size := HO3.out.block_lt _ rfl
    clear ho3 HW3 HG3 HLD hib hbz hb1 hb2i hb HR2 hin hlt hi
    go_wp2_with fail
    go_loopw [12, 13] (fun kv v wr => ∃ i : Nat, i ≤ n ∧ v = .int .i64 i ∧ kv = .int .u32 ((stO seed sk N i).2 : Nat) ∧ Hid (OwnL wr wa.heap.size 3 1 (.slice (some ⟨wa.heap.size, 0, none⟩) n n) inC (rowOf n (stO seed sk N i).1)) ∧ Below wa.heap.size wa wr) (fun _ v _ => n - (intOf v).toNat)
    case atStart => exact ⟨0, Nat.zero_le _, rfl, rfl, HO3, hb3⟩
    case round =>
    obtain ⟨i, hi, rfl, rfl, HO, hb⟩ := hrel
    clear HO3 hb3 hg3
    by_cases hlt : i < n
    · obtain ⟨hsb, hsk⟩ := stO_bd (seed := seed) (sk := sk) hN (by rw [HL.out]; exact hn) i
      have hnext : stO seed sk N (i + 1) = stI seed sk N i (stO seed sk N i) (n - (i + 1)) := by rw [← HL.out]; rfl
      obtain ⟨s0, hs0⟩ : ∃ s0, stO seed sk N i = s0 := ⟨_, rfl⟩
      rw [hs0] at hsb hsk hnext HO ⊢
      have HNX := Lib.hid hnext
      have HSB := Lib.hid hsb
      clear hs0 hnext hsb
      go_wp2_with fail
      go_loopw [12, 14] (fun kv v wr => ∃ m : Nat, m ≤ n - (i + 1) ∧ v = .int .i64 ((i + 1 + m : Nat) : Int) ∧ kv = .int .u32 ((stI seed sk N i s0 m).2 : Nat) ∧ Hid (OwnL wr wa.heap.size 3 1 (.slice (some ⟨wa.heap.size, 0, none⟩) n n) inC (rowOf n (stI seed sk N i s0 m).1)) ∧ Below wa.heap.size wa wr) (fun _ v _ => n - (intOf v).toNat)
      case atStart => exact ⟨0, Nat.zero_le _, by go_num, rfl, HO, hb⟩
      case round =>
      obtain ⟨m, hm, rfl, rfl, HOI, hbi⟩ := hrel
      clear HO hb
      obtain ⟨j, hj⟩ : ∃ j, i + 1 + m = j := ⟨_, rfl⟩
      rw [hj]
      by_cases hlj : j < n
      · obtain ⟨hib1, hib2⟩ := stI_bd (seed := seed) (sk := sk) (i := i) hN HSB.out m
        have hstp : stI seed sk N i s0 (m + 1) = upL seed sk N (stI seed sk N i s0 m) i j := by rw [← hj]; rfl
        obtain ⟨t, ht⟩ : ∃ t, stI seed sk N i s0 m = t := ⟨_, rfl⟩
        rw [ht] at hib1 hib2 hstp HOI ⊢
        obtain ⟨f, k⟩ := t
        dsimp only at hib1 hib2 HOI ⊢
        have hk20 : k ≤ 40 := by omega
        obtain ⟨b, off, rfl, hB, hci⟩ := (HR.out.below hbi (Nat.le_refl _)).at_ inC_length (by omega) (show i < sk.length by rw [HL.out]; exact hlt)
        obtain ⟨b', off', hA', -, hcj⟩ := (HR.out.below hbi (Nat.le_refl _)).at_ inC_length (by omega) (show j < sk.length by rw [HL.out]; exact hlj)
        simp only [Option.some.injEq, Addr.mk.injEq, and_true] at hA'
        obtain ⟨rfl, rfl⟩ := hA'
        have ci := hci 0 _ rfl
        have cj := hcj 0 _ rfl
        rw [Nat.add_zero, Nat.mul_one] at ci cj
        have hskd : ∀ q (hq : q < sk.length), 0 ≤ sk[q] ∧ sk[q] ≤ 3 := fun q hq => by
          have := HOK.out
          unfold badS inB at this
          rw [List.any_eq_false] at this
          have := this _ (List.getElem_mem hq)
          simpa using this
        have hxi := hskd i (by rw [HL.out]; exact hlt)
        have hxj := hskd j (by rw [HL.out]; exact hlj)
        obtain ⟨x, hx⟩ : ∃ x, sk.getD i 0 = x := ⟨_, rfl⟩
        obtain ⟨y, hy⟩ : ∃ y, sk.getD j 0 = y := ⟨_, rfl⟩
        rw [show sk[i]'(by rw [HL.out]; exact hlt) = x from by rw [← hx]; simp [List.getD_eq_getElem?_getD, show i < sk.length by rw [HL.out]; exact hlt]] at ci hxi
        rw [show sk[j]'(by rw [HL.out]; exact hlj) = y from by rw [← hy]; simp [List.getD_eq_getElem?_getD, show j < sk.length by rw [HL.out]; exact hlj]] at cj hxj
        have hlev := evL_len seed sk N k i j hN
        have hL : evL seed sk N k i j = (preM x y (beginS (seedZ seed k)) N).flatMap (·.2.2) := by unfold evL; rw [hx, hy]
        have hmt := fun (V : World) (hV : Grown wr V) => rmTold_of (a := x) (b := y) HPR.out HST.out (w := wr) (N := N) hV (seedZ_bd seed k) hxi hxj (by omega)
        rw [← hL] at hmt
        obtain ⟨CT, hCT⟩ : ∃ CT : Array Value, (stCells (stM x y (beginS (seedZ seed k)) N)).toArray = CT := ⟨_, rfl⟩
        rw [hCT] at hmt
        have hsz : CT.size = 60 := by rw [← hCT, List.size_toArray, stCells_length]
        have H1C : Hid (CT.all (·.oneCell') = true) := Lib.hid (by rw [← hCT]; exact all_oneCell_toArray (int_one _))
        have HSZ : Hid ((Tryz.prog.info? 33).map (·.size) = some CT.size) := Lib.hid (by rw [hsz]; kernel_rfl)
        obtain ⟨L, hLe⟩ : ∃ L, evL seed sk N k i j = L := ⟨_, rfl⟩
        have hstp' : stI seed sk N i s0 (m + 1) = (up1 (up1 f i (dthN L 2 : Nat)) j (dthN L 1 : Nat), k + 1) := by rw [hstp, ← hLe]; rfl
        rw [hLe] at hlev hmt
        obtain ⟨z, hzz⟩ : ∃ z, seedZ seed k = z := ⟨_, rfl⟩
        have hsd := fun V => (r09Seed_any seed k V hs (by unfold U32; omega)).mono fun e w' ⟨he, hw⟩ => (⟨he, hw ▸ Below.refl _ _⟩ : e = Ending.returned (.int .u32 (seedZ seed k)) ∧ Below V.heap.size V w')
        rw [hzz] at hsd hmt
        have HSI := Lib.hid hsz
        have HSEED := Lib.hid hsd
        have HMT := Lib.hid hmt
        have HSTP := Lib.hid hstp'
        have HLV := Lib.hid hlev
        have HFB := Lib.hid hib1
        have hbw : b < wr.heap.size := Nat.lt_of_lt_of_le hB hbi.size
        clear hci hcj hskd hx hy hL hCT hsz hstp hstp' hlev hmt hsd hib1 hib2 ht hLe hzz hxi hxj
        go_upto_region 21 with fail
        have hKp := Keeps.base wr
        refine wp_region_mixedT [.pure, .pure, .make, .pure, .pure, .pure, .held, .pure, .pure, .pure, .held, .pure, .make, .pure, .pure, .pure, .pure, .make, .tail, .pure, .pure] (fun | 2 => valF (.int .u32 z) | 12 => rmTold wr CT L | _ => newTold wr 33 (stCells zeroT).toArray) (by kernel_rfl) (by kernel_rfl) ?_
        repeat (first | (refine mix_pure rfl rfl rfl (fun K hK => ?_); go_big_quiet_op; refine hK _ ?_; clear hK K) | (refine mix_held rfl rfl rfl (by assumption) (fun K hK => ?_); go_big_quiet_op; refine hK _ ?_; clear hK K))
        refine mix_make rfl rfl (by assumption) valF_st (fun V hV => ?_) ?_
        · have HS2 := Lib.hid (valF_of (HSEED.out V))
          go_simp
          exact HS2.out
        rintro _ rfl hKp2
        simp only [Act.put, List.setIfInBounds_toArray, List.set_cons_zero, List.set_cons_succ]
        repeat (first | (refine mix_pure rfl rfl rfl (fun K hK => ?_); go_big_quiet_op; refine hK _ ?_; clear hK K) | (refine mix_held rfl rfl rfl (by assumption) (fun K hK => ?_); go_big_quiet_op; refine hK _ ?_; clear hK K))
        refine mix_make rfl rfl (by assumption) rmTold_st (fun V hV => ?_) ?_
        · have HS2 := Lib.hid (HMT.out V hV)
          go_simp
          exact HS2.out
        rintro v ⟨v1, A2, c2, rfl⟩ hKp3
        simp only [Act.put, List.setIfInBounds_toArray, List.set_cons_zero, List.set_cons_succ]
        repeat (first | (refine mix_pure rfl rfl rfl (fun K hK => ?_); go_big_quiet_op; refine hK _ ?_; clear hK K) | (refine mix_held rfl rfl rfl (by assumption) (fun K hK => ?_); go_big_quiet_op; refine hK _ ?_; clear hK K))
        refine mix_make rfl rfl (by assumption) newTold_st (newTold_makes rfl zero_state rfl) ?_
        rintro v ⟨g13, rfl⟩ hKp4
        simp only [Act.put, List.setIfInBounds_toArray, List.set_cons_zero, List.set_cons_succ]
        refine mix_store rfl rfl 33 (.tmp 15) (.tmp 113) rfl g13 0 CT rfl rfl (fun V hV => ?_) HSZ.out H1C.out ?_
        · exact Blk.there (hV.2 g13 rfl).2 (by rw [HSI.out, List.size_toArray, stCells_length]; decide)
        simp only [Act.put, List.setIfInBounds_toArray, List.set_cons_zero, List.set_cons_succ]
        repeat (first | (refine mix_pure rfl rfl rfl (fun K hK => ?_); go_big_quiet_op; refine hK _ ?_; clear hK K) | (refine mix_held rfl rfl rfl (by assumption) (fun K hK => ?_); go_big_quiet_op; refine hK _ ?_; clear hK K))
        refine mix_nil ?_
        rintro V' ⟨V, hD, rfl⟩
        obtain ⟨⟨⟨hg, -⟩, hR1⟩, hR2⟩ := hD
        obtain ⟨hge, hBg⟩ := hR2 g13 rfl
        have hg : Grown wr V := hg
        have ho := hR1 v1 A2 c2 rfl
        have hE6 := ho.farC (b := g13) (hBg.apart ho (by decide)) 0 CT.toList
        have hb6 := bSetCells hg hge 0 CT.toList
        obtain ⟨w6, hw6⟩ : ∃ w6, V.setCells g13 0 CT.toList = w6 := ⟨_, rfl⟩
        rw [hw6] at hE6 hb6
        first | rw [hw6] | (show Exit.then _ _ _ _ (V.setCells g13 0 CT.toList); rw [hw6])
        have HE6 := Lib.hid hE6
        have HB6z : Hid (wa.heap.size < wr.heap.size) := Lib.hid (HOI.out.block_lt _ rfl)
        have HO6 := Lib.hid (HOI.out.below hb6)
        have HB6 := Lib.hid (bTrans hbi hb6)
        obtain ⟨ln, hln⟩ : ∃ ln, L.length = ln := ⟨_, rfl⟩
        rw [hln] at HE6
        have HLN := Lib.hid hln
        have hD2 := fun V (hV : Below w6.heap.size w6 V) => rdeaths_any A2 c2 L 2 V (by have := HLV.out; omega) ((HE6.out.below hV).rd)
        rw [hln] at hD2 ⊢
        have HD2 := Lib.hid hD2
        have fi := HO6.out.one (h := fun n : Int => Value.int .i64 n) (fun _ => rfl) (k := i) (by rw [rowOf_length]; exact hlt)
        rw [rowOf_get] at fi
        have hdl1 : dthN L 1 ≤ 2200 := by have := dthN_le L 1; have := HLV.out; omega
        have hdl2 : dthN L 2 ≤ 2200 := by have := dthN_le L 2; have := HLV.out; omega
        have bi := HFB.out i
        have bj := HFB.out j
        have hgl := HO6.out.block_lt _ rfl
        dsimp only at bi bj
        clear hw6 hE6 hb6 hg hge hBg hR1 hR2 ho hKp hKp2 hKp3 hKp4 hD2 hln HSEED HMT H1C HSZ ci cj HOI hbi hbw
        go_upto_region 22 with fail
        refine wp_region_mild_tail 10 (by kernel_rfl) (by kernel_rfl) ?_
        simp only [List.take_succ_cons, List.take_zero, List.drop_succ_cons, List.drop_zero]
        repeat (go_big_quiet_step ((go_at_call 22; exact mild_of (HD2.out _ (Ext.below _)))))
        refine wpQuiet_nil ?_
        intro w7 hw'
        obtain ⟨⟨wq, k7⟩, hw''⟩ := hw'
        subst hw''
        obtain ⟨W7, hW7⟩ : ∃ W7, w7 = W7 := ⟨_, rfl⟩
        have HO7 := Lib.hid (HO6.out.below k7)
        have HB7 := Lib.hid (bTrans HB6.out k7)
        have HE7 := Lib.hid (HE6.out.below k7)
        rw [hW7] at HO7 HB7 HE7
        rw [hW7]
        have f7 := HO7.out.one (h := fun n : Int => Value.int .i64 n) (fun _ => rfl) (k := i) (by rw [rowOf_length]; exact hlt)
        rw [rowOf_get] at f7
        have z7 := HO7.out.frozen i
        have g7 := HO7.out.block_lt _ rfl
        clear hW7 k7 fi hgl HO6 HB6 HE6 HD2
        go_upto_region 23 with fail
        obtain ⟨d2, hd2⟩ : ∃ d2 : Nat, dthN L 2 = d2 := ⟨_, rfl⟩
        obtain ⟨d1, hd1⟩ : ∃ d1 : Nat, dthN L 1 = d1 := ⟨_, rfl⟩
        rw [hd2] at hdl2 ⊢
        rw [hd1] at hdl1
        have o8 := HO7.out.set1 (h := fun n : Int => Value.int .i64 n) (fun _ => rfl) (k := i) (by rw [rowOf_length]; exact hlt) (f i + d2)
        rw [rowOf_set] at o8
        have b8 := bSetG HB7.out (Nat.le_refl wa.heap.size) i (.int .i64 (f i + d2))
        have e8 := HE7.out.farG (g := wa.heap.size) (fun e => by have := (HE7.out.isRow e); exact absurd this.1 (by have := HB6z.out; omega)) i (.int .i64 (f i + d2))
        obtain ⟨W8, hW8⟩ : ∃ W8, W7.setCell ⟨wa.heap.size, i, none⟩ (.int .i64 (f i + d2)) = W8 := ⟨_, rfl⟩
        rw [hW8] at o8 b8 e8
        rw [hW8]
        have o8' : OwnL W8 wa.heap.size 3 1 (.slice (some ⟨wa.heap.size, 0, none⟩) n n) inC (rowOf n (up1 f i d2)) := o8
        have HO8 := Lib.hid o8'
        have HB8 := Lib.hid b8
        have HE8 := Lib.hid e8
        have u1 : 0 ≤ up1 f i d2 j ∧ up1 f i d2 j ≤ 4400 * (k : Int) + 2200 := up1_bd HFB.out (by omega) (by omega) j
        have f8 := HO8.out.one (h := fun n : Int => Value.int .i64 n) (fun _ => rfl) (k := j) (by rw [rowOf_length]; exact hlj)
        rw [rowOf_get] at f8
        have z8 := HO8.out.frozen j
        have g8 := HO8.out.block_lt _ rfl
        obtain ⟨uj, huj⟩ : ∃ uj, up1 f i d2 j = uj := ⟨_, rfl⟩
        rw [huj] at u1 f8
        have hD1 := fun V (hV : Below W8.heap.size W8 V) => rdeaths_any A2 c2 L 1 V (by have := HLV.out; omega) ((HE8.out.below hV).rd)
        rw [HLN.out, hd1] at hD1
        have HD1 := Lib.hid hD1
        clear hW8 o8 o8' b8 e8 f7 z7 g7 HO7 HB7 HE7 hD1 bi bj hdl2
        refine wp_region_mild_tail 10 (by kernel_rfl) (by kernel_rfl) ?_
        simp only [List.take_succ_cons, List.take_zero, List.drop_succ_cons, List.drop_zero]
        repeat (go_big_quiet_step ((go_at_call 22; exact mild_of (HD1.out _ (Ext.below _)))))
        refine wpQuiet_nil ?_
        intro w9 hw'
        obtain ⟨⟨wq, k9⟩, hw''⟩ := hw'
        subst hw''
        obtain ⟨W9, hW9⟩ : ∃ W9, w9 = W9 := ⟨_, rfl⟩
        have HO9 := Lib.hid (HO8.out.below k9)
        have HB9 := Lib.hid (bTrans HB8.out k9)
        rw [hW9] at HO9 HB9
        rw [hW9]
        have f9 := HO9.out.one (h := fun n : Int => Value.int .i64 n) (fun _ => rfl) (k := j) (by rw [rowOf_length]; exact hlj)
        rw [rowOf_get, huj] at f9
        have z9 := HO9.out.frozen j
        have g9 := HO9.out.block_lt _ rfl
        clear hW9 k9 f8 z8 g8 HO8 HB8 HE8 HD1
        go_upto_region 24 with fail
        have o10 := HO9.out.set1 (h := fun n : Int => Value.int .i64 n) (fun _ => rfl) (k := j) (by rw [rowOf_length]; exact hlj) (uj + d1)
        rw [rowOf_set] at o10
        have b10 := bSetG HB9.out (Nat.le_refl wa.heap.size) j (.int .i64 (uj + d1))
        obtain ⟨W10, hW10⟩ : ∃ W10, W9.setCell ⟨wa.heap.size, j, none⟩ (.int .i64 (uj + d1)) = W10 := ⟨_, rfl⟩
        rw [hW10] at o10 b10
        rw [hW10]
        have hfin : stI seed sk N i s0 (m + 1) = (up1 (up1 f i d2) j d1, k + 1) := by rw [HSTP.out, hd1, hd2]
        have o10' : OwnL W10 wa.heap.size 3 1 (.slice (some ⟨wa.heap.size, 0, none⟩) n n) inC (rowOf n (up1 (up1 f i d2) j d1)) := by
          have : (fun q => if q = j then uj + (d1 : Int) else up1 f i d2 q) = up1 (up1 f i d2) j d1 := by
            funext q
            show _ = if q = j then up1 f i d2 j + d1 else _
            rw [huj]
          rw [← this]
          exact o10
        have HO10 := Lib.hid o10'
        have HB10 := Lib.hid b10
        have HFIN := Lib.hid hfin
        clear hW10 o10 o10' b10 f9 z9 g9 HO9 HB9 hfin hd1 hd2 huj u1
        go_wp2_with fail
        go_roundw
        case rel => exact ⟨m + 1, by omega, by rw [← hj]; go_num, by rw [HFIN.out]; go_num, by rw [HFIN.out]; exact HO10, HB10.out⟩
        case measure => simp [intOf]; omega
      · have hmf : m = n - (i + 1) := by omega
        subst hmf
        go_wp2_with fail
        go_roundw
        case rel => exact ⟨i + 1, by omega, by go_num, by rw [HNX.out], by rw [HNX.out]; exact HOI, hbi⟩
        case measure => simp [intOf]; omega
    · have hin : i = n := by omega
      have HS9 := Lib.hid (HSC.out.below hb)
      have HO9 := HO
      rw [hin] at HO9
      have hfin : ∀ V, Below wr.heap.size wr V → Calls Tryz.prog 23 #[.slice AL n cL, .slice (some ⟨wa.heap.size, 0, none⟩) n n] V fun e w' => e = .returned (.bool true) ∧ Below V.heap.size V w' := fun V hV => by
        have := ints_same AL (some ⟨wa.heap.size, 0, none⟩) cL n (rowOf n (stO seed sk N n).1) V (by rw [rowOf_length]; omega) ((HS9.out.below hV).rd) ((HO9.out.below hV).rd)
        rwa [rowOf_length] at this
      have HFI := Lib.hid hfin
      clear hfin hin
      go_wp2_with (first | (go_at_call 23; refine (HFI.out _ (Below.refl _ _)).mono ?_; rintro e w9 ⟨rfl, hb9⟩))
      go_ret
      exact ⟨rfl, bTrans (bTrans HBA.out hb) hb9⟩
end
end Go.Proofs.YtnaclkaapicelaaGreat
