/-
  The program's Parse.
-/
import Derived.Test.YtlonefjbcooaaaaDoorScQd
import Derived.Test.YtlonefjbcooaaaaDoorScJ
import Derived.Test.YtlonefjbcooaaaaDoorScV
namespace Go.Proofs.YtlonefjbcooaaaaDoor
open Go.RowKit
set_option maxRecDepth 100000
set_option linter.unusedSimpArgs false
theorem set_load {V : World} {g : Nat} {ns : List Nat} (K : Blk V g 27 (setC ns).toArray) : (loadVar 27 ⟨g, 0, none⟩).run Tryd.prog V = .ok (.agg (setC ns).toArray) V :=
  run_loadVar_mid V g 0 27 (setC ns) _ (fun j v hv => by rw [Nat.zero_add, K.cell]; simpa using hv) Tryd.underlying27 rfl setInfo
/-- What lies in memory while the moves are read. -/
structure PW (W : World) (B k6 k7 B1 : Nat) (nn : List Nat) (CL : Array Value) (lv av : Value) (G : List (Nat × List (List UInt8))) (N : List Nat) : Prop where
  b2 : Blk W B 27 (setC []).toArray
  b6 : Blk W k6 51 CL
  b7 : Blk W k7 27 (setC nn).toArray
  gl : OwnL W B1 43 1 lv vF G
  ga : OwnL W B1 3 1 av iF N
  rows : ∀ e ∈ G, OwnL W B1 9 1 (.slice (some ⟨e.1, 0, none⟩) e.2.length e.2.length) sF e.2
section
variable {W W1 : World} {B k6 k7 B1 : Nat} {nn : List Nat} {CL : Array Value} {lv av : Value} {G : List (Nat × List (List UInt8))} {N : List Nat}
theorem PW.below (h : PW W B k6 k7 B1 nn CL lv av G N) (hb : Below W.heap.size W W1) : PW W1 B k6 k7 B1 nn CL lv av G N :=
  ⟨h.b2.on hb, h.b6.on hb, h.b7.on hb, h.gl.below hb, h.ga.below hb, fun e he => (h.rows e he).below hb⟩
theorem PW.grown (h : PW W B k6 k7 B1 nn CL lv av G N) {base : Nat} {u : Value} {L : List (Nat × List Nat)} (ho : OwnL W base 40 6 u mvF L) (hg : W.grownBy W1 u.ownBlock) : PW W1 B k6 k7 B1 nn CL lv av G N :=
  ⟨h.b2.keptApart ho (by decide) hg, h.b6.keptApart ho (by decide) hg, h.b7.keptApart ho (by decide) hg, h.gl.keptApart ho (by decide) hg, h.ga.keptApart ho (by decide) hg, fun e he => (h.rows e he).keptApart ho (by decide) hg⟩
end
set_option maxHeartbeats 8000000 in
theorem parse_any (t : List UInt8) (w : World) (h : ScW w w.heap.size) :
    Calls Tryd.prog 7 #[.string ⟨t.toArray⟩] w (PQ t w) := by
  have HS := Lib.hid h
  clear h
  go_enter Tryd.func7, Tryd.ntmps7
  go_upto_region 1 with fail
  refine named1 (F := fun W => Code.wp _ _ _ _ W) ?_
  intro w1 k0 hb1 hz1
  have K1 := Lib.hid k0
  have HB1 := Lib.hid hb1
  have HS1 := Lib.hid (HS.out.on hb1)
  clear k0 hb1 hz1
  by_cases hlong : 200000 < t.length
  case pos =>
    obtain ⟨wx, hwx, hth, hres, -, hgx⟩ := set_put (C := (setC []).toArray) K1.out rfl rfl
    have HTH := Lib.hid hth
    have HRES := Lib.hid hres
    have HWX := Lib.hid hwx
    have HGX := Lib.hid hgx
    clear hwx hth hres hgx
    go_wp2_with (first
      | (refine wpList_built rfl 27 [] rfl (setC []).toArray [] rfl built_s0 ?_)
      | (refine wpList_store_mid rfl 27 (.tmp 2) (.tmp 17) rfl w.heap.size 0 (setC []).toArray rfl rfl HTH.out setInfo (setC_one []) ?_; rw [HWX.out]))
    exact bodyPost_ret (results_c3 (a := 2) (t := 27) (x := 3) (y := 4) (z := 5) rfl rfl (HRES.out _ rfl)) rfl (PQ.long rfl hlong (HB1.out.grown HGX.out HB1.out.size (fun k e => by cases e; exact Nat.le_refl _)))
  case neg =>
  have hlong : t.length ≤ 200000 := by omega
  have HC := Lib.hid (cut_any t w1 hlong HS1.out)
  have HML := Lib.hid (fun p hp => cutL_len 10 t p hp)
  have HPO : Hid (parseO t = parseK (cutL 10 t).length (keptL (cutL 10 t) 1)) := Lib.hid rfl
  obtain ⟨ps, hps⟩ : ∃ ps, cutL 10 t = ps := ⟨_, rfl⟩
  rw [hps] at HC HML HPO
  clear hps
  go_wp2_with fail
  go_at_call 15
  refine HC.out.mono ?_
  intro e w2 hq
  unfold CutQ at hq
  obtain ⟨G, N, l, at_, o, a, KD, rfl, hgl, hga, hrows, hP, hb2⟩ := hq
  have hK : keptL ps 1 = KD := by rw [hP.fk]; simp [keptL, cutL]
  have hE := hP.fe
  obtain ⟨hlG, hlN⟩ := hP.lens
  obtain ⟨m, hm⟩ : ∃ m, KD.length = m := ⟨_, rfl⟩
  have ham := hP.len
  have hkm := hP.kd
  rw [hm] at hlG hlN hkm
  obtain ⟨Al, cl, rfl⟩ := hgl.shape
  obtain ⟨Aa, ca, rfl⟩ := hga.shape
  rw [hlG] at hgl
  rw [hlN] at hga
  rw [hlG, hlN]
  rw [hK] at HPO
  have HO := Lib.hid hP.fo
  have HG := Lib.hid hP.fg
  have HN := Lib.hid hP.fn
  have HM := Lib.hid hm
  have HKm := Lib.hid (fun e he => keptL_mem ps 1 e he)
  rw [hK] at HKm
  have HB2 := Lib.hid (bTrans HB1.out hb2)
  have K2 := Lib.hid (K1.out.on hb2)
  have HGL := Lib.hid hgl
  have HGA := Lib.hid hga
  have HRW := Lib.hid hrows
  have HE := Lib.hid hE
  have hz1 := K1.out.lt
  have hz2 := hb2.size
  clear hgl hga hrows hP hK hE hb2 HC hm K1
  go_upto_region 4 with (first
    | (refine wpList_store_mid rfl 51 (.tmp 6) (.tmp 19) rfl w2.heap.size 0 #[.slice Al m cl, .slice Aa m ca, .int .i64 (o : Nat), .int .i64 (a : Nat)] rfl rfl (there_new _ _ _ rfl) linesInfo (by simp [Value.oneCell']) ?_
       refine named_put (F := fun W => wpList _ _ _ _ _ W) rfl ?_
       intro w4 k6 hb4 hz4
       have c60 := k6.cell 0
       have c61 := k6.cell 1
       have c62 := k6.cell 2
       have c63 := k6.cell 3
       have K6 := Lib.hid k6
       have HB4 := Lib.hid (bTrans HB2.out hb4)
       have K24 := Lib.hid (K2.out.on hb4)
       have HGL4 := Lib.hid (HGL.out.below hb4)
       have HGA4 := Lib.hid (HGA.out.below hb4)
       have HRW4 := Lib.hid (fun e he => (HRW.out e he).below hb4)
       have hk6 := k6.lt
       have hz26 : w.heap.size < w2.heap.size := by omega
       clear k6 hb4 hz4))
  simp only [List.getElem?_toArray, List.getElem?_cons_zero, List.getElem?_cons_succ] at c60 c61 c62 c63
  clear HGL HGA HRW K2
  have K2 := K24
  have HGL := HGL4
  have HGA := HGA4
  have HRW := HRW4
  clear K24 HGL4 HGA4 HRW4
  by_cases hm0 : m = 0
  case pos =>
    obtain rfl : KD = [] := List.eq_nil_of_length_eq_zero (HM.out.trans hm0)
    have HX : Hid (parseO t = .inl (a + 1)) := Lib.hid (by
      rw [HPO.out, parseK_none, HE.out rfl]
      rfl)
    subst hm0
    have HBP := HB4
    go_upto_region 5 with fail
    letI : GRel := relG w.heap.size 27 (setC []).toArray
    refine Z.wp_region_mixedY [.pure, .pure, .held, .pure, .make, .pure, .pure, .pure] (fun _ => ⟨fun v => v = undef, fun _ V => Blk V w.heap.size 27 (setC []).toArray⟩) (by kernel_rfl) (by kernel_rfl) ?_
    refine Z.mixY_run (.agg (setC []).toArray) rfl rfl (fun V => runs_built 27 [] rfl (setC []).toArray [] rfl built_s0 V) ?_
    simp only [Act.put, List.setIfInBounds_toArray, List.set_cons_zero, List.set_cons_succ]
    repeat (refine Z.mixY_pure rfl rfl rfl (fun K hK => ?_); go_big_quiet_op; refine hK _ ?_; clear hK K)
    refine Z.mixY_hrun (.int .i64 (a : Nat)) rfl rfl (fun V hV => by have q := (World.cell?_of_block (a := ⟨w2.heap.size, 3, none⟩) (RelX.block hV w2.heap.size (by omega) (by omega))).trans c63; simp [RunsTo, execOp, go_sem, q]) ?_
    simp only [Act.put, List.setIfInBounds_toArray, List.set_cons_zero, List.set_cons_succ]
    repeat (refine Z.mixY_pure rfl rfl rfl (fun K hK => ?_); go_big_quiet_op; refine hK _ ?_; clear hK K)
    refine Z.mixY_make rfl rfl (fun v V U h hg => RelX.own hg h) (fun V hV _ => goes_rel (.tmp 2) (.tmp 24) rfl rfl rfl K2.out rfl hV setInfo (setC_one [])) ?_
    rintro _ rfl
    simp only [Act.put, List.setIfInBounds_toArray, List.set_cons_zero, List.set_cons_succ]
    repeat (refine Z.mixY_pure rfl rfl rfl (fun K hK => ?_); go_big_quiet_op; refine hK _ ?_; clear hK K)
    refine Z.mixY_nil ?_
    intro V' hV'
    obtain ⟨hrel5, hF5⟩ := hV'
    have k6' : Blk V' w.heap.size 27 (setC []).toArray := (hF5 4).2 rfl
    have hB6 := RelX.below hrel5 HBP.out (Nat.le_refl _) (by omega)
    have HRES := Lib.hid (set_load k6')
    have HB6 := Lib.hid hB6
    clear hrel5 hF5 k6' hB6
    go_wp2
    exact bodyPost_ret (results_c3 (a := 2) (t := 27) (x := 3) (y := 4) (z := 5) rfl rfl HRES.out) rfl (PQ.fail (k := a + 1) rfl hlong (HX.out) HB6.out)
  case neg =>
  obtain ⟨⟨p0, n0, f0⟩, KT, rfl⟩ : ∃ e0 KT, KD = e0 :: KT := (match KD, HM.out with | e0 :: KT, _ => ⟨e0, KT, rfl⟩ | [], h => absurd h.symm hm0)
  obtain ⟨⟨q0, ws0⟩, GT, rfl⟩ : ∃ g0 GT, G = g0 :: GT := (match G, hlG with | g0 :: GT, _ => ⟨g0, GT, rfl⟩ | [], h => absurd h.symm hm0)
  have hN := HN.out
  subst hN
  have hGm := HG.out
  simp only [List.map_cons, List.cons.injEq] at hGm
  obtain ⟨rfl, hGT⟩ := hGm
  have HGT := Lib.hid hGT
  obtain ⟨h0, tw, hht⟩ : ∃ h0 tw, cutL 32 p0 = h0 :: tw := (match cutL 32 p0, cutL_ne 32 p0 with | h :: tl, _ => ⟨h, tl, rfl⟩ | [], h => absurd rfl h)
  have hp0 := HML.out p0 (HKm.out (p0, n0, f0) (by simp)).1
  have hl0 : ∀ l ∈ tw, l.length ≤ 1000000 := fun l hl => Nat.le_trans (cutL_len 32 p0 l (by rw [hht]; exact List.mem_cons_of_mem _ hl)) (by omega)
  have htw : tw.length + 1 ≤ 1000000 := by have := cutL_length_le 32 p0; rw [hht, List.length_cons] at this; omega
  have hf0 := (HO.out (p0, n0, f0) (by simp)).1
  have HS4 := Lib.hid (HS.out.on HB4.out)
  have hBad : setO (h0 :: tw) = none ∨ f0 = true → parseO t = .inl n0 := fun e => by rw [HPO.out]; exact parseK_bad (by rw [hht]; exact e)
  have hGood := fun ns (e1 : setO (h0 :: tw) = some ns) (e2 : f0 = false) => (⟨fun n e3 => by rw [HPO.out]; exact parseK_moves_bad (by rw [hht]; exact e1) e2 e3, fun L e3 => by rw [HPO.out]; exact parseK_moves_ok (by rw [hht]; exact e1) e2 e3⟩ : (∀ n, movesO KT = .inl n → parseO t = .inl n) ∧ ∀ L, movesO KT = .inr L → parseO t = .inr (ns, L))
  rw [hht] at HGL HRW
  have hrow := HRW.out (q0, h0 :: tw) (by simp)
  have hC2 := setup_any _ _ h0 tw w4 htw (Nat.le_refl _) hrow.rd hl0 HS4.out
  obtain ⟨so, hso⟩ : ∃ so, setO (h0 :: tw) = so := ⟨_, rfl⟩
  rw [hso] at hBad hGood hC2
  have HC2 := Lib.hid hC2
  have HBad := Lib.hid hBad
  have HGood := Lib.hid hGood
  have HSO := Lib.hid hso
  obtain ⟨gb, rfl, -, hgb0, hgb⟩ := HGL.out.formA (by simp)
  obtain ⟨ab, rfl, -, hab0, hab⟩ := HGA.out.formA (by simp)
  have x0 := HGL.out.one (h := fun e : Nat × List (List UInt8) => Value.slice (some ⟨e.1, 0, none⟩) e.2.length e.2.length) (fun _ => rfl) (k := 0) (by simp)
  have y0 := HGA.out.one (h := fun z : Nat => Value.int .i64 (z : Int)) (fun _ => rfl) (k := 0) (by simp)
  simp only [List.getElem_cons_zero, List.map_cons, List.length_cons] at x0 y0
  clear hGT hp0 hl0 hBad hGood hC2 hso hrow HE HG HN hht
  obtain ⟨nn, hnn⟩ : ∃ nn, so.getD [] = nn := ⟨_, rfl⟩
  rw [hnn] at HC2
  have HNN := Lib.hid hnn
  clear hnn
  go_upto_region 7 with (first
    | (go_at_call 16; refine HC2.out.mono ?_; rintro e w5 ⟨rfl, hb5⟩; have HB5 := Lib.hid hb5; clear hb5)
    | (refine wpList_store_mid rfl 27 (.tmp 7) (.tmp 34) rfl w5.heap.size 0 (setC nn).toArray rfl rfl (there_new _ _ _ rfl) setInfo (setC_one _) ?_
       refine named_put (F := fun W => wpList _ _ _ _ _ W) rfl ?_
       intro w6 k7 hb6 hz6
       have HB46 := Lib.hid (bTrans HB5.out hb6)
       have K7 := Lib.hid k7
       have hz56 := k7.lt
       clear k7 hb6 hz6))
  have HB6 := Lib.hid (bTrans HB4.out HB46.out)
  have K26 := Lib.hid (K2.out.on HB46.out)
  have K66 := Lib.hid (K6.out.on HB46.out)
  have HGL6 := Lib.hid (HGL.out.below HB46.out)
  have HGA6 := Lib.hid (HGA.out.below HB46.out)
  have HRW6 := Lib.hid (fun e he => (HRW.out e he).below HB46.out)
  have d60 := (HB46.out.cell (p := ⟨w2.heap.size, 0, none⟩) hk6).trans c60
  have d61 := (HB46.out.cell (p := ⟨w2.heap.size, 1, none⟩) hk6).trans c61
  have d62 := (HB46.out.cell (p := ⟨w2.heap.size, 2, none⟩) hk6).trans c62
  have y06 := (HB46.out.cell (p := ⟨ab, 0, none⟩) hab).trans y0
  have hz46 := HB46.out.size
  have hk66 : w2.heap.size < w6.heap.size := by omega
  have hab6 : ab < w6.heap.size := by omega
  have hgb6 : gb < w6.heap.size := by omega
  clear K2 K6 HGL HGA HRW c60 c61 c62 c63 x0 y0 HB4 HB46 HS4 HC2 hgb hab hk6
  have K2 := K26
  have HBP := HB6
  clear K26
  by_cases hbad : so = none ∨ f0 = true
  case pos =>
    have HX := Lib.hid (HBad.out hbad)
    cases so with
    | none =>
      clear HBad HGood hbad hf0
      refine wp_region_mild (by kernel_rfl) (by kernel_rfl) ?_
      repeat (go_big_quiet_step (fail))
      refine wpQuiet_nil ?_
      intro w7 hw'
      obtain ⟨⟨wq, k7'⟩, hw''⟩ := hw'
      subst hw''
      have K2 := Lib.hid (K2.out.on k7')
      have HBP := Lib.hid (bTrans HB6.out k7')
      have d71 := (k7'.cell (p := ⟨w2.heap.size, 1, none⟩) hk66).trans d61
      have y07 := (k7'.cell (p := ⟨ab, 0, none⟩) hab6).trans y06
      have hz67 := k7'.size
      clear k7' d60 d61 d62 y06
      go_upto_region 8 with fail
      letI : GRel := relG w.heap.size 27 (setC []).toArray
      refine Z.wp_region_mixedY [.pure, .pure, .held, .pure, .held, .make, .pure, .pure, .pure] (fun _ => ⟨fun v => v = undef, fun _ V => Blk V w.heap.size 27 (setC []).toArray⟩) (by kernel_rfl) (by kernel_rfl) ?_
      refine Z.mixY_run (.agg (setC []).toArray) rfl rfl (fun V => runs_built 27 [] rfl (setC []).toArray [] rfl built_s0 V) ?_
      simp only [Act.put, List.setIfInBounds_toArray, List.set_cons_zero, List.set_cons_succ]
      repeat (refine Z.mixY_pure rfl rfl rfl (fun K hK => ?_); go_big_quiet_op; refine hK _ ?_; clear hK K)
      refine Z.mixY_hrun (.slice (some ⟨ab, 0, none⟩) m ca) rfl rfl (fun V hV => by have q := (World.cell?_of_block (a := ⟨w2.heap.size, 1, none⟩) (RelX.block hV w2.heap.size (by omega) (by omega))).trans d71; simp [RunsTo, execOp, go_sem, q]) ?_
      simp only [Act.put, List.setIfInBounds_toArray, List.set_cons_zero, List.set_cons_succ]
      repeat (refine Z.mixY_pure rfl rfl rfl (fun K hK => ?_); go_big_quiet_op; refine hK _ ?_; clear hK K)
      refine Z.mixY_hrun (.int .i64 (n0 : Nat)) rfl rfl (fun V hV => by have q := (World.cell?_of_block (a := ⟨ab, 0, none⟩) (RelX.block hV ab (by omega) (by omega))).trans y07; simp [RunsTo, execOp, go_sem, q]) ?_
      simp only [Act.put, List.setIfInBounds_toArray, List.set_cons_zero, List.set_cons_succ]
      repeat (refine Z.mixY_pure rfl rfl rfl (fun K hK => ?_); go_big_quiet_op; refine hK _ ?_; clear hK K)
      refine Z.mixY_make rfl rfl (fun v V U h hg => RelX.own hg h) (fun V hV _ => goes_rel (.tmp 2) (.tmp 47) rfl rfl rfl K2.out rfl hV setInfo (setC_one [])) ?_
      rintro _ rfl
      simp only [Act.put, List.setIfInBounds_toArray, List.set_cons_zero, List.set_cons_succ]
      repeat (refine Z.mixY_pure rfl rfl rfl (fun K hK => ?_); go_big_quiet_op; refine hK _ ?_; clear hK K)
      refine Z.mixY_nil ?_
      intro V' hV'
      obtain ⟨hrel5, hF5⟩ := hV'
      have k6' : Blk V' w.heap.size 27 (setC []).toArray := (hF5 5).2 rfl
      have hB6 := RelX.below hrel5 HBP.out (Nat.le_refl _) (by omega)
      have HRES := Lib.hid (set_load k6')
      have HB6 := Lib.hid hB6
      clear hrel5 hF5 k6' hB6
      go_wp2
      exact bodyPost_ret (results_c3 (a := 2) (t := 27) (x := 3) (y := 4) (z := 5) rfl rfl HRES.out) rfl (PQ.fail (k := n0) rfl hlong (HX.out) HB6.out)
    | some ns =>
      have gO : (((n0 : Nat) : Int) == ((o : Nat) : Int)) = true := by
        have : f0 = true := hbad.resolve_left (by simp)
        rw [hf0, decide_eq_true_eq] at this
        rw [beq_iff_eq]; omega
      clear HBad HGood hbad hf0
      refine wp_region_mild (by kernel_rfl) (by kernel_rfl) ?_
      repeat (go_big_quiet_step (fail))
      refine wpQuiet_nil ?_
      intro w7 hw'
      obtain ⟨⟨wq, k7'⟩, hw''⟩ := hw'
      subst hw''
      have K2 := Lib.hid (K2.out.on k7')
      have HBP := Lib.hid (bTrans HB6.out k7')
      have d71 := (k7'.cell (p := ⟨w2.heap.size, 1, none⟩) hk66).trans d61
      have y07 := (k7'.cell (p := ⟨ab, 0, none⟩) hab6).trans y06
      have hz67 := k7'.size
      clear k7' d60 d61 d62 y06
      go_upto_region 8 with fail
      letI : GRel := relG w.heap.size 27 (setC []).toArray
      refine Z.wp_region_mixedY [.pure, .pure, .held, .pure, .held, .make, .pure, .pure, .pure] (fun _ => ⟨fun v => v = undef, fun _ V => Blk V w.heap.size 27 (setC []).toArray⟩) (by kernel_rfl) (by kernel_rfl) ?_
      refine Z.mixY_run (.agg (setC []).toArray) rfl rfl (fun V => runs_built 27 [] rfl (setC []).toArray [] rfl built_s0 V) ?_
      simp only [Act.put, List.setIfInBounds_toArray, List.set_cons_zero, List.set_cons_succ]
      repeat (refine Z.mixY_pure rfl rfl rfl (fun K hK => ?_); go_big_quiet_op; refine hK _ ?_; clear hK K)
      refine Z.mixY_hrun (.slice (some ⟨ab, 0, none⟩) m ca) rfl rfl (fun V hV => by have q := (World.cell?_of_block (a := ⟨w2.heap.size, 1, none⟩) (RelX.block hV w2.heap.size (by omega) (by omega))).trans d71; simp [RunsTo, execOp, go_sem, q]) ?_
      simp only [Act.put, List.setIfInBounds_toArray, List.set_cons_zero, List.set_cons_succ]
      repeat (refine Z.mixY_pure rfl rfl rfl (fun K hK => ?_); go_big_quiet_op; refine hK _ ?_; clear hK K)
      refine Z.mixY_hrun (.int .i64 (n0 : Nat)) rfl rfl (fun V hV => by have q := (World.cell?_of_block (a := ⟨ab, 0, none⟩) (RelX.block hV ab (by omega) (by omega))).trans y07; simp [RunsTo, execOp, go_sem, q]) ?_
      simp only [Act.put, List.setIfInBounds_toArray, List.set_cons_zero, List.set_cons_succ]
      repeat (refine Z.mixY_pure rfl rfl rfl (fun K hK => ?_); go_big_quiet_op; refine hK _ ?_; clear hK K)
      refine Z.mixY_make rfl rfl (fun v V U h hg => RelX.own hg h) (fun V hV _ => goes_rel (.tmp 2) (.tmp 47) rfl rfl rfl K2.out rfl hV setInfo (setC_one [])) ?_
      rintro _ rfl
      simp only [Act.put, List.setIfInBounds_toArray, List.set_cons_zero, List.set_cons_succ]
      repeat (refine Z.mixY_pure rfl rfl rfl (fun K hK => ?_); go_big_quiet_op; refine hK _ ?_; clear hK K)
      refine Z.mixY_nil ?_
      intro V' hV'
      obtain ⟨hrel5, hF5⟩ := hV'
      have k6' : Blk V' w.heap.size 27 (setC []).toArray := (hF5 5).2 rfl
      have hB6 := RelX.below hrel5 HBP.out (Nat.le_refl _) (by omega)
      have HRES := Lib.hid (set_load k6')
      have HB6 := Lib.hid hB6
      clear hrel5 hF5 k6' hB6
      go_wp2
      exact bodyPost_ret (results_c3 (a := 2) (t := 27) (x := 3) (y := 4) (z := 5) rfl rfl HRES.out) rfl (PQ.fail (k := n0) rfl hlong (HX.out) HB6.out)
  case neg =>
  rw [not_or] at hbad
  obtain ⟨hs1, hf1⟩ := hbad
  obtain ⟨ns, rfl⟩ := Option.ne_none_iff_exists'.1 hs1
  simp only [Option.isSome_some]
  have hf2 : f0 = false := by simpa using hf1
  obtain ⟨HGb, HGg⟩ := HGood.out ns rfl hf2
  have HGb := Lib.hid HGb
  have HGg := Lib.hid HGg
  have gO : (((n0 : Nat) : Int) == ((o : Nat) : Int)) = false := by
    rw [hf0, decide_eq_false_iff_not] at hf2
    rw [beq_eq_false_iff_ne]; omega
  have hnn : nn = ns := HNN.out.symm
  subst hnn
  clear HBad HGood hf0 hs1 hf1 hf2 HNN
  refine wp_region_mild (by kernel_rfl) (by kernel_rfl) ?_
  repeat (go_big_quiet_step (fail))
  refine wpQuiet_nil ?_
  intro w7 hw'
  obtain ⟨⟨wq, k7'⟩, hw''⟩ := hw'
  subst hw''
  have K2 := Lib.hid (K2.out.on k7')
  have K77 := Lib.hid (K7.out.on k7')
  have HB7 := Lib.hid (bTrans HB6.out k7')
  have K67 := Lib.hid (K66.out.on k7')
  have HGL7 := Lib.hid (HGL6.out.below k7')
  have HGA7 := Lib.hid (HGA6.out.below k7')
  have HRW7 := Lib.hid (fun e he => (HRW6.out e he).below k7')
  have d70 := (k7'.cell (p := ⟨w2.heap.size, 0, none⟩) hk66).trans d60
  have d71 := (k7'.cell (p := ⟨w2.heap.size, 1, none⟩) hk66).trans d61
  have d72 := (k7'.cell (p := ⟨w2.heap.size, 2, none⟩) hk66).trans d62
  have hz67 := k7'.size
  clear k7' d60 d61 d62 y06 gO K66 HGL6 HGA6 HRW6 K7 HB6 HBP
  have hmc := HGL7.out.cap
  have HPW0 : Hid (PW w7 w.heap.size w2.heap.size w5.heap.size w1.heap.size nn #[.slice (some ⟨gb, 0, none⟩) m cl, .slice (some ⟨ab, 0, none⟩) m ca, .int .i64 (o : Nat), .int .i64 (a : Nat)] (.slice (some ⟨gb, 0, none⟩) m cl) (.slice (some ⟨ab, 0, none⟩) m ca) ((q0, h0 :: tw) :: GT) (n0 :: KT.map (·.2.1))) := Lib.hid ⟨K2.out, K67.out, K77.out, HGL7.out, HGA7.out, HRW7.out⟩
  have hlK : KT.length + 1 = m := by have := HM.out; simpa using this
  have hlGT : GT.length + 1 = m := by simpa using hlG
  clear K2 K67 K77 HGL7 HGA7 HRW7 hlG hlN HM
  by_cases hc1 : cl = 1
  case pos =>
    subst hc1
    have hm1 : m = 1 := by omega
    subst hm1
    obtain rfl : KT = [] := List.eq_nil_of_length_eq_zero (by omega)
    have HX := Lib.hid (HGg.out [] rfl)
    have HL0 : Hid (OwnL w7 w.heap.size 40 6 (.slice none 0 0) mvF []) := Lib.hid OwnL.nil
    clear HGb HGg
    go_wp2_with fail
    go_loopw [9, 56] (fun out i wr => out = .slice none 0 0 ∧ i = .int .i64 0 ∧ wr = w7) (fun _ _ _ => 0)
    case atStart => exact ⟨rfl, rfl, rfl⟩
    case round =>
      obtain ⟨rfl, rfl, rfl⟩ := hrel
      have HO9 := HL0
      have HPW := HPW0
      have HB := HB7
      have HPWb := HPW.out.b2
      have hr7 : wr.rangeAt w5.heap.size 0 (setC nn) := fun j v hv => by rw [Nat.zero_add, HPW.out.b7.cell]; simpa using hv
      have HR7 := Lib.hid hr7
      obtain ⟨wx, hwx, hth, hres, hbx, hgx⟩ := set_put (C := (setC nn).toArray) HPWb rfl rfl
      have HTH := Lib.hid hth
      have HRES := Lib.hid hres
      have HWX := Lib.hid hwx
      have HGX := Lib.hid hgx
      have h75 := HPW.out.b7.lt
      clear hwx hth hres hgx hbx hr7
      go_wp2_with (first
        | (refine wpList_load_mid rfl 27 (.tmp 7) rfl w5.heap.size 0 rfl (setC nn) _ HR7.out Tryd.underlying27 rfl setInfo ?_)
        | (refine wpList_store_mid rfl 27 (.tmp 2) (.tmp 91) rfl w.heap.size 0 (setC nn).toArray rfl rfl HTH.out setInfo (setC_one _) ?_; rw [HWX.out]))
      exact bodyPost_ret (results_c3 (a := 2) (t := 27) (x := 3) (y := 4) (z := 5) rfl rfl (HRES.out _ rfl)) rfl (PQ.good rfl hlong HX.out (HO9.out.kept HGX.out (.inr (HPWb.apart HO9.out (by decide)))) (HB.out.grown HGX.out HB.out.size (fun k e => by cases e; exact Nat.le_refl _)))
  case neg =>
  have HT := Lib.hid (fun j L hj e => movesO_step KT j L hj e)
  have HL0 : Hid (OwnL w7 w.heap.size 40 6 (.slice none 0 0) mvF []) := Lib.hid OwnL.nil
  go_wp2_with fail
  go_loopw [9, 56] (fun out i wr => ∃ j : Nat, j + 1 ≤ m ∧ i = .int .i64 j ∧ ∃ A' n' c' L, out = .slice A' n' c' ∧ Hid (OwnL wr w.heap.size 40 6 (.slice A' n' c') mvF L) ∧ Hid (movesO (KT.take j) = .inr L) ∧ Hid (PW wr w.heap.size w2.heap.size w5.heap.size w1.heap.size nn #[.slice (some ⟨gb, 0, none⟩) m cl, .slice (some ⟨ab, 0, none⟩) m ca, .int .i64 (o : Nat), .int .i64 (a : Nat)] (.slice (some ⟨gb, 0, none⟩) m cl) (.slice (some ⟨ab, 0, none⟩) m ca) ((q0, h0 :: tw) :: GT) (n0 :: KT.map (·.2.1))) ∧ Hid (Below w.heap.size w wr)) (fun _ i _ => m - (intOf i).toNat)
  case atStart =>
    exact ⟨0, by omega, rfl, none, 0, 0, [], rfl, HL0, Lib.hid rfl, HPW0, HB7⟩
  case round =>
    obtain ⟨j, hj, rfl, A', n', c', L, rfl, HO9, HMO, HPW, HB⟩ := hrel
    by_cases hlt : j + 1 < m
    · have hjK : j < KT.length := by omega
      have hjG : j < GT.length := by omega
      have hmK : KT[j] ∈ (p0, n0, f0) :: KT := List.mem_cons_of_mem _ (List.getElem_mem hjK)
      have hmG : GT[j] ∈ (q0, h0 :: tw) :: GT := List.mem_cons_of_mem _ (List.getElem_mem hjG)
      have hst := HT.out j L hjK HMO.out
      have hws := congrArg (fun l => l[j]?) HGT.out
      simp only [List.getElem?_map, List.getElem?_eq_getElem hjK, List.getElem?_eq_getElem hjG, Option.map_some, Option.some.injEq] at hws
      have xj := HPW.out.gl.one (h := fun e : Nat × List (List UInt8) => Value.slice (some ⟨e.1, 0, none⟩) e.2.length e.2.length) (fun _ => rfl) (k := j + 1) (by simp; omega)
      have yj := HPW.out.ga.one (h := fun z : Nat => Value.int .i64 (z : Int)) (fun _ => rfl) (k := j + 1) (by simp; omega)
      simp only [List.getElem_cons_succ, List.getElem_map] at xj yj
      obtain ⟨e, hej⟩ : ∃ e, KT[j] = e := ⟨_, rfl⟩
      obtain ⟨g, hgj⟩ : ∃ g, GT[j] = g := ⟨_, rfl⟩
      rw [hej] at hmK hst hws yj
      rw [hgj] at hmG hws xj
      obtain ⟨pj, nj, fj⟩ := e
      obtain ⟨qj, wsj⟩ := g
      simp only at hst hws xj yj
      subst hws
      have hpj := HML.out pj (HKm.out _ hmK).1
      obtain ⟨hw, tj, hht⟩ : ∃ h0 tw, cutL 32 pj = h0 :: tw := (match cutL 32 pj, cutL_ne 32 pj with | h :: tl, _ => ⟨h, tl, rfl⟩ | [], h => absurd rfl h)
      have hlj : ∀ l ∈ tj, l.length ≤ 1000000 := fun l hl => Nat.le_trans (cutL_len 32 pj l (by rw [hht]; exact List.mem_cons_of_mem _ hl)) (by omega)
      have htj : tj.length + 1 ≤ 1000000 := by have := cutL_length_le 32 pj; rw [hht, List.length_cons] at this; omega
      have hfj : fj = decide (nj = o) := (HO.out _ hmK).1
      have hrow := HPW.out.rows _ hmG
      rw [hht] at hst xj hrow
      simp only [List.length_cons] at xj
      have HSr := Lib.hid (HS.out.on HB.out)
      have HCM := Lib.hid (move_any _ _ hw tj wr htj (Nat.le_refl _) hrow.rd hlj HSr.out)
      have HST := Lib.hid hst
      have HFJ := Lib.hid hfj
      have xj' : wr.cell? ⟨gb, 1 + j, none⟩ = some (.slice (some ⟨qj, 0, none⟩) (tj.length + 1) (tj.length + 1)) := by rw [Nat.add_comm]; exact xj
      have hk6r := HPW.out.b6.lt
      have hgbr := HPW.out.gl.block_lt gb rfl
      have habr := HPW.out.ga.block_lt ab rfl
      have HYJ := Lib.hid yj
      have e0 : (0 : Int) ≤ (j : Int) := Int.natCast_nonneg _
      have e1 : (j : Int) + 1 < (m : Int) := by omega
      clear hst xj yj hej hgj hpj hlj hht hrow hmK hmG hfj HL0 HPW0
      go_upto_region 14 with (first
        | (go_at_call 17; refine HCM.out.mono ?_; intro e w8 hq; unfold MvPost at hq; obtain ⟨⟨C, b, rfl, hC6, hC1, hbb, hCl⟩, hb8⟩ := hq
           have HB8 := Lib.hid hb8
           have HCl := Lib.hid hCl
           have HBB := Lib.hid hbb
           clear hb8 hCl hbb)
        | (refine wpList_store_mid rfl 40 (.tmp 12) (.tmp 64) rfl w8.heap.size 0 C rfl rfl (there_new _ _ _ (by rw [hC6]; rfl)) (by rw [hC6]; exact mvInfo) hC1 ?_
           refine named_put (F := fun W => wpList _ _ _ _ _ W) (by rw [Array.length_toList, hC6]; rfl) ?_
           intro w9 k12 hb9 hz9
           rw [Array.toArray_toList] at k12
           have HB89 := Lib.hid (bTrans HB8.out hb9)
           have K12 := Lib.hid k12
           have hl12 := k12.lt
           clear k12 hb9 hz9))
      have HB9 := Lib.hid (bTrans HB.out HB89.out)
      have HPW9 := Lib.hid (HPW.out.below HB89.out)
      have HO99 := Lib.hid (HO9.out.below HB89.out)
      have yj9 := (HB89.out.cell (p := ⟨ab, j + 1, none⟩) habr).trans HYJ.out
      have hz89 := HB89.out.size
      have hk69 := HPW9.out.b6.lt
      have hab9 : ab < w9.heap.size := by omega
      have z1 := HPW9.out.b6.cell 1
      have z2 := HPW9.out.b6.cell 2
      simp only [List.getElem?_toArray, List.getElem?_cons_zero, List.getElem?_cons_succ] at z1 z2
      have hbb := HBB.out
      rw [mvO_eq] at hbb
      have HCl2 : Hid (∀ l, (mvP (hw :: tj)).map mvF = some l → C = l.toArray) := by rw [← mvO_eq]; exact HCl
      clear HCM xj' HB89 HCl HBB HPW HO9 HYJ hk6r hgbr habr
      cases hmv : mvP (hw :: tj) with
      | none =>
        rw [hmv] at hbb
        have hbf : b = false := hbb
        subst hbf
        have HX := Lib.hid (HGb.out nj (HST.out.1 (.inl hmv)))
        clear HST hmv HCl2 hbb HT
        refine wp_region_mild (by kernel_rfl) (by kernel_rfl) ?_
        repeat (go_big_quiet_step (fail))
        refine wpQuiet_nil ?_
        intro w10 hw'
        obtain ⟨⟨wq, k10'⟩, hw''⟩ := hw'
        subst hw''
        have K2 := Lib.hid (HPW9.out.b2.on k10')
        have HBP := Lib.hid (bTrans HB9.out k10')
        have z71 := (k10'.cell (p := ⟨w2.heap.size, 1, none⟩) hk69).trans z1
        have y10 := (k10'.cell (p := ⟨ab, j + 1, none⟩) hab9).trans yj9
        have hz10 := k10'.size
        clear k10' z1 z2 yj9
        go_upto_region 15 with fail
        letI : GRel := relG w.heap.size 27 (setC []).toArray
        refine Z.wp_region_mixedY [.pure, .pure, .held, .pure, .pure, .pure, .held, .make, .pure, .pure, .pure] (fun _ => ⟨fun v => v = undef, fun _ V => Blk V w.heap.size 27 (setC []).toArray⟩) (by kernel_rfl) (by kernel_rfl) ?_
        refine Z.mixY_run (.agg (setC []).toArray) rfl rfl (fun V => runs_built 27 [] rfl (setC []).toArray [] rfl built_s0 V) ?_
        simp only [Act.put, List.setIfInBounds_toArray, List.set_cons_zero, List.set_cons_succ]
        repeat (refine Z.mixY_pure rfl rfl rfl (fun K hK => ?_); go_big_quiet_op; refine hK _ ?_; clear hK K)
        refine Z.mixY_hrun (.slice (some ⟨ab, 0, none⟩) m ca) rfl rfl (fun V hV => by have q := (World.cell?_of_block (a := ⟨w2.heap.size, 1, none⟩) (RelX.block hV w2.heap.size (by omega) (by omega))).trans z71; simp [RunsTo, execOp, go_sem, q]) ?_
        simp only [Act.put, List.setIfInBounds_toArray, List.set_cons_zero, List.set_cons_succ]
        repeat (refine Z.mixY_pure rfl rfl rfl (fun K hK => ?_); go_big_quiet_op; refine hK _ ?_; clear hK K)
        refine Z.mixY_hrun (.int .i64 (nj : Nat)) rfl rfl (fun V hV => by have q := (World.cell?_of_block (a := ⟨ab, j + 1, none⟩) (RelX.block hV ab (by omega) (by omega))).trans y10; simp [RunsTo, execOp, go_sem, q]) ?_
        simp only [Act.put, List.setIfInBounds_toArray, List.set_cons_zero, List.set_cons_succ]
        repeat (refine Z.mixY_pure rfl rfl rfl (fun K hK => ?_); go_big_quiet_op; refine hK _ ?_; clear hK K)
        refine Z.mixY_make rfl rfl (fun v V U h hg => RelX.own hg h) (fun V hV _ => goes_rel (.tmp 2) (.tmp 79) rfl rfl rfl K2.out rfl hV setInfo (setC_one [])) ?_
        rintro _ rfl
        simp only [Act.put, List.setIfInBounds_toArray, List.set_cons_zero, List.set_cons_succ]
        repeat (refine Z.mixY_pure rfl rfl rfl (fun K hK => ?_); go_big_quiet_op; refine hK _ ?_; clear hK K)
        refine Z.mixY_nil ?_
        intro V' hV'
        obtain ⟨hrel5, hF5⟩ := hV'
        have k6' : Blk V' w.heap.size 27 (setC []).toArray := (hF5 7).2 rfl
        have hB6 := RelX.below hrel5 HBP.out (Nat.le_refl _) (by omega)
        have HRES := Lib.hid (set_load k6')
        have HB6 := Lib.hid hB6
        clear hrel5 hF5 k6' hB6
        go_wp2
        exact bodyPost_ret (results_c3 (a := 2) (t := 27) (x := 3) (y := 4) (z := 5) rfl rfl HRES.out) rfl (PQ.fail (k := nj) rfl hlong (HX.out) HB6.out)
      | some mv =>
        rw [hmv] at hbb HCl2
        have hbf : b = true := hbb
        subst hbf
        have hCm := HCl2.out _ rfl
        by_cases hft : fj = true
        · have HX := Lib.hid (HGb.out nj (HST.out.1 (.inr hft)))
          have gO : (((nj : Nat) : Int) == ((o : Nat) : Int)) = true := by
            rw [HFJ.out, decide_eq_true_eq] at hft
            rw [beq_iff_eq]; omega
          clear HST hmv HCl2 hbb HT hft HFJ hCm
          refine wp_region_mild (by kernel_rfl) (by kernel_rfl) ?_
          repeat (go_big_quiet_step (fail))
          refine wpQuiet_nil ?_
          intro w10 hw'
          obtain ⟨⟨wq, k10'⟩, hw''⟩ := hw'
          subst hw''
          have K2 := Lib.hid (HPW9.out.b2.on k10')
          have HBP := Lib.hid (bTrans HB9.out k10')
          have z71 := (k10'.cell (p := ⟨w2.heap.size, 1, none⟩) hk69).trans z1
          have y10 := (k10'.cell (p := ⟨ab, j + 1, none⟩) hab9).trans yj9
          have hz10 := k10'.size
          clear k10' z1 z2 yj9
          go_upto_region 15 with fail
          letI : GRel := relG w.heap.size 27 (setC []).toArray
          refine Z.wp_region_mixedY [.pure, .pure, .held, .pure, .pure, .pure, .held, .make, .pure, .pure, .pure] (fun _ => ⟨fun v => v = undef, fun _ V => Blk V w.heap.size 27 (setC []).toArray⟩) (by kernel_rfl) (by kernel_rfl) ?_
          refine Z.mixY_run (.agg (setC []).toArray) rfl rfl (fun V => runs_built 27 [] rfl (setC []).toArray [] rfl built_s0 V) ?_
          simp only [Act.put, List.setIfInBounds_toArray, List.set_cons_zero, List.set_cons_succ]
          repeat (refine Z.mixY_pure rfl rfl rfl (fun K hK => ?_); go_big_quiet_op; refine hK _ ?_; clear hK K)
          refine Z.mixY_hrun (.slice (some ⟨ab, 0, none⟩) m ca) rfl rfl (fun V hV => by have q := (World.cell?_of_block (a := ⟨w2.heap.size, 1, none⟩) (RelX.block hV w2.heap.size (by omega) (by omega))).trans z71; simp [RunsTo, execOp, go_sem, q]) ?_
          simp only [Act.put, List.setIfInBounds_toArray, List.set_cons_zero, List.set_cons_succ]
          repeat (refine Z.mixY_pure rfl rfl rfl (fun K hK => ?_); go_big_quiet_op; refine hK _ ?_; clear hK K)
          refine Z.mixY_hrun (.int .i64 (nj : Nat)) rfl rfl (fun V hV => by have q := (World.cell?_of_block (a := ⟨ab, j + 1, none⟩) (RelX.block hV ab (by omega) (by omega))).trans y10; simp [RunsTo, execOp, go_sem, q]) ?_
          simp only [Act.put, List.setIfInBounds_toArray, List.set_cons_zero, List.set_cons_succ]
          repeat (refine Z.mixY_pure rfl rfl rfl (fun K hK => ?_); go_big_quiet_op; refine hK _ ?_; clear hK K)
          refine Z.mixY_make rfl rfl (fun v V U h hg => RelX.own hg h) (fun V hV _ => goes_rel (.tmp 2) (.tmp 79) rfl rfl rfl K2.out rfl hV setInfo (setC_one [])) ?_
          rintro _ rfl
          simp only [Act.put, List.setIfInBounds_toArray, List.set_cons_zero, List.set_cons_succ]
          repeat (refine Z.mixY_pure rfl rfl rfl (fun K hK => ?_); go_big_quiet_op; refine hK _ ?_; clear hK K)
          refine Z.mixY_nil ?_
          intro V' hV'
          obtain ⟨hrel5, hF5⟩ := hV'
          have k6' : Blk V' w.heap.size 27 (setC []).toArray := (hF5 7).2 rfl
          have hB6 := RelX.below hrel5 HBP.out (Nat.le_refl _) (by omega)
          have HRES := Lib.hid (set_load k6')
          have HB6 := Lib.hid hB6
          clear hrel5 hF5 k6' hB6
          go_wp2
          exact bodyPost_ret (results_c3 (a := 2) (t := 27) (x := 3) (y := 4) (z := 5) rfl rfl HRES.out) rfl (PQ.fail (k := nj) rfl hlong (HX.out) HB6.out)
        · have hff : fj = false := by simpa using hft
          have HMN := Lib.hid (HST.out.2 mv hmv hff)
          have gO : (((nj : Nat) : Int) == ((o : Nat) : Int)) = false := by
            rw [HFJ.out, decide_eq_false_iff_not] at hff
            rw [beq_eq_false_iff_ne]; omega
          have HCM := Lib.hid hCm
          clear HST hmv HCl2 hbb hft hff HFJ hCm
          refine wp_region_mild (by kernel_rfl) (by kernel_rfl) ?_
          repeat (go_big_quiet_step (fail))
          refine wpQuiet_nil ?_
          intro w10 hw'
          obtain ⟨⟨wq, k10'⟩, hw''⟩ := hw'
          subst hw''
          have HPW10 := Lib.hid (HPW9.out.below k10')
          have HO10 := Lib.hid (HO99.out.below k10')
          have HB10 := Lib.hid (bTrans HB9.out k10')
          have hr12 : w10.rangeAt w8.heap.size 0 C.toList := fun i v hv => by rw [Nat.zero_add, (K12.out.on k10').cell]; simpa using hv
          have HR12 := Lib.hid hr12
          have hz10 := k10'.size
          have hzw := HB10.out.size
          have hLl : L.length ≤ 1000000 := by
            have h1 := movesO_len _ _ HMO.out
            rw [List.length_take] at h1
            omega
          clear k10' z1 z2 yj9 hr12 HPW9 HO99 HB9 gO K12
          go_wp2_with (first
            | (refine wpList_load_mid rfl 40 (.tmp 12) rfl w8.heap.size 0 rfl C.toList _ HR12.out Tryd.underlying40 rfl (by rw [Array.length_toList, hC6]; exact mvInfo) ?_; rw [Array.toArray_toList])
            | (refine wpL_goes rfl (goL_bsN appM (by decide) (.tmp 87) rfl C hC6 rfl) ?_; rintro _ _ ⟨rfl, rfl⟩)
            | (at_builtin; refine wpList_app appM rfl (.tmp 86) (.tmp 88) rfl w.heap.size _ L [mv] (HO10.out.alloc _) rfl _ _ 1 1 rfl rfl (rd_mv _ mv HCM.out) (by simp; omega) (by simp; omega) ?_
               intro A8 c8 n8 w11 hn8 ho8 hg8
               have HO8 := Lib.hid ho8
               have HG8 := Lib.hid hg8
               clear ho8 hg8))
          go_roundw
          case rel =>
            refine ⟨j + 1, by omega, by go_num, A8, n8, c8, L ++ [mv], rfl, HO8, HMN, Lib.hid ?_, Lib.hid ?_⟩
            · exact (HPW10.out.below (bAlloc (Below.refl _ _) _)).grown (HO10.out.alloc _) HG8.out
            · exact (bAlloc HB10.out _).grown HG8.out (by simp; omega) (fun q e => HO10.out.base_le q e)
          case measure => simp [intOf]; omega
    · obtain rfl : m = j + 1 := by omega
      have hmo := HMO.out
      rw [List.take_of_length_le (by omega)] at hmo
      have HX := Lib.hid (HGg.out L hmo)
      clear hmo HT
      have HPWb := HPW.out.b2
      have hr7 : wr.rangeAt w5.heap.size 0 (setC nn) := fun j v hv => by rw [Nat.zero_add, HPW.out.b7.cell]; simpa using hv
      have HR7 := Lib.hid hr7
      obtain ⟨wx, hwx, hth, hres, hbx, hgx⟩ := set_put (C := (setC nn).toArray) HPWb rfl rfl
      have HTH := Lib.hid hth
      have HRES := Lib.hid hres
      have HWX := Lib.hid hwx
      have HGX := Lib.hid hgx
      have h75 := HPW.out.b7.lt
      clear hwx hth hres hgx hbx hr7
      go_wp2_with (first
        | (refine wpList_load_mid rfl 27 (.tmp 7) rfl w5.heap.size 0 rfl (setC nn) _ HR7.out Tryd.underlying27 rfl setInfo ?_)
        | (refine wpList_store_mid rfl 27 (.tmp 2) (.tmp 91) rfl w.heap.size 0 (setC nn).toArray rfl rfl HTH.out setInfo (setC_one _) ?_; rw [HWX.out]))
      exact bodyPost_ret (results_c3 (a := 2) (t := 27) (x := 3) (y := 4) (z := 5) rfl rfl (HRES.out _ rfl)) rfl (PQ.good rfl hlong HX.out (HO9.out.kept HGX.out (.inr (HPWb.apart HO9.out (by decide)))) (HB.out.grown HGX.out HB.out.size (fun k e => by cases e; exact Nat.le_refl _)))
end Go.Proofs.YtlonefjbcooaaaaDoor
