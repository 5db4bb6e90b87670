/-
  A line's move: the program's.
-/
import Derived.Test.YtlonefjbcooaaaaDoorScMd
import Derived.Test.YtlonefjbcooaaaaDoorMixO
namespace Go.Proofs.YtlonefjbcooaaaaDoor
open Go.RowKit
set_option maxRecDepth 100000
set_option linter.unusedSimpArgs false
/-- A name's place among the names. -/
def idxI (x : List UInt8) : Int := (((List.range 7).find? fun j => decide (nmR.getD j [] = x)).map (fun j : Nat => (j : Int))).getD (-1)
theorem idxI_hit {x : List UInt8} {j : Nat} (hj : j < 7) (h : ∀ i, i < j → nmR.getD i [] ≠ x) (hx : nmR.getD j [] = x) : idxI x = j := by
  have : (List.range 7).find? (fun j => decide (nmR.getD j [] = x)) = some j := by
    rw [List.find?_eq_some_iff_append]
    refine ⟨by simpa using hx, List.range j, List.range' (j + 1) (7 - (j + 1)), ?_, fun a ha => by simpa using h a (by simpa using ha)⟩
    rcases j with _ | _ | _ | _ | _ | _ | _ | j <;> first | rfl | omega
  unfold idxI
  rw [this]; rfl
theorem idxI_none {x : List UInt8} (h : ∀ i, i < 7 → nmR.getD i [] ≠ x) : idxI x = -1 := by
  have : (List.range 7).find? (fun j => decide (nmR.getD j [] = x)) = none := by
    rw [List.find?_eq_none]
    intro a ha
    simpa using h a (by simpa using ha)
  unfold idxI
  rw [this]; rfl
theorem idxI_cases (x : List UInt8) : (idxI x = -1 ∧ ∀ i, i < 7 → nmR.getD i [] ≠ x) ∨ ∃ j : Nat, j < 7 ∧ idxI x = j ∧ nmR.getD j [] = x := by
  unfold idxI
  cases h : (List.range 7).find? (fun j => decide (nmR.getD j [] = x)) with
  | none => exact .inl ⟨rfl, fun i hi => by have := List.find?_eq_none.1 h i (by simpa using hi); simpa using this⟩
  | some j => exact .inr ⟨j, by have := List.mem_of_find?_eq_some h; simpa using this, rfl, by have := List.find?_some h; simpa using this⟩
set_option maxHeartbeats 4000000 in
theorem sindex_any (x : List UInt8) (w : World) (h : ScW w w.heap.size) :
    Calls Tryd.prog 37 #[.slice (some ⟨0, 0, none⟩) 7 7, .string ⟨x.toArray⟩] w fun e w' => e = .returned (.int .i64 (idxI x)) ∧ w = w' := by
  have HM := Lib.hid h.nm
  have hlow := h.low
  have HI := Lib.hid (fun j hj h hx => idxI_hit (x := x) (j := j) hj h hx)
  have HN := Lib.hid (fun h => idxI_none (x := x) h)
  clear h
  go_enter Tryd.func37, Tryd.ntmps37
  go_wp2_with fail
  go_loop [8] (fun i => ∃ j : Nat, j ≤ 7 ∧ i = .int .i64 j ∧ Hid (∀ i, i < j → nmR.getD i [] ≠ x)) (fun i => 7 - (intOf i).toNat)
  case atStart => exact ⟨0, Nat.zero_le _, rfl, Lib.hid (fun i hi => absurd hi (Nat.not_lt_zero _))⟩
  case round =>
    obtain ⟨j, hj, rfl, HJ⟩ := hrel
    by_cases hlt : j < 7
    · have x0 : w.cell? ⟨0, j, none⟩ = some (.string ⟨(nmR.getD j []).toArray⟩) := HM.out j hlt
      obtain ⟨y, hy⟩ : ∃ y, nmR.getD j [] = y := ⟨_, rfl⟩
      rw [hy] at x0
      by_cases hx : y = x
      · subst hx
        have HX := Lib.hid (HI.out j hlt HJ.out hy)
        clear hy
        go_wp2
        go_ret
        exact ⟨by rw [HX.out]; rfl, rfl⟩
      · have gx : (x == y) = false := by rw [beq_eq_false_iff_ne]; exact fun e => hx e.symm
        have HJ2 : Hid (∀ i, i < j + 1 → nmR.getD i [] ≠ x) := Lib.hid (fun i hi => by
          by_cases h : i < j
          · exact HJ.out i h
          · obtain rfl : i = j := by omega
            rw [hy]; exact hx)
        clear hy hx
        go_wp2
        go_round
        case rel => exact ⟨j + 1, by omega, by go_num, HJ2⟩
        case measure => simp [intOf]; omega
    · obtain rfl : j = 7 := by omega
      have HX := Lib.hid (HN.out HJ.out)
      go_wp2
      go_ret
      exact ⟨by rw [HX.out]; rfl, rfl⟩
theorem nm_inj {i j : Nat} (hi : i < 7) (hj : j < 7) (h : nmR.getD i [] = nmR.getD j []) : i = j := by
  have : ∀ i, i < 7 → ∀ j, j < 7 → nmR.getD i [] = nmR.getD j [] → i = j := by decide
  exact this i hi j hj h
theorem findM_name {h0 : List UInt8} {t : List (List UInt8)} {j : Nat} (hj : j < 6) (h : nmR.getD (j + 1) [] = h0) : findM (h0 :: t) = if t.length = ctK j then (numsO t).map (fun ns => (j, ns)) else none := by
  have hother : ∀ i, i < 6 → i ≠ j → lineO (h0 :: t) (nmK i) (ctK i) = none := fun i hi hn => by
    unfold lineO
    simp only
    rw [if_neg]
    rintro ⟨e, -⟩
    exact hn (by have := nm_inj (i := i + 1) (j := j + 1) (by omega) (by omega) (by rw [h]; exact e.symm); omega)
  have hme : lineO (h0 :: t) (nmK j) (ctK j) = if t.length = ctK j then numsO t else none := by
    unfold lineO
    simp only
    by_cases hl : t.length = ctK j
    · rw [if_pos ⟨h.symm, hl⟩, if_pos hl]
    · rw [if_neg (fun e => hl e.2), if_neg hl]
  cases hX : lineO (h0 :: t) (nmK j) (ctK j) with
  | some ns =>
    rw [findM_hit hj (fun i hi => hother i (by omega) (by omega)) hX]
    rw [hme] at hX
    split at hX
    · rename_i hl; rw [if_pos hl, hX]; rfl
    · cases hX
  | none =>
    rw [findM_none (fun i hi => by by_cases e : i = j; · rw [e]; exact hX
                                   · exact hother i hi e)]
    rw [hme] at hX
    split at hX
    · rename_i hl; rw [if_pos hl, hX]; rfl
    · rename_i hl; rw [if_neg hl]
theorem mvO_noname {h0 : List UInt8} {t : List (List UInt8)} (h : ∀ j, j < 6 → nmR.getD (j + 1) [] ≠ h0) : mvO (h0 :: t) = none := by
  unfold mvO
  rw [findM_none (fun j hj => by unfold lineO; simp only; rw [if_neg]; rintro ⟨e, -⟩; exact h j hj e.symm)]
theorem mvO_none {ws : List (List UInt8)} (h : findM ws = none) : mvO ws = none := by unfold mvO; rw [h]
/-- What script.numbers hands back, told. -/
def snumTold (w : World) (t : List (List UInt8)) (cnt : Nat) : Told := ⟨fun v => ∃ A n c b, v = .tuple #[.slice A n c, .bool b] ∧ (numsO t = none → b = false) ∧ ∀ ns, numsO t = some ns → b = decide (t.length = cnt), fun v W => ∀ A n c b, v = .tuple #[.slice A n c, .bool b] → ∀ ns, numsO t = some ns → OwnL W w.heap.size 3 1 (.slice A n c) iF ns⟩
theorem snumTold_st {w : World} {t : List (List UInt8)} {cnt : Nat} : ∀ v W U, (snumTold w t cnt).R v W → Grown W U → (snumTold w t cnt).R v U := fun _ _ _ h k A n c b e ns hr => (h A n c b e ns hr).below k
theorem snum_makes (A : Option Addr) (c : Nat) (t : List (List UInt8)) (cnt : Nat) (w : World) (hn : t.length ≤ 1000000) (hr : Rd w w.heap.size A (t.flatMap sF)) (hl : ∀ l ∈ t, l.length ≤ 1000000) (h : ScW w w.heap.size) (W : World) (hW : Grown w W) :
    Calls Tryd.prog 36 #[.slice A t.length c, .int .i64 cnt] W fun e w' => ∃ v, e = .returned v ∧ ((snumTold w t cnt).S v ∧ (snumTold w t cnt).R v w') ∧ Grown W w' := by
  refine (numbers_any A c t cnt W hn ((hr.below hW (Nat.le_refl _)).more hW.size) hl (h.on hW)).mono ?_
  rintro e w' ⟨A', n', c', b, rfl, hb, hno, hyes⟩
  refine ⟨_, rfl, ⟨⟨A', n', c', b, rfl, hno, fun ns e => (hyes ns e).1⟩, ?_⟩, hb⟩
  intro A2 n2 c2 b2 e ns hr
  cases e
  exact (hyes ns hr).2.more hW.size
theorem goes_one {P : Program} {o : Oper} {a : Act} {W : World} (ty : TypeId) (x y : Operand) (ho : o.op = .store ty x y) (b i : Nat) (u : Value) (hx : a.eval x = .pointer (some ⟨b, i, none⟩)) (hy : a.eval y = u) (ht : W.there b i 1) (hi : (P.info? ty).map (·.size) = some 1) (hc : u.cells = #[u]) (h1 : u.oneCell' = true) {T : Value → World → Prop} (hT : T undef (W.setCell ⟨b, i, none⟩ u)) :
    Oper.goes P o a W T := by
  have hr : (execOp a.eval o).run P W = .ok .skip (W.setCell ⟨b, i, none⟩ u) := by
    unfold execOp
    simp only [ho, hx, hy, Instr.storeAt, Instr.sureAddr, Sem.run_bind, Sem.run_pure, Result.andThen_ok, run_storeVar_cell W b i ty u ht hi hc h1]
  unfold Oper.goes
  rw [hr]
  exact hT
/-- All lies as it lay, but for one block, which holds what it held, or went from C0 to C. -/
structure RelY (c : Nat) (T : TypeId) (C0 C : Array Value) (w W : World) : Prop where
  os : W.os = w.os
  tape : W.tape = w.tape
  output : W.output = w.output
  size : w.heap.size ≤ W.heap.size
  block : ∀ k, k < w.heap.size → k ≠ c → W.heap[k]? = w.heap[k]?
  one : W.heap[c]? = w.heap[c]? ∨ (Blk w c T C0 ∧ Blk W c T C)
section
variable {c B : Nat} {T : TypeId} {C0 C : Array Value} {w W U a : World}
theorem RelY.refl : RelY c T C0 C w w := ⟨rfl, rfl, rfl, Nat.le_refl _, fun _ _ _ => rfl, .inl rfl⟩
theorem RelY.trans (h : RelY c T C0 C w W) (k : RelY c T C0 C W U) : RelY c T C0 C w U :=
  ⟨k.os.trans h.os, k.tape.trans h.tape, k.output.trans h.output, Nat.le_trans h.size k.size, fun j hj hn => (k.block j (Nat.lt_of_lt_of_le hj h.size) hn).trans (h.block j hj hn), by
    rcases h.one with e2 | ⟨e2, e3⟩
    · rcases k.one with e | ⟨e, e4⟩
      · exact .inl (e.trans e2)
      · exact .inr ⟨e2.symm.trans e, e4⟩
    · rcases k.one with e | ⟨e, e4⟩
      · exact .inr ⟨e2, e.trans e3⟩
      · exact .inr ⟨e2, e4⟩⟩
theorem RelY.own (h : RelY c T C0 C w W) (k : Blk w c T C) : Blk W c T C := by
  rcases h.one with e | e
  · exact e.trans k
  · exact e.2
theorem RelY.below (h : RelY c T C0 C w W) (k : Below B a w) (hB : B ≤ c) (hs : B ≤ w.heap.size) : Below B a W :=
  ⟨h.os.trans k.os, h.tape.trans k.tape, h.output.trans k.output, Nat.le_trans k.size h.size, fun j hj => (h.block j (by omega) (by omega)).trans (k.block j hj)⟩
theorem RelY.last {C2 : Array Value} (h : RelY c T C0 C w W) (k : Blk w c T C2) (he : C0 = C2 → C = C2) : Blk W c T C2 := by
  rcases h.one with e | ⟨e, e2⟩
  · exact e.trans k
  · have : C0 = C2 := by
      have := (show w.heap[c]? = _ from e).symm.trans k
      simp at this
      exact this
    rwa [he this] at e2
abbrev relH (c : Nat) (T : TypeId) (C0 C : Array Value) : GRel := ⟨RelY c T C0 C, fun _ => RelY.refl, fun h k => h.trans k, fun _ => ⟨rfl, rfl, rfl, Nat.le_refl _, fun _ _ _ => rfl, .inl rfl⟩⟩
theorem goes_rel1 {P : Program} {o : Oper} {a : Act} {c i : Nat} {T ty : TypeId} {C cs0 : Array Value} {u : Value} {w V : World} (x y : Operand) (ho : o.op = .store ty x y) (hx : a.eval x = .pointer (some ⟨c, i, none⟩)) (hy : a.eval y = u) (K : Blk w c T cs0) (hi0 : i < cs0.size) (hC : cs0.setIfInBounds i u = C) (hV : RelY c T cs0 C w V)
    (hi : (P.info? ty).map (·.size) = some 1) (hc : u.cells = #[u]) (h1 : u.oneCell' = true) : Oper.goes P o a V (fun v V' => (v = undef ∧ Blk V' c T C) ∧ RelY c T cs0 C V V') := by
  have hs : C.size = cs0.size := by rw [← hC]; simp
  have hr : ∀ k, k < V.heap.size → k ≠ c → (V.setCell ⟨c, i, none⟩ u).heap[k]? = V.heap[k]? := fun k _ hn => Below.heap_setCell V ⟨c, i, none⟩ u k hn
  rcases hV.one with e | e
  · have kv : Blk V c T cs0 := e.trans K
    have hbk : Blk (V.setCell ⟨c, i, none⟩ u) c T C := by have := kv.set i u; rwa [hC] at this
    exact goes_one ty x y ho c i u hx hy (Blk.there kv (by omega)) hi hc h1 ⟨⟨rfl, hbk⟩, ⟨rfl, rfl, rfl, by simp [World.setCell], hr, .inr ⟨kv, hbk⟩⟩⟩
  · have hbk : Blk (V.setCell ⟨c, i, none⟩ u) c T C := by
      have := e.2.set i u
      have e2 : C.setIfInBounds i u = C := by rw [← hC]; simp
      rwa [e2] at this
    exact goes_one ty x y ho c i u hx hy (Blk.there e.2 (by omega)) hi hc h1 ⟨⟨rfl, hbk⟩, ⟨rfl, rfl, rfl, by simp [World.setCell], hr, .inl (hbk.trans e.2.symm)⟩⟩
end
set_option maxHeartbeats 8000000 in
theorem move_any (A : Option Addr) (c : Nat) (h0 : List UInt8) (t : List (List UInt8)) (w : World) (hn : t.length + 1 ≤ 1000000) (hc : t.length + 1 ≤ c) (hr : Rd w w.heap.size A ((h0 :: t).flatMap sF)) (hl : ∀ l ∈ t, l.length ≤ 1000000) (h : ScW w w.heap.size) :
    Calls Tryd.prog 17 #[.slice A (t.length + 1) c] w (MvPost (h0 :: t) w) := by
  obtain ⟨b, off, hA1, hB, hcc⟩ := hr.at_ sF_length (by omega) (k := 0) (by simp)
  subst hA1
  have x0 := hcc 0 _ rfl
  rw [Nat.add_zero] at x0
  simp only [List.getElem_cons_zero] at x0
  have HR := Lib.hid hr
  have HW := Lib.hid h
  have HL := Lib.hid hl
  have hIC := idxI_cases h0
  have HSI := Lib.hid (fun V hV => sindex_any h0 V hV)
  have HFN := Lib.hid (fun j hj h => findM_name (h0 := h0) (t := t) (j := j) hj h)
  have HFO := Lib.hid (fun h => mvO_noname (h0 := h0) (t := t) h)
  obtain ⟨m, hm⟩ : ∃ m, t.length = m := ⟨_, rfl⟩
  rw [hm] at HFN
  have HM := Lib.hid hm
  rw [hm] at hn hc ⊢
  obtain ⟨ws, hws⟩ : ∃ ws, h0 :: t = ws := ⟨_, rfl⟩
  rw [hws] at HFN HFO ⊢
  clear hcc hr h hl hm hws
  go_enter Tryd.func17, Tryd.ntmps17
  go_upto_region 1 with fail
  refine named1 (F := fun W => Code.wp _ _ _ _ W) ?_
  intro w1 k0 hb1 hz1
  have K1 := Lib.hid k0
  have HB1 := Lib.hid hb1
  have y0 := (hb1.cell (p := ⟨b, off, none⟩) hB).trans x0
  have hBw : b < w1.heap.size := Nat.lt_of_lt_of_le hB hb1.size
  have HR1 := Lib.hid ((HR.out.below hb1 (Nat.le_refl _)).more hb1.size)
  have HW1 := Lib.hid (HW.out.on hb1)
  have hb1s := hb1.size
  clear k0 hb1 hz1 x0
  have hlow := HW1.out.low
  have HSJ := Lib.hid (fun V hV => HSI.out V (HW1.out.on hV))
  refine wp_region_mild (by kernel_rfl) (by kernel_rfl) ?_
  repeat (go_big_quiet_step ((go_at_call 37; exact mild_same (HSJ.out _ (Ext.below _)))))
  refine wpQuiet_nil ?_
  intro w2 hw'
  obtain ⟨⟨wq, k2⟩, hw''⟩ := hw'
  subst hw''
  have HB2 := Lib.hid (bTrans HB1.out k2)
  have HK2 := Lib.hid (K1.out.on k2)
  have HR2 := Lib.hid ((HR1.out.below k2 (Nat.le_refl _)).more k2.size)
  have HW2 := Lib.hid (HW1.out.on k2)
  have hBw2 : b < w2.heap.size := Nat.lt_of_lt_of_le hBw k2.size
  have hk2s := k2.size
  clear k2 y0
  by_cases hj : ∃ j, j < 6 ∧ nmR.getD (j + 1) [] = h0
  case neg =>
    have HX := Lib.hid (HFO.out (fun j h6 e => hj ⟨j, h6, e⟩))
    obtain ⟨r, hr, hr1⟩ : ∃ r, idxI h0 = r ∧ r < 1 := by
      rcases hIC with ⟨e, -⟩ | ⟨j, h7, e, hnj⟩
      · exact ⟨_, rfl, by omega⟩
      · refine ⟨_, rfl, ?_⟩
        rcases j with _ | j
        · omega
        · exact absurd ⟨j, by omega, hnj⟩ hj
    rw [hr]
    clear hr hIC hj
    obtain ⟨wx, hwx, hth, hres, -, hgx⟩ := mv_put (C := mv0) HK2.out rfl rfl
    have HTH := Lib.hid hth
    have HRES := Lib.hid hres
    have HWX := Lib.hid hwx
    have HGX := Lib.hid hgx
    clear hwx hth hres hgx
    go_wp2_with (first
      | (refine wpList_built rfl 40 [] rfl mv0 [] rfl built_m0 ?_)
      | (refine wpList_store_mid rfl 40 (.tmp 2) (.tmp 15) rfl w.heap.size 0 mv0 rfl rfl HTH.out mvInfo (by simp [mv0, Value.oneCell']) ?_; rw [HWX.out]))
    exact bodyPost_ret (results_sc (a := 2) (t := 40) (x := 3) rfl rfl (HRES.out _ rfl)) rfl (mvPost mv0 false rfl rfl (by simp [mv0, Value.oneCell']) (by rw [HX.out]; rfl) (fun l e => by rw [HX.out] at e; cases e) ((HB2.out).grown HGX.out (HB2.out).size (fun k e => by cases e; exact Nat.le_refl _)))
  case pos =>
    obtain ⟨j, hj6, hnj⟩ := hj
    have hix : idxI h0 = ((j + 1 : Nat) : Int) := by
      rcases hIC with ⟨e, hno⟩ | ⟨i, h7, e, hni⟩
      · exact absurd hnj (hno (j + 1) (by omega))
      · rw [e, nm_inj h7 (by omega : j + 1 < 7) (hni.trans hnj.symm)]
    rw [hix]
    have HF0 := Lib.hid (HFN.out j hj6 hnj)
    have e1 : ¬ (((j + 1 : Nat) : Int) < 1) := by omega
    have e0 : (0 : Int) ≤ ((j + 1 : Nat) : Int) := by omega
    have e7 : ((j + 1 : Nat) : Int) < 7 := by omega
    have c2 : w2.cell? ⟨1, j + 1, none⟩ = some (.int .i64 (ctK j : Nat)) := HW2.out.ct (j + 1) (by omega)
    have hct : 0 < ctK j := by rcases j with _ | _ | _ | _ | _ | _ | j <;> first | decide | omega
    have l2 : 1 < w2.heap.size := by have := HW2.out.low; omega
    clear hIC hix hnj HFN HFO HSI HSJ K1 HR1 HW1 HB1 hb1s hlow hBw
    go_upto_region 4 with fail
    have hKp := Keeps.base w2
    by_cases hc1 : c = 1
    case pos =>
      subst hc1
      obtain rfl : m = 0 := by omega
      obtain rfl : t = [] := List.eq_nil_of_length_eq_zero HM.out
      have hN := snum_makes (some ⟨b, off, none⟩) 0 [] (ctK j) w2 (by decide) (Rd.nil _ _ _) (by simp) HW2.out
      have HN := Lib.hid hN
      have HX : Hid (mvO ws = none) := Lib.hid (mvO_none (by rw [HF0.out, if_neg (by omega)]))
      clear hN
      refine wp_region_mixed [.pure, .pure, .pure, .pure, .held, .make, .pure, .pure, .pure, .pure, .pure] (fun _ => snumTold w2 [] (ctK j)) (by kernel_rfl) (by kernel_rfl) ?_
      repeat (first | (refine mix_pure rfl rfl rfl (fun K hK => ?_); go_big_quiet_op; refine hK _ ?_; clear hK K) | (refine mix_held rfl rfl rfl (by assumption) (fun K hK => ?_); go_big_quiet_op; refine hK _ ?_; clear hK K))
      refine mix_make rfl rfl (by assumption) snumTold_st (fun W hW => ?_) ?_
      · have HS2 := Lib.hid (HN.out W hW)
        go_simp
        exact HS2.out
      rintro v ⟨Av, nv, cv, bv, rfl, hno, hyes⟩ hKp2
      have hbv : bv = false := by rw [hyes [] rfl]; simp; omega
      subst hbv
      simp only [Act.put, List.setIfInBounds_toArray, List.set_cons_zero, List.set_cons_succ]
      repeat (first | (refine mix_pure rfl rfl rfl (fun K hK => ?_); go_big_quiet_op; refine hK _ ?_; clear hK K) | (refine mix_held rfl rfl rfl (by assumption) (fun K hK => ?_); go_big_quiet_op; refine hK _ ?_; clear hK K))
      refine mix_nil ?_
      rintro W ⟨hgW, -⟩
      have hgW : Below w2.heap.size w2 W := hgW
      have HB3 := Lib.hid (bTrans HB2.out hgW)
      have HK3 := Lib.hid (HK2.out.on hgW)
      clear hKp hKp2 hno hyes hgW HN c2 HF0
      obtain ⟨wx, hwx, hth, hres, -, hgx⟩ := mv_put (C := mv0) HK3.out rfl rfl
      have HTH := Lib.hid hth
      have HRES := Lib.hid hres
      have HWX := Lib.hid hwx
      have HGX := Lib.hid hgx
      clear hwx hth hres hgx
      go_wp2_with (first
        | (refine wpList_built rfl 40 [] rfl mv0 [] rfl built_m0 ?_)
        | (refine wpList_store_mid rfl 40 (.tmp 2) (.tmp 27) rfl w.heap.size 0 mv0 rfl rfl HTH.out mvInfo (by simp [mv0, Value.oneCell']) ?_; rw [HWX.out]))
      exact bodyPost_ret (results_sc (a := 2) (t := 40) (x := 3) rfl rfl (HRES.out _ rfl)) rfl (mvPost mv0 false rfl rfl (by simp [mv0, Value.oneCell']) (by rw [HX.out]; rfl) (fun l e => by rw [HX.out] at e; cases e) ((HB3.out).grown HGX.out (HB3.out).size (fun k e => by cases e; exact Nat.le_refl _)))
    case neg =>
    have ht : Rd w2 w2.heap.size (some ⟨b, off + 1, none⟩) (t.flatMap sF) := by
      have := HR2.out.sub sF_length (k := 1) (i := t.length + 1) (by omega) (by simp)
      simpa using this
    have hN := snum_makes _ (c - 1) t (ctK j) w2 (by rw [HM.out]; omega) ht HL.out HW2.out
    rw [HM.out] at hN
    have HN := Lib.hid hN
    clear ht hN
    refine wp_region_mixed [.pure, .pure, .pure, .pure, .held, .make, .pure, .pure, .pure, .pure, .pure] (fun _ => snumTold w2 t (ctK j)) (by kernel_rfl) (by kernel_rfl) ?_
    repeat (first | (refine mix_pure rfl rfl rfl (fun K hK => ?_); go_big_quiet_op; refine hK _ ?_; clear hK K) | (refine mix_held rfl rfl rfl (by assumption) (fun K hK => ?_); go_big_quiet_op; refine hK _ ?_; clear hK K))
    refine mix_make rfl rfl (by assumption) snumTold_st (fun W hW => ?_) ?_
    · have HS2 := Lib.hid (HN.out W hW)
      go_simp
      exact HS2.out
    rintro v ⟨Av, nv, cv, bv, rfl, hno, hyes⟩ hKp2
    simp only [Act.put, List.setIfInBounds_toArray, List.set_cons_zero, List.set_cons_succ]
    repeat (first | (refine mix_pure rfl rfl rfl (fun K hK => ?_); go_big_quiet_op; refine hK _ ?_; clear hK K) | (refine mix_held rfl rfl rfl (by assumption) (fun K hK => ?_); go_big_quiet_op; refine hK _ ?_; clear hK K))
    refine mix_nil ?_
    rintro W ⟨hgW, hRW⟩
    have hgW : Below w2.heap.size w2 W := hgW
    have HB3 := Lib.hid (bTrans HB2.out hgW)
    have HK3 := Lib.hid (HK2.out.on hgW)
    rw [HM.out] at hyes
    clear hKp hKp2 HN c2 hc1 e0 e1 e7
    by_cases hbad : numsO t = none ∨ m ≠ ctK j
    case pos =>
      have HX : Hid (mvO ws = none) := Lib.hid (mvO_none (by
        rw [HF0.out]
        rcases hbad with e | e
        · rw [e]; simp
        · rw [if_neg e]))
      have hbv : bv = false := by
        cases hX : numsO t with
        | none => exact hno hX
        | some ns =>
          rw [hX] at hbad
          rw [hyes ns hX]
          rcases hbad with e | e
          · cases e
          · exact decide_eq_false e
      subst hbv
      clear hno hyes hgW HF0 hbad hRW
      obtain ⟨wx, hwx, hth, hres, -, hgx⟩ := mv_put (C := mv0) HK3.out rfl rfl
      have HTH := Lib.hid hth
      have HRES := Lib.hid hres
      have HWX := Lib.hid hwx
      have HGX := Lib.hid hgx
      clear hwx hth hres hgx
      go_wp2_with (first
        | (refine wpList_built rfl 40 [] rfl mv0 [] rfl built_m0 ?_)
        | (refine wpList_store_mid rfl 40 (.tmp 2) (.tmp 27) rfl w.heap.size 0 mv0 rfl rfl HTH.out mvInfo (by simp [mv0, Value.oneCell']) ?_; rw [HWX.out]))
      exact bodyPost_ret (results_sc (a := 2) (t := 40) (x := 3) rfl rfl (HRES.out _ rfl)) rfl (mvPost mv0 false rfl rfl (by simp [mv0, Value.oneCell']) (by rw [HX.out]; rfl) (fun l e => by rw [HX.out] at e; cases e) ((HB3.out).grown HGX.out (HB3.out).size (fun k e => by cases e; exact Nat.le_refl _)))
    case neg =>
      rw [not_or] at hbad
      obtain ⟨hns, hmc⟩ := hbad
      obtain ⟨ns, hX⟩ := Option.ne_none_iff_exists'.1 hns
      have hmc : m = ctK j := Decidable.not_not.1 hmc
      have hbv : bv = true := by rw [hyes ns hX]; exact decide_eq_true hmc
      subst hbv
      have HF : Hid (findM ws = some (j, ns)) := Lib.hid (by rw [HF0.out, if_pos hmc, hX]; rfl)
      have ho := hRW Av nv cv _ rfl ns hX
      have hln : ns.length = ctK j := (numsO_len hX).trans (HM.out.trans hmc)
      have hle := numsO_le hX
      have hnv := ho.len
      have hwrs : w.heap.size < w2.heap.size := HK2.out.lt
      clear hRW hno hyes hgW HF0 hX hns HL HM hmc HR2 HW2 HR HW
      have HB2 := HB3
      have HK2 := HK3
      clear HB3 HK3
      obtain ⟨kk, hkk⟩ : ∃ kk : Int, ((j + 1 : Nat) : Int) = kk := ⟨_, rfl⟩
      rw [hkk]
      rcases j with _ | _ | _ | _ | _ | _ | j
      · obtain rfl : kk = 1 := by omega
        clear hkk hct hj6
        obtain ⟨n0, n1, rfl⟩ : ∃ n0 n1, ns = [n0, n1] := (match ns, hln with | [n0, n1], _ => ⟨n0, n1, rfl⟩)
        have hn0 := hle n0 (by simp)
        have hn1 := hle n1 (by simp)
        simp only [List.length_cons, List.length_nil, Nat.zero_add, Nat.reduceAdd] at hnv
        subst hnv
        obtain ⟨gn, rfl, -, hgn0, hgn⟩ := ho.formA (by simp)
        have m0 := ho.one (h := fun z : Nat => Value.int .i64 (z : Int)) (fun _ => rfl) (k := 0) (by simp)
        have m1 := ho.one (h := fun z : Nat => Value.int .i64 (z : Int)) (fun _ => rfl) (k := 1) (by simp)
        simp only [List.getElem_cons_zero, List.getElem_cons_succ] at m0 m1
        clear ho hle hln
        go_upto_region 11 with (first
          | (refine wpList_built rfl 40 [(0, .tmp 28), (1, .tmp 31)] rfl #[.int .i64 1, .int .i64 (n0 : Nat), .int .i64 0, .int .i64 0, .int .u8 0, .int .u8 0] [(0, .int .i64 1), (1, .int .i64 (n0 : Nat))] ?_ (built_m1 1 (n0 : Nat)) ?_; (case' hv => rfl))
          | (refine wpList_store_mid rfl 40 (.tmp 7) (.tmp 32) rfl W.heap.size 0 #[.int .i64 1, .int .i64 (n0 : Nat), .int .i64 0, .int .i64 0, .int .u8 0, .int .u8 0] rfl rfl (there_new _ _ _ rfl) mvInfo (by simp [Value.oneCell']) ?_
             refine named_put (F := fun W => wpList _ _ _ _ _ W) rfl ?_
             intro w4 k4 hb4 hz4
             have m14 := (hb4.cell (p := ⟨gn, 1, none⟩) hgn).trans m1; have k45 := k4.cell 5; have f45 := k4.frozen 5
             have K4 := Lib.hid k4
             have HBW := Lib.hid hb4
             have hgn4 : gn < w4.heap.size := by omega
             have hww : w.heap.size < W.heap.size := HK2.out.lt
             clear k4 hb4))
        obtain ⟨CL, hCL⟩ : ∃ CL : List Value, [.int .i64 1, .int .i64 (n0 : Nat), .int .i64 0, .int .i64 0, .int .u8 0, .int .u8 ((n1 : Int) % 256)] = CL := ⟨_, rfl⟩
        have hCA : mvC 0 [n0, n1] = CL := by rw [← hCL]; simp [mvC]
        have hC1 : CL.toArray.all (·.oneCell') = true := by rw [← hCL]; simp [Value.oneCell']
        have hC6 : CL.length = 6 := by rw [← hCL]; rfl
        have hC6a : 6 = CL.toArray.size := by rw [List.size_toArray, hC6]
        have HMV : Hid (mvO ws = if (decide ((n1 : Int) ≤ 255)) = true then some CL else none) := Lib.hid (by rw [mvO_of HF.out, hCA]; congr 1; simp [okM]; omega)
        have k5 : Blk (w4.setCell ⟨W.heap.size, 5, none⟩ (.int .u8 ((n1 : Int) % 256))) W.heap.size 40 CL.toArray := by rw [← hCL]; exact K4.out.set 5 _
        have bW5 := Below.setCell (p := ⟨W.heap.size, 5, none⟩) HBW.out (Nat.le_refl _) (.int .u8 ((n1 : Int) % 256))
        obtain ⟨w5, hw5⟩ : ∃ w5, w4.setCell ⟨W.heap.size, 5, none⟩ (.int .u8 ((n1 : Int) % 256)) = w5 := ⟨_, rfl⟩
        rw [hw5] at k5 bW5 ⊢
        have HB5 := Lib.hid (bTrans HB2.out bW5)
        have HK5 := Lib.hid (HK2.out.on bW5)
        have my := (bW5.cell (p := ⟨gn, 1, none⟩) hgn).trans m1
        have hg5 : gn < w5.heap.size := Nat.lt_of_lt_of_le hgn bW5.size
        have hl5 := k5.lt
        have hr5 : w5.rangeAt W.heap.size 0 CL := fun j v hv => by rw [Nat.zero_add, k5.cell]; simpa using hv
        have HQ5 := Lib.hid k5
        clear hw5 k5 bW5 hr5 K4 HBW m14 k45 f45 m0 m1
        have hwW : w.heap.size < W.heap.size := hww
        letI : GRel := relG w.heap.size 40 CL.toArray
        refine Z.wp_region_mixedY [.held, .pure, .pure, .held, .pure, .make, .pure] (fun _ => ⟨fun v => v = undef, fun _ V => Blk V w.heap.size 40 CL.toArray⟩) (by kernel_rfl) (by kernel_rfl) ?_
        refine Z.mixY_load rfl rfl 40 (.tmp 7) rfl W.heap.size 0 rfl CL _ (fun V hV => fun j v hv => by rw [Nat.zero_add, (RelX.blk hV HQ5.out (by omega)).cell]; simpa using hv) Tryd.underlying40 rfl (by rw [hC6]; exact mvInfo) ?_
        simp only [Act.put, List.setIfInBounds_toArray, List.set_cons_zero, List.set_cons_succ]
        repeat (refine Z.mixY_pure rfl rfl rfl (fun K hK => ?_); go_big_quiet_op; refine hK _ ?_; clear hK K)
        refine Z.mixY_hrun (.int .i64 (n1 : Nat)) rfl rfl (fun V hV => by have q := (World.cell?_of_block (a := ⟨gn, 1, none⟩) (RelX.block hV gn hg5 (by omega))).trans my; simp [RunsTo, execOp, go_sem, q]) ?_
        simp only [Act.put, List.setIfInBounds_toArray, List.set_cons_zero, List.set_cons_succ]
        repeat (refine Z.mixY_pure rfl rfl rfl (fun K hK => ?_); go_big_quiet_op; refine hK _ ?_; clear hK K)
        refine Z.mixY_make rfl rfl (fun v V U h hg => RelX.own hg h) (fun V hV _ => goes_rel (.tmp 2) (.tmp 41) rfl rfl rfl HK5.out hC6a hV (by rw [List.size_toArray, hC6]; exact mvInfo) hC1) ?_
        rintro _ rfl
        simp only [Act.put, List.setIfInBounds_toArray, List.set_cons_zero, List.set_cons_succ]
        repeat (refine Z.mixY_pure rfl rfl rfl (fun K hK => ?_); go_big_quiet_op; refine hK _ ?_; clear hK K)
        refine Z.mixY_nil ?_
        intro V' hV'
        obtain ⟨hrel5, hF5⟩ := hV'
        have k6 : Blk V' w.heap.size 40 CL.toArray := (hF5 5).2 rfl
        have hB6 := RelX.below hrel5 HB5.out (Nat.le_refl _) (by omega)
        have HRES := Lib.hid (mv_load k6 hC6)
        have HB6 := Lib.hid hB6
        clear hrel5 hF5 k6 hB6
        go_wp2
        exact bodyPost_ret (results_sc (a := 2) (t := 40) (x := 3) rfl rfl HRES.out) rfl (mvPost CL.toArray (decide ((n1 : Int) ≤ 255)) rfl (by rw [List.size_toArray, hC6]) hC1 (by rw [HMV.out]; cases (decide ((n1 : Int) ≤ 255)) <;> rfl) (fun l e => by rw [HMV.out] at e; split at e <;> cases e; rfl) HB6.out)
      · obtain rfl : kk = 2 := by omega
        clear hkk hct hj6
        obtain ⟨n0, n1, rfl⟩ : ∃ n0 n1, ns = [n0, n1] := (match ns, hln with | [n0, n1], _ => ⟨n0, n1, rfl⟩)
        have hn0 := hle n0 (by simp)
        have hn1 := hle n1 (by simp)
        simp only [List.length_cons, List.length_nil, Nat.zero_add, Nat.reduceAdd] at hnv
        subst hnv
        obtain ⟨gn, rfl, -, hgn0, hgn⟩ := ho.formA (by simp)
        have m0 := ho.one (h := fun z : Nat => Value.int .i64 (z : Int)) (fun _ => rfl) (k := 0) (by simp)
        have m1 := ho.one (h := fun z : Nat => Value.int .i64 (z : Int)) (fun _ => rfl) (k := 1) (by simp)
        simp only [List.getElem_cons_zero, List.getElem_cons_succ] at m0 m1
        clear ho hle hln
        go_upto_region 16 with (first
          | (refine wpList_built rfl 40 [(0, .tmp 28), (1, .tmp 31)] rfl #[.int .i64 2, .int .i64 (n0 : Nat), .int .i64 0, .int .i64 0, .int .u8 0, .int .u8 0] [(0, .int .i64 2), (1, .int .i64 (n0 : Nat))] ?_ (built_m1 2 (n0 : Nat)) ?_; (case' hv => rfl))
          | (refine wpList_store_mid rfl 40 (.tmp 7) (.tmp 32) rfl W.heap.size 0 #[.int .i64 2, .int .i64 (n0 : Nat), .int .i64 0, .int .i64 0, .int .u8 0, .int .u8 0] rfl rfl (there_new _ _ _ rfl) mvInfo (by simp [Value.oneCell']) ?_
             refine named_put (F := fun W => wpList _ _ _ _ _ W) rfl ?_
             intro w4 k4 hb4 hz4
             have m14 := (hb4.cell (p := ⟨gn, 1, none⟩) hgn).trans m1; have k42 := k4.cell 2; have f42 := k4.frozen 2
             have K4 := Lib.hid k4
             have HBW := Lib.hid hb4
             have hgn4 : gn < w4.heap.size := by omega
             have hww : w.heap.size < W.heap.size := HK2.out.lt
             clear k4 hb4))
        obtain ⟨CL, hCL⟩ : ∃ CL : List Value, [.int .i64 2, .int .i64 (n0 : Nat), .int .i64 (n1 : Nat), .int .i64 0, .int .u8 0, .int .u8 0] = CL := ⟨_, rfl⟩
        have hCA : mvC 1 [n0, n1] = CL := by rw [← hCL]; simp [mvC]
        have hC1 : CL.toArray.all (·.oneCell') = true := by rw [← hCL]; simp [Value.oneCell']
        have hC6 : CL.length = 6 := by rw [← hCL]; rfl
        have HMV : Hid (mvO ws = some CL) := Lib.hid (by rw [mvO_of HF.out, hCA]; simp [okM])
        have k5 : Blk (w4.setCell ⟨W.heap.size, 2, none⟩ (.int .i64 (n1 : Nat))) W.heap.size 40 CL.toArray := by rw [← hCL]; exact K4.out.set 2 _
        have bW5 := Below.setCell (p := ⟨W.heap.size, 2, none⟩) HBW.out (Nat.le_refl _) (.int .i64 (n1 : Nat))
        obtain ⟨w5, hw5⟩ : ∃ w5, w4.setCell ⟨W.heap.size, 2, none⟩ (.int .i64 (n1 : Nat)) = w5 := ⟨_, rfl⟩
        rw [hw5] at k5 bW5 ⊢
        clear hw5 K4 HBW m14 k42 f42
        have HB5 := Lib.hid (bTrans HB2.out bW5)
        have HK5 := Lib.hid (HK2.out.on bW5)
        have hl5 := k5.lt
        have hr5 : w5.rangeAt W.heap.size 0 CL := fun j v hv => by rw [Nat.zero_add, k5.cell]; simpa using hv
        have HR5 := Lib.hid hr5
        obtain ⟨wx, hwx, hth, hres, -, hgx⟩ := mv_put (C := CL.toArray) HK5.out rfl (by rw [List.size_toArray, hC6])
        have HTH := Lib.hid hth
        have HRES := Lib.hid hres
        have HWX := Lib.hid hwx
        have HGX := Lib.hid hgx
        clear hwx hth hres hgx k5 bW5 hr5
        go_wp2_with (first
          | (refine wpList_load_mid rfl 40 (.tmp 7) rfl W.heap.size 0 rfl CL _ HR5.out Tryd.underlying40 rfl (by rw [hC6]; exact mvInfo) ?_)
          | (refine wpList_store_mid rfl 40 (.tmp 2) (.tmp 55) rfl w.heap.size 0 CL.toArray rfl rfl HTH.out (by rw [List.size_toArray, hC6]; exact mvInfo) hC1 ?_; rw [HWX.out]))
        exact bodyPost_ret (results_sc (a := 2) (t := 40) (x := 3) rfl rfl (HRES.out _ rfl)) rfl (mvPost CL.toArray true rfl (by rw [List.size_toArray, hC6]) hC1 (by rw [HMV.out]; rfl) (fun l e => by rw [HMV.out] at e; cases e; rfl) (HB5.out.grown HGX.out HB5.out.size (fun k e => by cases e; exact Nat.le_refl _)))
      · obtain rfl : kk = 3 := by omega
        clear hkk hct hj6
        obtain ⟨n0, n1, rfl⟩ : ∃ n0 n1, ns = [n0, n1] := (match ns, hln with | [n0, n1], _ => ⟨n0, n1, rfl⟩)
        have hn0 := hle n0 (by simp)
        have hn1 := hle n1 (by simp)
        simp only [List.length_cons, List.length_nil, Nat.zero_add, Nat.reduceAdd] at hnv
        subst hnv
        obtain ⟨gn, rfl, -, hgn0, hgn⟩ := ho.formA (by simp)
        have m0 := ho.one (h := fun z : Nat => Value.int .i64 (z : Int)) (fun _ => rfl) (k := 0) (by simp)
        have m1 := ho.one (h := fun z : Nat => Value.int .i64 (z : Int)) (fun _ => rfl) (k := 1) (by simp)
        simp only [List.getElem_cons_zero, List.getElem_cons_succ] at m0 m1
        clear ho hle hln
        go_upto_region 16 with (first
          | (refine wpList_built rfl 40 [(0, .tmp 28), (1, .tmp 31)] rfl #[.int .i64 3, .int .i64 (n0 : Nat), .int .i64 0, .int .i64 0, .int .u8 0, .int .u8 0] [(0, .int .i64 3), (1, .int .i64 (n0 : Nat))] ?_ (built_m1 3 (n0 : Nat)) ?_; (case' hv => rfl))
          | (refine wpList_store_mid rfl 40 (.tmp 7) (.tmp 32) rfl W.heap.size 0 #[.int .i64 3, .int .i64 (n0 : Nat), .int .i64 0, .int .i64 0, .int .u8 0, .int .u8 0] rfl rfl (there_new _ _ _ rfl) mvInfo (by simp [Value.oneCell']) ?_
             refine named_put (F := fun W => wpList _ _ _ _ _ W) rfl ?_
             intro w4 k4 hb4 hz4
             have m14 := (hb4.cell (p := ⟨gn, 1, none⟩) hgn).trans m1; have k42 := k4.cell 2; have f42 := k4.frozen 2
             have K4 := Lib.hid k4
             have HBW := Lib.hid hb4
             have hgn4 : gn < w4.heap.size := by omega
             have hww : w.heap.size < W.heap.size := HK2.out.lt
             clear k4 hb4))
        obtain ⟨CL, hCL⟩ : ∃ CL : List Value, [.int .i64 3, .int .i64 (n0 : Nat), .int .i64 (n1 : Nat), .int .i64 0, .int .u8 0, .int .u8 0] = CL := ⟨_, rfl⟩
        have hCA : mvC 2 [n0, n1] = CL := by rw [← hCL]; simp [mvC]
        have hC1 : CL.toArray.all (·.oneCell') = true := by rw [← hCL]; simp [Value.oneCell']
        have hC6 : CL.length = 6 := by rw [← hCL]; rfl
        have HMV : Hid (mvO ws = some CL) := Lib.hid (by rw [mvO_of HF.out, hCA]; simp [okM])
        have k5 : Blk (w4.setCell ⟨W.heap.size, 2, none⟩ (.int .i64 (n1 : Nat))) W.heap.size 40 CL.toArray := by rw [← hCL]; exact K4.out.set 2 _
        have bW5 := Below.setCell (p := ⟨W.heap.size, 2, none⟩) HBW.out (Nat.le_refl _) (.int .i64 (n1 : Nat))
        obtain ⟨w5, hw5⟩ : ∃ w5, w4.setCell ⟨W.heap.size, 2, none⟩ (.int .i64 (n1 : Nat)) = w5 := ⟨_, rfl⟩
        rw [hw5] at k5 bW5 ⊢
        clear hw5 K4 HBW m14 k42 f42
        have HB5 := Lib.hid (bTrans HB2.out bW5)
        have HK5 := Lib.hid (HK2.out.on bW5)
        have hl5 := k5.lt
        have hr5 : w5.rangeAt W.heap.size 0 CL := fun j v hv => by rw [Nat.zero_add, k5.cell]; simpa using hv
        have HR5 := Lib.hid hr5
        obtain ⟨wx, hwx, hth, hres, -, hgx⟩ := mv_put (C := CL.toArray) HK5.out rfl (by rw [List.size_toArray, hC6])
        have HTH := Lib.hid hth
        have HRES := Lib.hid hres
        have HWX := Lib.hid hwx
        have HGX := Lib.hid hgx
        clear hwx hth hres hgx k5 bW5 hr5
        go_wp2_with (first
          | (refine wpList_load_mid rfl 40 (.tmp 7) rfl W.heap.size 0 rfl CL _ HR5.out Tryd.underlying40 rfl (by rw [hC6]; exact mvInfo) ?_)
          | (refine wpList_store_mid rfl 40 (.tmp 2) (.tmp 55) rfl w.heap.size 0 CL.toArray rfl rfl HTH.out (by rw [List.size_toArray, hC6]; exact mvInfo) hC1 ?_; rw [HWX.out]))
        exact bodyPost_ret (results_sc (a := 2) (t := 40) (x := 3) rfl rfl (HRES.out _ rfl)) rfl (mvPost CL.toArray true rfl (by rw [List.size_toArray, hC6]) hC1 (by rw [HMV.out]; rfl) (fun l e => by rw [HMV.out] at e; cases e; rfl) (HB5.out.grown HGX.out HB5.out.size (fun k e => by cases e; exact Nat.le_refl _)))
      · obtain rfl : kk = 4 := by omega
        clear hkk hct hj6
        obtain ⟨n0, n1, rfl⟩ : ∃ n0 n1, ns = [n0, n1] := (match ns, hln with | [n0, n1], _ => ⟨n0, n1, rfl⟩)
        have hn0 := hle n0 (by simp)
        have hn1 := hle n1 (by simp)
        simp only [List.length_cons, List.length_nil, Nat.zero_add, Nat.reduceAdd] at hnv
        subst hnv
        obtain ⟨gn, rfl, -, hgn0, hgn⟩ := ho.formA (by simp)
        have m0 := ho.one (h := fun z : Nat => Value.int .i64 (z : Int)) (fun _ => rfl) (k := 0) (by simp)
        have m1 := ho.one (h := fun z : Nat => Value.int .i64 (z : Int)) (fun _ => rfl) (k := 1) (by simp)
        simp only [List.getElem_cons_zero, List.getElem_cons_succ] at m0 m1
        clear ho hle hln
        go_upto_region 16 with (first
          | (refine wpList_built rfl 40 [(0, .tmp 28), (1, .tmp 31)] rfl #[.int .i64 4, .int .i64 (n0 : Nat), .int .i64 0, .int .i64 0, .int .u8 0, .int .u8 0] [(0, .int .i64 4), (1, .int .i64 (n0 : Nat))] ?_ (built_m1 4 (n0 : Nat)) ?_; (case' hv => rfl))
          | (refine wpList_store_mid rfl 40 (.tmp 7) (.tmp 32) rfl W.heap.size 0 #[.int .i64 4, .int .i64 (n0 : Nat), .int .i64 0, .int .i64 0, .int .u8 0, .int .u8 0] rfl rfl (there_new _ _ _ rfl) mvInfo (by simp [Value.oneCell']) ?_
             refine named_put (F := fun W => wpList _ _ _ _ _ W) rfl ?_
             intro w4 k4 hb4 hz4
             have m14 := (hb4.cell (p := ⟨gn, 1, none⟩) hgn).trans m1; have k42 := k4.cell 2; have f42 := k4.frozen 2
             have K4 := Lib.hid k4
             have HBW := Lib.hid hb4
             have hgn4 : gn < w4.heap.size := by omega
             have hww : w.heap.size < W.heap.size := HK2.out.lt
             clear k4 hb4))
        obtain ⟨CL, hCL⟩ : ∃ CL : List Value, [.int .i64 4, .int .i64 (n0 : Nat), .int .i64 (n1 : Nat), .int .i64 0, .int .u8 0, .int .u8 0] = CL := ⟨_, rfl⟩
        have hCA : mvC 3 [n0, n1] = CL := by rw [← hCL]; simp [mvC]
        have hC1 : CL.toArray.all (·.oneCell') = true := by rw [← hCL]; simp [Value.oneCell']
        have hC6 : CL.length = 6 := by rw [← hCL]; rfl
        have HMV : Hid (mvO ws = some CL) := Lib.hid (by rw [mvO_of HF.out, hCA]; simp [okM])
        have k5 : Blk (w4.setCell ⟨W.heap.size, 2, none⟩ (.int .i64 (n1 : Nat))) W.heap.size 40 CL.toArray := by rw [← hCL]; exact K4.out.set 2 _
        have bW5 := Below.setCell (p := ⟨W.heap.size, 2, none⟩) HBW.out (Nat.le_refl _) (.int .i64 (n1 : Nat))
        obtain ⟨w5, hw5⟩ : ∃ w5, w4.setCell ⟨W.heap.size, 2, none⟩ (.int .i64 (n1 : Nat)) = w5 := ⟨_, rfl⟩
        rw [hw5] at k5 bW5 ⊢
        clear hw5 K4 HBW m14 k42 f42
        have HB5 := Lib.hid (bTrans HB2.out bW5)
        have HK5 := Lib.hid (HK2.out.on bW5)
        have hl5 := k5.lt
        have hr5 : w5.rangeAt W.heap.size 0 CL := fun j v hv => by rw [Nat.zero_add, k5.cell]; simpa using hv
        have HR5 := Lib.hid hr5
        obtain ⟨wx, hwx, hth, hres, -, hgx⟩ := mv_put (C := CL.toArray) HK5.out rfl (by rw [List.size_toArray, hC6])
        have HTH := Lib.hid hth
        have HRES := Lib.hid hres
        have HWX := Lib.hid hwx
        have HGX := Lib.hid hgx
        clear hwx hth hres hgx k5 bW5 hr5
        go_wp2_with (first
          | (refine wpList_load_mid rfl 40 (.tmp 7) rfl W.heap.size 0 rfl CL _ HR5.out Tryd.underlying40 rfl (by rw [hC6]; exact mvInfo) ?_)
          | (refine wpList_store_mid rfl 40 (.tmp 2) (.tmp 55) rfl w.heap.size 0 CL.toArray rfl rfl HTH.out (by rw [List.size_toArray, hC6]; exact mvInfo) hC1 ?_; rw [HWX.out]))
        exact bodyPost_ret (results_sc (a := 2) (t := 40) (x := 3) rfl rfl (HRES.out _ rfl)) rfl (mvPost CL.toArray true rfl (by rw [List.size_toArray, hC6]) hC1 (by rw [HMV.out]; rfl) (fun l e => by rw [HMV.out] at e; cases e; rfl) (HB5.out.grown HGX.out HB5.out.size (fun k e => by cases e; exact Nat.le_refl _)))
      · obtain rfl : kk = 5 := by omega
        clear hkk hct hj6
        obtain ⟨n0, n1, n2, n3, rfl⟩ : ∃ n0 n1 n2 n3, ns = [n0, n1, n2, n3] := (match ns, hln with | [n0, n1, n2, n3], _ => ⟨n0, n1, n2, n3, rfl⟩)
        have hn0 := hle n0 (by simp)
        have hn1 := hle n1 (by simp)
        have hn2 := hle n2 (by simp)
        have hn3 := hle n3 (by simp)
        simp only [List.length_cons, List.length_nil, Nat.zero_add, Nat.reduceAdd] at hnv
        subst hnv
        obtain ⟨gn, rfl, -, hgn0, hgn⟩ := ho.formA (by simp)
        have m0 := ho.one (h := fun z : Nat => Value.int .i64 (z : Int)) (fun _ => rfl) (k := 0) (by simp)
        have m1 := ho.one (h := fun z : Nat => Value.int .i64 (z : Int)) (fun _ => rfl) (k := 1) (by simp)
        have m2 := ho.one (h := fun z : Nat => Value.int .i64 (z : Int)) (fun _ => rfl) (k := 2) (by simp)
        have m3 := ho.one (h := fun z : Nat => Value.int .i64 (z : Int)) (fun _ => rfl) (k := 3) (by simp)
        simp only [List.getElem_cons_zero, List.getElem_cons_succ] at m0 m1 m2 m3
        clear ho hle hln
        go_upto_region 17 with (first
          | (refine wpList_built rfl 40 [(0, .tmp 28), (1, .tmp 31)] rfl #[.int .i64 5, .int .i64 (n0 : Nat), .int .i64 0, .int .i64 0, .int .u8 0, .int .u8 0] [(0, .int .i64 5), (1, .int .i64 (n0 : Nat))] ?_ (built_m1 5 (n0 : Nat)) ?_; (case' hv => rfl))
          | (refine wpList_store_mid rfl 40 (.tmp 7) (.tmp 32) rfl W.heap.size 0 #[.int .i64 5, .int .i64 (n0 : Nat), .int .i64 0, .int .i64 0, .int .u8 0, .int .u8 0] rfl rfl (there_new _ _ _ rfl) mvInfo (by simp [Value.oneCell']) ?_
             refine named_put (F := fun W => wpList _ _ _ _ _ W) rfl ?_
             intro w4 k4 hb4 hz4
             have m14 := (hb4.cell (p := ⟨gn, 1, none⟩) hgn).trans m1; have m24 := (hb4.cell (p := ⟨gn, 2, none⟩) hgn).trans m2; have m34 := (hb4.cell (p := ⟨gn, 3, none⟩) hgn).trans m3; have k42 := k4.cell 2; have f42 := k4.frozen 2
             have K4 := Lib.hid k4
             have HBW := Lib.hid hb4
             have hgn4 : gn < w4.heap.size := by omega
             have hww : w.heap.size < W.heap.size := HK2.out.lt
             clear k4 hb4))
        obtain ⟨C1, hC1e⟩ : ∃ C1 : List Value, [.int .i64 5, .int .i64 (n0 : Nat), .int .i64 (n1 : Nat), .int .i64 (n2 : Nat), .int .u8 0, .int .u8 0] = C1 := ⟨_, rfl⟩
        obtain ⟨CL, hCL⟩ : ∃ CL : List Value, [.int .i64 5, .int .i64 (n0 : Nat), .int .i64 (n1 : Nat), .int .i64 (n2 : Nat), .int .u8 ((n3 : Int) % 256), .int .u8 0] = CL := ⟨_, rfl⟩
        have hCA : mvC 4 [n0, n1, n2, n3] = CL := by rw [← hCL]; simp [mvC]
        have hC1 : CL.toArray.all (·.oneCell') = true := by rw [← hCL]; simp [Value.oneCell']
        have hC6 : CL.length = 6 := by rw [← hCL]; rfl
        have hC6a : 6 = CL.toArray.size := by rw [List.size_toArray, hC6]
        have HMV : Hid (mvO ws = if (decide ((n3 : Int) ≤ 255)) = true then some CL else none) := Lib.hid (by rw [mvO_of HF.out, hCA]; congr 1; simp [okM]; omega)
        have k5 : Blk (w4.setCell ⟨W.heap.size, 2, none⟩ (.int .i64 (n1 : Nat))) W.heap.size 40 #[.int .i64 5, .int .i64 (n0 : Nat), .int .i64 (n1 : Nat), .int .i64 0, .int .u8 0, .int .u8 0] := K4.out.set 2 _
        have bW5 := Below.setCell (p := ⟨W.heap.size, 2, none⟩) HBW.out (Nat.le_refl _) (.int .i64 (n1 : Nat))
        obtain ⟨w5, hw5⟩ : ∃ w5, w4.setCell ⟨W.heap.size, 2, none⟩ (.int .i64 (n1 : Nat)) = w5 := ⟨_, rfl⟩
        have hz5 : w5.heap.size = w4.heap.size := by rw [← hw5]; simp
        have m25 : w5.cell? ⟨gn, 2, none⟩ = some (.int .i64 (n2 : Nat)) := (bW5.cell (p := ⟨gn, 2, none⟩) hgn).trans m2 |> fun h => by rw [← hw5]; exact h
        have m35 : w5.cell? ⟨gn, 3, none⟩ = some (.int .i64 (n3 : Nat)) := (bW5.cell (p := ⟨gn, 3, none⟩) hgn).trans m3 |> fun h => by rw [← hw5]; exact h
        rw [hw5] at k5 bW5 ⊢
        have K5 := Lib.hid k5
        have HBW5 := Lib.hid bW5
        have hg5 : gn < w5.heap.size := by omega
        have hWg : W.heap.size < w5.heap.size := k5.lt
        have hC1a : (#[.int .i64 5, .int .i64 (n0 : Nat), .int .i64 (n1 : Nat), .int .i64 0, .int .u8 0, .int .u8 0] : Array Value).setIfInBounds 3 (.int .i64 (n2 : Nat)) = C1.toArray := by rw [← hC1e]; rfl
        have hC1b : C1.toArray.setIfInBounds 4 (.int .u8 ((n3 : Int) % 256)) = CL.toArray := by rw [← hC1e, ← hCL]; rfl
        have hC1s : C1.toArray.size = 6 := by rw [← hC1e]; rfl
        clear hw5 m14 m24 m34 k42 f42 m0 m1 k5 bW5 hz5
        letI : GRel := relH W.heap.size 40 #[.int .i64 5, .int .i64 (n0 : Nat), .int .i64 (n1 : Nat), .int .i64 0, .int .u8 0, .int .u8 0] C1.toArray
        refine Z.wp_region_mixedY [.pure, .pure, .held, .pure, .pure, .held, .pure, .pure, .make, .pure, .tail] (fun _ => ⟨fun v => v = undef, fun _ V => Blk V W.heap.size 40 C1.toArray⟩) (by kernel_rfl) (by kernel_rfl) ?_
        repeat (refine Z.mixY_pure rfl rfl rfl (fun K hK => ?_); go_big_quiet_op; refine hK _ ?_; clear hK K)
        refine Z.mixY_hrun (.int .i64 (n2 : Nat)) rfl rfl (fun V hV => by have q := (World.cell?_of_block (a := ⟨gn, 2, none⟩) (RelY.block hV gn hg5 (by omega))).trans m25; simp [RunsTo, execOp, go_sem, q]) ?_
        simp only [Act.put, List.setIfInBounds_toArray, List.set_cons_zero, List.set_cons_succ]
        repeat (refine Z.mixY_pure rfl rfl rfl (fun K hK => ?_); go_big_quiet_op; refine hK _ ?_; clear hK K)
        refine Z.mixY_hrun (.int .i64 (n3 : Nat)) rfl rfl (fun V hV => by have q := (World.cell?_of_block (a := ⟨gn, 3, none⟩) (RelY.block hV gn hg5 (by omega))).trans m35; simp [RunsTo, execOp, go_sem, q]) ?_
        simp only [Act.put, List.setIfInBounds_toArray, List.set_cons_zero, List.set_cons_succ]
        repeat (refine Z.mixY_pure rfl rfl rfl (fun K hK => ?_); go_big_quiet_op; refine hK _ ?_; clear hK K)
        refine Z.mixY_make rfl rfl (fun v V U h hg => RelY.own hg h) (fun V hV _ => goes_rel1 (.tmp 63) (.tmp 58) rfl rfl rfl K5.out (by show 3 < 6; decide) hC1a hV (by kernel_rfl) rfl rfl) ?_
        rintro _ rfl
        simp only [Act.put, List.setIfInBounds_toArray, List.set_cons_zero, List.set_cons_succ]
        repeat (refine Z.mixY_pure rfl rfl rfl (fun K hK => ?_); go_big_quiet_op; refine hK _ ?_; clear hK K)
        refine Z.mixY_write rfl rfl (fun v V' => v = undef ∧ Blk V' W.heap.size 40 CL.toArray ∧ Below W.heap.size W V') (fun V hV => by
          have hk : Blk V W.heap.size 40 C1.toArray := (hV.2 8).2 rfl
          have hb : Below W.heap.size W V := RelY.below hV.1 HBW5.out (Nat.le_refl _) (by omega)
          refine goes_one 5 (.tmp 64) (.tmp 62) rfl W.heap.size 4 _ rfl rfl (Blk.there hk (by omega)) (by kernel_rfl) rfl rfl ⟨rfl, ?_, ?_⟩
          · have := hk.set 4 (.int .u8 ((n3 : Int) % 256)); rwa [hC1b] at this
          · exact Below.setCell (p := ⟨W.heap.size, 4, none⟩) hb (Nat.le_refl _) _) ?_
        rintro _ V8 ⟨rfl, k5, bW5⟩
        simp only [Act.put, List.setIfInBounds_toArray, List.set_cons_zero, List.set_cons_succ]
        refine Z.mixY_nil ?_
        rintro V9 ⟨hrel9, -⟩
        have hlt8 : W.heap.size < V8.heap.size := k5.lt
        have k5 : Blk V9 W.heap.size 40 CL.toArray := RelY.last hrel9 k5 (fun e => by
          rw [← hCL] at e ⊢
          rw [← hC1e]
          simp only [List.toArray_inj, Array.mk.injEq, List.cons.injEq, Value.int.injEq, true_and, and_true] at e ⊢
          obtain ⟨e1, e2⟩ := e
          exact e2)
        have bW5 : Below W.heap.size W V9 := RelY.below hrel9 bW5 (Nat.le_refl _) (by omega)
        clear hrel9
        go_upto_region 18 with fail
        obtain ⟨w5, hw5⟩ : ∃ w5, V9 = w5 := ⟨_, rfl⟩
        rw [hw5] at k5 bW5 ⊢
        have HB5 := Lib.hid (bTrans HB2.out bW5)
        have HK5 := Lib.hid (HK2.out.on bW5)
        have my := (bW5.cell (p := ⟨gn, 3, none⟩) hgn).trans m3
        have hg5 : gn < w5.heap.size := Nat.lt_of_lt_of_le hgn bW5.size
        have hl5 := k5.lt
        have hr5 : w5.rangeAt W.heap.size 0 CL := fun j v hv => by rw [Nat.zero_add, k5.cell]; simpa using hv
        have HQ5 := Lib.hid k5
        clear hw5 k5 bW5 hr5 K4 HBW m2 m3 m25 m35 K5 HBW5
        have hwW : w.heap.size < W.heap.size := hww
        letI : GRel := relG w.heap.size 40 CL.toArray
        refine Z.wp_region_mixedY [.held, .pure, .pure, .held, .pure, .make, .pure] (fun _ => ⟨fun v => v = undef, fun _ V => Blk V w.heap.size 40 CL.toArray⟩) (by kernel_rfl) (by kernel_rfl) ?_
        refine Z.mixY_load rfl rfl 40 (.tmp 7) rfl W.heap.size 0 rfl CL _ (fun V hV => fun j v hv => by rw [Nat.zero_add, (RelX.blk hV HQ5.out (by omega)).cell]; simpa using hv) Tryd.underlying40 rfl (by rw [hC6]; exact mvInfo) ?_
        simp only [Act.put, List.setIfInBounds_toArray, List.set_cons_zero, List.set_cons_succ]
        repeat (refine Z.mixY_pure rfl rfl rfl (fun K hK => ?_); go_big_quiet_op; refine hK _ ?_; clear hK K)
        refine Z.mixY_hrun (.int .i64 (n3 : Nat)) rfl rfl (fun V hV => by have q := (World.cell?_of_block (a := ⟨gn, 3, none⟩) (RelX.block hV gn hg5 (by omega))).trans my; simp [RunsTo, execOp, go_sem, q]) ?_
        simp only [Act.put, List.setIfInBounds_toArray, List.set_cons_zero, List.set_cons_succ]
        repeat (refine Z.mixY_pure rfl rfl rfl (fun K hK => ?_); go_big_quiet_op; refine hK _ ?_; clear hK K)
        refine Z.mixY_make rfl rfl (fun v V U h hg => RelX.own hg h) (fun V hV _ => goes_rel (.tmp 2) (.tmp 65) rfl rfl rfl HK5.out hC6a hV (by rw [List.size_toArray, hC6]; exact mvInfo) hC1) ?_
        rintro _ rfl
        simp only [Act.put, List.setIfInBounds_toArray, List.set_cons_zero, List.set_cons_succ]
        repeat (refine Z.mixY_pure rfl rfl rfl (fun K hK => ?_); go_big_quiet_op; refine hK _ ?_; clear hK K)
        refine Z.mixY_nil ?_
        intro V' hV'
        obtain ⟨hrel5, hF5⟩ := hV'
        have k6 : Blk V' w.heap.size 40 CL.toArray := (hF5 5).2 rfl
        have hB6 := RelX.below hrel5 HB5.out (Nat.le_refl _) (by omega)
        have HRES := Lib.hid (mv_load k6 hC6)
        have HB6 := Lib.hid hB6
        clear hrel5 hF5 k6 hB6
        go_wp2
        exact bodyPost_ret (results_sc (a := 2) (t := 40) (x := 3) rfl rfl HRES.out) rfl (mvPost CL.toArray (decide ((n3 : Int) ≤ 255)) rfl (by rw [List.size_toArray, hC6]) hC1 (by rw [HMV.out]; cases (decide ((n3 : Int) ≤ 255)) <;> rfl) (fun l e => by rw [HMV.out] at e; split at e <;> cases e; rfl) HB6.out)
      · obtain rfl : kk = 6 := by omega
        clear hkk hct hj6
        obtain ⟨n0, rfl⟩ : ∃ n0, ns = [n0] := (match ns, hln with | [n0], _ => ⟨n0, rfl⟩)
        have hn0 := hle n0 (by simp)
        simp only [List.length_cons, List.length_nil, Nat.zero_add] at hnv
        subst hnv
        obtain ⟨gn, rfl, -, hgn0, hgn⟩ := ho.formA (by simp)
        have m0 := ho.one (h := fun z : Nat => Value.int .i64 (z : Int)) (fun _ => rfl) (k := 0) (by simp)
        simp only [List.getElem_cons_zero] at m0
        clear ho hle hln
        go_upto_region 13 with (first
          | (refine wpList_built rfl 40 [(0, .tmp 28), (1, .tmp 31)] rfl #[.int .i64 6, .int .i64 (n0 : Nat), .int .i64 0, .int .i64 0, .int .u8 0, .int .u8 0] [(0, .int .i64 6), (1, .int .i64 (n0 : Nat))] ?_ (built_m1 6 (n0 : Nat)) ?_; (case' hv => rfl))
          | (refine wpList_store_mid rfl 40 (.tmp 7) (.tmp 32) rfl W.heap.size 0 #[.int .i64 6, .int .i64 (n0 : Nat), .int .i64 0, .int .i64 0, .int .u8 0, .int .u8 0] rfl rfl (there_new _ _ _ rfl) mvInfo (by simp [Value.oneCell']) ?_
             refine named_put (F := fun W => wpList _ _ _ _ _ W) rfl ?_
             intro w4 k4 hb4 hz4
             have hunit := trivial
             have K4 := Lib.hid k4
             have HBW := Lib.hid hb4
             have hgn4 : gn < w4.heap.size := by omega
             have hww : w.heap.size < W.heap.size := HK2.out.lt
             clear k4 hb4))
        obtain ⟨CL, hCL⟩ : ∃ CL : List Value, [.int .i64 6, .int .i64 (n0 : Nat), .int .i64 0, .int .i64 0, .int .u8 0, .int .u8 0] = CL := ⟨_, rfl⟩
        have hCA : mvC 5 [n0] = CL := by rw [← hCL]; simp [mvC]
        have hC1 : CL.toArray.all (·.oneCell') = true := by rw [← hCL]; simp [Value.oneCell']
        have hC6 : CL.length = 6 := by rw [← hCL]; rfl
        have HMV : Hid (mvO ws = some CL) := Lib.hid (by rw [mvO_of HF.out, hCA]; simp [okM])
        have k5 := K4.out
        have bW5 := HBW.out
        rw [hCL] at k5
        obtain ⟨w5, hw5⟩ : ∃ w5, w4 = w5 := ⟨_, rfl⟩
        rw [hw5] at k5 bW5 ⊢
        clear hw5 K4 HBW
        have HB5 := Lib.hid (bTrans HB2.out bW5)
        have HK5 := Lib.hid (HK2.out.on bW5)
        have hl5 := k5.lt
        have hr5 : w5.rangeAt W.heap.size 0 CL := fun j v hv => by rw [Nat.zero_add, k5.cell]; simpa using hv
        have HR5 := Lib.hid hr5
        obtain ⟨wx, hwx, hth, hres, -, hgx⟩ := mv_put (C := CL.toArray) HK5.out rfl (by rw [List.size_toArray, hC6])
        have HTH := Lib.hid hth
        have HRES := Lib.hid hres
        have HWX := Lib.hid hwx
        have HGX := Lib.hid hgx
        clear hwx hth hres hgx k5 bW5 hr5
        go_wp2_with (first
          | (refine wpList_load_mid rfl 40 (.tmp 7) rfl W.heap.size 0 rfl CL _ HR5.out Tryd.underlying40 rfl (by rw [hC6]; exact mvInfo) ?_)
          | (refine wpList_store_mid rfl 40 (.tmp 2) (.tmp 48) rfl w.heap.size 0 CL.toArray rfl rfl HTH.out (by rw [List.size_toArray, hC6]; exact mvInfo) hC1 ?_; rw [HWX.out]))
        exact bodyPost_ret (results_sc (a := 2) (t := 40) (x := 3) rfl rfl (HRES.out _ rfl)) rfl (mvPost CL.toArray true rfl (by rw [List.size_toArray, hC6]) hC1 (by rw [HMV.out]; rfl) (fun l e => by rw [HMV.out] at e; cases e; rfl) (HB5.out.grown HGX.out HB5.out.size (fun k e => by cases e; exact Nat.le_refl _)))
      · omega
end Go.Proofs.YtlonefjbcooaaaaDoor
