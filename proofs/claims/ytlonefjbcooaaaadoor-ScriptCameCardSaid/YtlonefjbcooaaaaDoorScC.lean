/-
  A line's setup: script.setup and the document's.
-/
import Derived.Test.YtlonefjbcooaaaaDoorScB
import Derived.Test.YtlonefjbcooaaaaDoorMixB
import Derived.Test.YtlonefjbcooaaaaDoorNameB
namespace Go.Proofs.YtlonefjbcooaaaaDoor
open Go.RowKit
set_option maxRecDepth 100000
set_option linter.unusedSimpArgs false
section
variable {P : Program} {fn : Func} {tmps : Array Value} {w : World} {a x : Tmp} {t : TypeId} {p : Addr} {v : Value}
theorem results_sc (hr : fn.results = #[.cell a t, .tmp x]) (ha : tmps.getD a undef = .pointer (some p)) (hl : (loadVar t p).run P w = .ok v w) :
    (results fn tmps).run P w = .ok (.tuple #[v, tmps.getD x undef]) w := by
  unfold results
  rw [hr]
  simp only [List.mapM_toArray, List.mapM_cons, List.mapM_nil, ha, asAddr]
  simp [hl]
end
theorem sc_own (w : World) (row : Option Nat) : w.grownBy w row := ⟨rfl, rfl, rfl, Nat.le_refl _, fun _ _ _ => rfl⟩
/-- A struct variable set whole, and read. -/
theorem row_put {T : TypeId} {d : TypeDesc} {n : Nat} (hu : Tryd.prog.underlying T = some d) (hd : d.isRow = true) (hi : (Tryd.prog.info? T).map (·.size) = some n) {W : World} {g : Nat} {Z C : Array Value} (K : Blk W g T Z) (hZ : Z.size = n) (hC : C.size = n) :
    ∃ wx, W.setCells g 0 C.toList = wx ∧ W.there g 0 C.size ∧ (∀ p : Addr, p = ⟨g, 0, none⟩ → (loadVar T p).run Tryd.prog wx = .ok (.agg C) wx) ∧ Blk wx g T C ∧ W.grownBy wx (some g) := by
  have hcl : C.toList.length = C.size := by simp
  have hth : W.there g 0 C.size := Blk.there K (by omega)
  have hrg := World.rangeAt_setCells_same W g 0 C.toList (by rw [hcl]; exact hth)
  refine ⟨_, rfl, hth, fun p hp => ?_, ?_, oSetCells (sc_own _ _) 0 _⟩
  · subst hp
    have := run_loadVar_mid (P := Tryd.prog) _ _ _ T C.toList _ hrg hu hd (by rw [hcl, hC]; exact hi)
    rwa [Array.toArray_toList] at this
  · have := K.whole C.toList (by rw [hcl]; omega)
    rwa [Array.toArray_toList] at this
/-- What a row of words says behind a word. -/
def lineO (ws : List (List UInt8)) (word : List UInt8) (c : Nat) : Option (List Nat) := match ws with
  | [] => none
  | h :: t => if h = word ∧ t.length = c then numsO t else none
theorem lineO_eq (p word : List UInt8) (c : Nat) : numbersO p word c = lineO (cutL 32 p) word c := rfl
def boutW : List UInt8 := [98, 111, 117, 116]
def setC (ns : List Nat) : List Value := [.int .u32 (ns.getD 0 0 : Nat), .int .i64 (ns.getD 1 0 : Nat), .int .i64 (ns.getD 2 0 : Nat), .int .i64 0, .int .u32 0, .int .i64 (ns.getD 3 0 : Nat), .int .i64 (ns.getD 4 0 : Nat), .int .i64 (ns.getD 5 0 : Nat)]
def setO (ws : List (List UInt8)) : Option (List Nat) := lineO ws boutW 6
theorem setO_len {ws : List (List UInt8)} {ns : List Nat} (h : setO ws = some ns) : ns.length = 6 ∧ ∀ n ∈ ns, n ≤ 999999999 := by
  unfold setO lineO at h
  split at h
  · cases h
  · split at h
    · rename_i hc
      exact ⟨(numsO_len h).trans hc.2, numsO_le h⟩
    · cases h
theorem built_s0 : Tryd.prog.built 27 [] = some (setC []).toArray := by kernel_rfl
theorem built_cfgS (s d x : Int) : Tryd.prog.built 25 [(0, .int .u32 s), (1, .int .i64 d), (2, .int .i64 x)] = some #[.int .u32 s, .int .i64 d, .int .i64 x, .int .i64 0] := by kernel_rfl
theorem built_s1 (s d x p e v : Int) : Tryd.prog.built 27 [(0, .agg #[.int .u32 s, .int .i64 d, .int .i64 x, .int .i64 0]), (2, .int .i64 p), (3, .int .i64 e), (4, .int .i64 v)] = some #[.int .u32 s, .int .i64 d, .int .i64 x, .int .i64 0, .int .u32 0, .int .i64 p, .int .i64 e, .int .i64 v] := by kernel_rfl
theorem setInfo : (Tryd.prog.info? 27).map (·.size) = some 8 := by kernel_rfl
theorem set_put {W : World} {g : Nat} {Z C : Array Value} (K : Blk W g 27 Z) (hZ : Z.size = 8) (hC : C.size = 8) :
    ∃ wx, W.setCells g 0 C.toList = wx ∧ W.there g 0 C.size ∧ (∀ p : Addr, p = ⟨g, 0, none⟩ → (loadVar 27 p).run Tryd.prog wx = .ok (.agg C) wx) ∧ Blk wx g 27 C ∧ W.grownBy wx (some g) :=
  row_put Tryd.underlying27 rfl setInfo K hZ hC
theorem setC_size (ns : List Nat) : (setC ns).toArray.size = 8 := rfl
theorem setC_one (ns : List Nat) : (setC ns).toArray.all (·.oneCell') = true := by simp [setC, Value.oneCell']
set_option maxHeartbeats 8000000 in
theorem rsetup_any (s : ByteArray) (w : World) (hs : s.size ≤ 1000000) :
    Calls Tryd.prog 19 #[.string s] w fun e w' => e = .returned (.tuple #[.agg (setC ((setO (cutL 32 s.data.toList)).getD [])).toArray, .bool (setO (cutL 32 s.data.toList)).isSome]) ∧ Below w.heap.size w w' := by
  have HN := Lib.hid (fun V => rnumbers_any s boutW 6 V hs (by decide))
  have HO : Hid (numbersO s.data.toList boutW 6 = setO (cutL 32 s.data.toList)) := Lib.hid rfl
  go_enter Tryd.func19, Tryd.ntmps19
  go_upto_region 1 with fail
  refine named1 (F := fun W => Code.wp _ _ _ _ W) ?_
  intro w1 k0 hb1 hz1
  have K1 := Lib.hid k0
  have HB1 := Lib.hid hb1
  clear k0 hb1 hz1
  go_wp2_with fail
  go_at_call 38
  refine (HN.out w1).mono ?_
  rintro e w2 ⟨A2, n2, c2, b2, rfl, hb2, hno, hyes⟩
  rw [HO.out] at hno hyes
  have HB2 := Lib.hid (bTrans HB1.out hb2)
  have HK2 := Lib.hid (K1.out.on hb2)
  have hb1s := HB1.out.size
  cases hX : setO (cutL 32 s.data.toList) with
  | none =>
    obtain rfl := hno hX
    have HX := Lib.hid hX
    clear hno hyes hX HN HO hb2
    obtain ⟨wx, hwx, hth, hres, -, hgx⟩ := set_put (C := (setC []).toArray) HK2.out rfl rfl
    have HTH := Lib.hid hth
    have HRES := Lib.hid hres
    have HWX := Lib.hid hwx
    have HGX := Lib.hid hgx
    clear hwx hth hres hgx
    go_wp2_with (first
      | (refine wpList_built rfl 27 [] rfl (setC []).toArray [] rfl built_s0 ?_)
      | (refine wpList_store_mid rfl 27 (.tmp 2) (.tmp 13) rfl w.heap.size 0 (setC []).toArray rfl rfl HTH.out setInfo (setC_one []) ?_; rw [HWX.out]))
    exact bodyPost_ret (results_sc (a := 2) (t := 27) (x := 3) rfl rfl (HRES.out _ rfl)) rfl ⟨by rw [HX.out]; rfl, HB2.out.grown HGX.out HB2.out.size (fun k e => by cases e; exact Nat.le_refl _)⟩
  | some ns =>
    obtain ⟨rfl, ho⟩ := hyes ns hX
    obtain ⟨hl6, hle⟩ := setO_len hX
    have HX := Lib.hid hX
    clear hno hyes hX HN HO hb2
    obtain ⟨n0, n1, n2, n3, n4, n5, rfl⟩ : ∃ n0 n1 n2 n3 n4 n5, ns = [n0, n1, n2, n3, n4, n5] := (match ns, hl6 with | [n0, n1, n2, n3, n4, n5], _ => ⟨n0, n1, n2, n3, n4, n5, rfl⟩)
    have hn0 := hle n0 (by simp)
    have hnl := ho.len
    simp only [List.length_cons, List.length_nil, Nat.zero_add, Nat.reduceAdd] at hnl
    subst hnl
    obtain ⟨gn, rfl, -, hgn0, hgn⟩ := ho.formA (by simp)
    have m0 := ho.one (h := fun z : Nat => Value.int .i64 (z : Int)) (fun _ => rfl) (k := 0) (by simp)
    have m1 := ho.one (h := fun z : Nat => Value.int .i64 (z : Int)) (fun _ => rfl) (k := 1) (by simp)
    have m2 := ho.one (h := fun z : Nat => Value.int .i64 (z : Int)) (fun _ => rfl) (k := 2) (by simp)
    have m3 := ho.one (h := fun z : Nat => Value.int .i64 (z : Int)) (fun _ => rfl) (k := 3) (by simp)
    have m4 := ho.one (h := fun z : Nat => Value.int .i64 (z : Int)) (fun _ => rfl) (k := 4) (by simp)
    have m5 := ho.one (h := fun z : Nat => Value.int .i64 (z : Int)) (fun _ => rfl) (k := 5) (by simp)
    simp only [List.getElem_cons_zero, List.getElem_cons_succ] at m0 m1 m2 m3 m4 m5
    clear hle hl6 ho
    go_upto_region 4 with fail
    have hKp := Keeps.base w2
    refine wp_region_mixed [.pure, .pure, .held, .pure, .pure, .pure, .held, .pure, .pure, .held, .pure, .pure, .pure, .held, .pure, .pure, .held, .pure, .pure, .held, .pure, .tail, .pure] (fun _ => ⟨fun _ => True, fun _ _ => True⟩) (by kernel_rfl) (by kernel_rfl) ?_
    iterate 10 (first | (refine mix_pure rfl rfl rfl (fun K hK => ?_); go_big_quiet_op; refine hK _ ?_; clear hK K) | (refine mix_held rfl rfl rfl (by assumption) (fun K hK => ?_); go_big_quiet_op; refine hK _ ?_; clear hK K))
    refine mix_built rfl rfl 25 [(0, .tmp 17), (1, .tmp 20), (2, .tmp 23)] rfl _ _ rfl (built_cfgS (n0 : Nat) (n1 : Nat) (n2 : Nat)) ?_
    simp only [Act.put, List.setIfInBounds_toArray, List.set_cons_zero, List.set_cons_succ]
    iterate 9 (first | (refine mix_pure rfl rfl rfl (fun K hK => ?_); go_big_quiet_op; refine hK _ ?_; clear hK K) | (refine mix_held rfl rfl rfl (by assumption) (fun K hK => ?_); go_big_quiet_op; refine hK _ ?_; clear hK K))
    refine mix_built rfl rfl 27 [(0, .tmp 24), (2, .tmp 27), (3, .tmp 30), (4, .tmp 33)] rfl _ _ rfl (built_s1 (n0 : Nat) (n1 : Nat) (n2 : Nat) (n3 : Nat) (n4 : Nat) (n5 : Nat)) ?_
    simp only [Act.put, List.setIfInBounds_toArray, List.set_cons_zero, List.set_cons_succ]
    refine mix_store rfl rfl 27 (.tmp 2) (.tmp 34) rfl w.heap.size 0 (setC [n0, n1, n2, n3, n4, n5]).toArray rfl rfl (fun V hV => ?_) setInfo (setC_one _) ?_
    · exact Blk.there (HK2.out.on hV) (by show 0 + 8 ≤ 8; decide)
    simp only [Act.put, List.setIfInBounds_toArray, List.set_cons_zero, List.set_cons_succ]
    (refine mix_pure rfl rfl rfl (fun K hK => ?_); go_big_quiet_op; refine hK _ ?_; clear hK K)
    refine mix_nil ?_
    rintro V' ⟨V, hV, rfl⟩
    obtain ⟨wx, hwx, -, hres, -, hgx⟩ := set_put (C := (setC [n0, n1, n2, n3, n4, n5]).toArray) (HK2.out.on hV) rfl rfl
    have HB3 := Lib.hid (bTrans HB2.out hV)
    have HRES := Lib.hid hres
    have HGX := Lib.hid hgx
    rw [hwx]
    clear hwx hres hgx hV
    go_wp2
    exact bodyPost_ret (results_sc (a := 2) (t := 27) (x := 3) rfl rfl (HRES.out _ rfl)) rfl ⟨by rw [HX.out]; rfl, HB3.out.grown HGX.out HB3.out.size (fun k e => by cases e; exact Nat.le_refl _)⟩
set_option maxHeartbeats 8000000 in
theorem setup_any (A : Option Addr) (c : Nat) (h0 : List UInt8) (t : List (List UInt8)) (w : World) (hn : t.length + 1 ≤ 1000000) (hc : t.length + 1 ≤ c) (hr : Rd w w.heap.size A ((h0 :: t).flatMap sF)) (hl : ∀ l ∈ t, l.length ≤ 1000000) (h : ScW w w.heap.size) :
    Calls Tryd.prog 16 #[.slice A (t.length + 1) c] w fun e w' => e = .returned (.tuple #[.agg (setC ((setO (h0 :: t)).getD [])).toArray, .bool (setO (h0 :: t)).isSome]) ∧ Below w.heap.size w w' := by
  obtain ⟨b, off, hA1, hB, hcc⟩ := hr.at_ sF_length (by omega) (k := 0) (by simp)
  subst hA1
  have x0 := hcc 0 _ rfl
  rw [Nat.add_zero] at x0
  simp only [List.getElem_cons_zero] at x0
  have HR := Lib.hid hr
  have HW := Lib.hid h
  have HL := Lib.hid hl
  obtain ⟨m, hm⟩ : ∃ m, t.length = m := ⟨_, rfl⟩
  have HM := Lib.hid hm
  rw [hm] at hn hc ⊢
  clear hcc hr h hl hm
  go_enter Tryd.func16, Tryd.ntmps16
  go_upto_region 1 with fail
  refine named1 (F := fun W => Code.wp _ _ _ _ W) ?_
  intro w1 k0 hb1 hz1
  have K1 := Lib.hid k0
  have HB1 := Lib.hid hb1
  have y0 := (hb1.cell (p := ⟨b, off, none⟩) hB).trans x0
  have hBw : b < w1.heap.size := Nat.lt_of_lt_of_le hB hb1.size
  have HR1 := Lib.hid ((HR.out.below hb1 (Nat.le_refl _)).more hb1.size)
  have HW1 := Lib.hid (HW.out.on hb1)
  clear k0 hb1 hz1 x0
  by_cases hw : h0 = boutW
  case neg =>
    have gw : (h0 == [98, 111, 117, 116]) = false := by simpa [boutW] using hw
    have HX : Hid (setO (h0 :: t) = none) := Lib.hid (by unfold setO lineO; simp only; rw [if_neg (fun e => hw e.1)])
    clear hw
    obtain ⟨wx, hwx, hth, hres, -, hgx⟩ := set_put (C := (setC []).toArray) K1.out rfl rfl
    have HTH := Lib.hid hth
    have HRES := Lib.hid hres
    have HWX := Lib.hid hwx
    have HGX := Lib.hid hgx
    clear hwx hth hres hgx
    go_wp2_with (first
      | (refine wpList_built rfl 27 [] rfl (setC []).toArray [] rfl built_s0 ?_)
      | (refine wpList_store_mid rfl 27 (.tmp 2) (.tmp 10) rfl w.heap.size 0 (setC []).toArray rfl rfl HTH.out setInfo (setC_one []) ?_; rw [HWX.out]))
    exact bodyPost_ret (results_sc (a := 2) (t := 27) (x := 3) rfl rfl (HRES.out _ rfl)) rfl ⟨by rw [HX.out]; rfl, (HB1.out).grown HGX.out (HB1.out).size (fun k e => by cases e; exact Nat.le_refl _)⟩
  case pos =>
    have gw : (h0 == [98, 111, 117, 116]) = true := by simpa [boutW] using hw
    have HO : Hid (setO (h0 :: t) = if m = 6 then numsO t else none) := Lib.hid (by unfold setO lineO; simp only; rw [HM.out]; simp [hw])
    clear hw
    by_cases hc1 : c = 1
    · subst hc1
      obtain rfl : m = 0 := by omega
      have htn : t = [] := List.eq_nil_of_length_eq_zero HM.out
      subst htn
      have hN := numbers_any (some ⟨b, off, none⟩) 0 [] 6 w1 (by decide) (Rd.nil _ _ _) (by simp) HW1.out
      have HN := Lib.hid hN
      have HX : Hid (setO [h0] = none) := Lib.hid (by rw [HO.out]; simp)
      clear hN
      go_wp2_with fail
      go_at_call 36
      refine HN.out.mono ?_
      rintro e w2 ⟨A2, n2, c2, b2, rfl, hb2, -, hyes⟩
      have HB2 := Lib.hid (bTrans HB1.out hb2)
      have HK2 := Lib.hid (K1.out.on hb2)
      have hb1s := HB1.out.size
      obtain ⟨rfl, -⟩ := hyes [] rfl
      have gm : decide (([] : List (List UInt8)).length = 6) = false := rfl
      rw [gm]
      clear hyes HN HO hb2 gm
      obtain ⟨wx, hwx, hth, hres, -, hgx⟩ := set_put (C := (setC []).toArray) HK2.out rfl rfl
      have HTH := Lib.hid hth
      have HRES := Lib.hid hres
      have HWX := Lib.hid hwx
      have HGX := Lib.hid hgx
      clear hwx hth hres hgx
      go_wp2_with (first
        | (refine wpList_built rfl 27 [] rfl (setC []).toArray [] rfl built_s0 ?_)
        | (refine wpList_store_mid rfl 27 (.tmp 2) (.tmp 19) rfl w.heap.size 0 (setC []).toArray rfl rfl HTH.out setInfo (setC_one []) ?_; rw [HWX.out]))
      exact bodyPost_ret (results_sc (a := 2) (t := 27) (x := 3) rfl rfl (HRES.out _ rfl)) rfl ⟨by rw [HX.out]; rfl, (HB2.out).grown HGX.out (HB2.out).size (fun k e => by cases e; exact Nat.le_refl _)⟩
    have ht : Rd w1 w1.heap.size (some ⟨b, off + 1, none⟩) (t.flatMap sF) := by
      have := HR1.out.sub sF_length (k := 1) (i := t.length + 1) (by omega) (by simp)
      simpa using this
    have hN := numbers_any _ (c - 1) t 6 w1 (by rw [HM.out]; omega) ht HL.out HW1.out
    rw [HM.out] at hN
    have HN := Lib.hid hN
    clear ht hN
    go_wp2_with fail
    go_at_call 36
    refine HN.out.mono ?_
    rintro e w2 ⟨A2, n2, c2, b2, rfl, hb2, hno, hyes⟩
    have HB2 := Lib.hid (bTrans HB1.out hb2)
    have HK2 := Lib.hid (K1.out.on hb2)
    have hb1s := HB1.out.size
    cases hX : numsO t with
    | none =>
      obtain rfl := hno hX
      have HX : Hid (setO (h0 :: t) = none) := Lib.hid (by rw [HO.out, hX]; simp)
      clear hno hyes hX HN HO hb2
      obtain ⟨wx, hwx, hth, hres, -, hgx⟩ := set_put (C := (setC []).toArray) HK2.out rfl rfl
      have HTH := Lib.hid hth
      have HRES := Lib.hid hres
      have HWX := Lib.hid hwx
      have HGX := Lib.hid hgx
      clear hwx hth hres hgx
      go_wp2_with (first
        | (refine wpList_built rfl 27 [] rfl (setC []).toArray [] rfl built_s0 ?_)
        | (refine wpList_store_mid rfl 27 (.tmp 2) (.tmp 19) rfl w.heap.size 0 (setC []).toArray rfl rfl HTH.out setInfo (setC_one []) ?_; rw [HWX.out]))
      exact bodyPost_ret (results_sc (a := 2) (t := 27) (x := 3) rfl rfl (HRES.out _ rfl)) rfl ⟨by rw [HX.out]; rfl, (HB2.out).grown HGX.out (HB2.out).size (fun k e => by cases e; exact Nat.le_refl _)⟩
    | some ns =>
      obtain ⟨rfl, ho⟩ := hyes ns hX
      by_cases hm6 : m = 6
      · have HX : Hid (setO (h0 :: t) = some ns) := Lib.hid (by rw [HO.out, hX, if_pos hm6])
        obtain ⟨hl6, hle⟩ := setO_len HX.out
        have gm : decide (m = 6) = true := decide_eq_true hm6
        rw [gm]
        clear hno hyes hX HN HO hb2 gm
        subst hm6
        obtain ⟨n0, n1, n2, n3, n4, n5, rfl⟩ : ∃ n0 n1 n2 n3 n4 n5, ns = [n0, n1, n2, n3, n4, n5] := (match ns, hl6 with | [n0, n1, n2, n3, n4, n5], _ => ⟨n0, n1, n2, n3, n4, n5, rfl⟩)
        have hn0 := hle n0 (by simp)
        have hnl := ho.len
        simp only [List.length_cons, List.length_nil, Nat.zero_add, Nat.reduceAdd] at hnl
        subst hnl
        obtain ⟨gn, rfl, -, hgn0, hgn⟩ := ho.formA (by simp)
        have m0 := ho.one (h := fun z : Nat => Value.int .i64 (z : Int)) (fun _ => rfl) (k := 0) (by simp)
        have m1 := ho.one (h := fun z : Nat => Value.int .i64 (z : Int)) (fun _ => rfl) (k := 1) (by simp)
        have m2 := ho.one (h := fun z : Nat => Value.int .i64 (z : Int)) (fun _ => rfl) (k := 2) (by simp)
        have m3 := ho.one (h := fun z : Nat => Value.int .i64 (z : Int)) (fun _ => rfl) (k := 3) (by simp)
        have m4 := ho.one (h := fun z : Nat => Value.int .i64 (z : Int)) (fun _ => rfl) (k := 4) (by simp)
        have m5 := ho.one (h := fun z : Nat => Value.int .i64 (z : Int)) (fun _ => rfl) (k := 5) (by simp)
        simp only [List.getElem_cons_zero, List.getElem_cons_succ] at m0 m1 m2 m3 m4 m5
        clear hle hl6 ho
        go_upto_region 6 with fail
        have hKp := Keeps.base w2
        refine wp_region_mixed [.pure, .pure, .held, .pure, .pure, .pure, .held, .pure, .pure, .held, .pure, .pure, .pure, .held, .pure, .pure, .held, .pure, .pure, .held, .pure, .tail, .pure] (fun _ => ⟨fun _ => True, fun _ _ => True⟩) (by kernel_rfl) (by kernel_rfl) ?_
        iterate 10 (first | (refine mix_pure rfl rfl rfl (fun K hK => ?_); go_big_quiet_op; refine hK _ ?_; clear hK K) | (refine mix_held rfl rfl rfl (by assumption) (fun K hK => ?_); go_big_quiet_op; refine hK _ ?_; clear hK K))
        refine mix_built rfl rfl 25 [(0, .tmp 23), (1, .tmp 26), (2, .tmp 29)] rfl _ _ rfl (built_cfgS (n0 : Nat) (n1 : Nat) (n2 : Nat)) ?_
        simp only [Act.put, List.setIfInBounds_toArray, List.set_cons_zero, List.set_cons_succ]
        iterate 9 (first | (refine mix_pure rfl rfl rfl (fun K hK => ?_); go_big_quiet_op; refine hK _ ?_; clear hK K) | (refine mix_held rfl rfl rfl (by assumption) (fun K hK => ?_); go_big_quiet_op; refine hK _ ?_; clear hK K))
        refine mix_built rfl rfl 27 [(0, .tmp 30), (2, .tmp 33), (3, .tmp 36), (4, .tmp 39)] rfl _ _ rfl (built_s1 (n0 : Nat) (n1 : Nat) (n2 : Nat) (n3 : Nat) (n4 : Nat) (n5 : Nat)) ?_
        simp only [Act.put, List.setIfInBounds_toArray, List.set_cons_zero, List.set_cons_succ]
        refine mix_store rfl rfl 27 (.tmp 2) (.tmp 40) rfl w.heap.size 0 (setC [n0, n1, n2, n3, n4, n5]).toArray rfl rfl (fun V hV => ?_) setInfo (setC_one _) ?_
        · exact Blk.there (HK2.out.on hV) (by show 0 + 8 ≤ 8; decide)
        simp only [Act.put, List.setIfInBounds_toArray, List.set_cons_zero, List.set_cons_succ]
        (refine mix_pure rfl rfl rfl (fun K hK => ?_); go_big_quiet_op; refine hK _ ?_; clear hK K)
        refine mix_nil ?_
        rintro V' ⟨V, hV, rfl⟩
        obtain ⟨wx, hwx, -, hres, -, hgx⟩ := set_put (C := (setC [n0, n1, n2, n3, n4, n5]).toArray) (HK2.out.on hV) rfl rfl
        have HB3 := Lib.hid (bTrans HB2.out hV)
        have HRES := Lib.hid hres
        have HGX := Lib.hid hgx
        rw [hwx]
        clear hwx hres hgx hV
        go_wp2
        exact bodyPost_ret (results_sc (a := 2) (t := 27) (x := 3) rfl rfl (HRES.out _ rfl)) rfl ⟨by rw [HX.out]; rfl, HB3.out.grown HGX.out HB3.out.size (fun k e => by cases e; exact Nat.le_refl _)⟩
      · have HX : Hid (setO (h0 :: t) = none) := Lib.hid (by rw [HO.out, if_neg hm6])
        have gm : decide (m = 6) = false := decide_eq_false hm6
        rw [gm]
        clear hno hyes hX HN HO hb2 hm6 gm
        obtain ⟨wx, hwx, hth, hres, -, hgx⟩ := set_put (C := (setC []).toArray) HK2.out rfl rfl
        have HTH := Lib.hid hth
        have HRES := Lib.hid hres
        have HWX := Lib.hid hwx
        have HGX := Lib.hid hgx
        clear hwx hth hres hgx
        go_wp2_with (first
          | (refine wpList_built rfl 27 [] rfl (setC []).toArray [] rfl built_s0 ?_)
          | (refine wpList_store_mid rfl 27 (.tmp 2) (.tmp 19) rfl w.heap.size 0 (setC []).toArray rfl rfl HTH.out setInfo (setC_one []) ?_; rw [HWX.out]))
        exact bodyPost_ret (results_sc (a := 2) (t := 27) (x := 3) rfl rfl (HRES.out _ rfl)) rfl ⟨by rw [HX.out]; rfl, (HB2.out).grown HGX.out (HB2.out).size (fun k e => by cases e; exact Nat.le_refl _)⟩
end Go.Proofs.YtlonefjbcooaaaaDoor
