/-
  The walks beneath: TrH, Pl, MildL, TapA.
-/
import Derived.Deep.MidRow
import Derived.Test.YtibeihcpehikoaaGreatNr41
import Derived.Test.YtibeihcpehikoaaGreatNr24
import Derived.Test.YtibeihcpehikoaaGreatNr5
import Derived.Test.YtibeihcpehikoaaGreatNr32
import Derived.Test.YtibeihcpehikoaaGreatNr22
namespace Go.Proofs.YtibeihcpehikoaaGreat
section
open Go.RowKit
set_option maxRecDepth 100000
set_option linter.unusedSimpArgs false
section
variable {P : Program} {fn : Func} {tmps : Array Value} {w : World} {a x : Tmp} {t : TypeId} {p : Addr} {v : Value}
theorem results_c1 (hr : fn.results = #[.cell a t, .tmp x]) (ha : tmps.getD a undef = .pointer (some p)) (hl : (loadVar t p).run P w = .ok v w) :
    (results fn tmps).run P w = .ok (.tuple #[v, tmps.getD x undef]) w := by
  unfold results
  rw [hr]
  simp only [List.mapM_toArray, List.mapM_cons, List.mapM_nil, ha, asAddr]
  simp [hl]
end
end
section
open Go.RowKit Go.WideShapes Go.ChangeShapes
set_option maxRecDepth 100000
set_option linter.unusedSimpArgs false
set_option maxHeartbeats 2000000 in
theorem window_any (s d x y : Int) (w : World) : Calls Tryz.prog 83 #[.agg #[.int .u32 s, .int .i64 d, .int .i64 x, .int .i64 y]] w fun e w' => e = .returned (.bool (decide (1 ≤ x ∧ x ≤ 16))) ∧ Below w.heap.size w w' := by
  by_cases h1 : 1 ≤ x
  · by_cases h2 : x ≤ 16
    · have HD := Lib.hid (show decide (1 ≤ x ∧ x ≤ 16) = true from decide_eq_true ⟨h1, h2⟩)
      go_enter Tryz.func83, Tryz.ntmps83
      go_wp2
      go_ret
      exact ⟨ret_bool (by first | exact (decide_eq_true ⟨h1, h2⟩).symm | simp [h1, h2]), (by repeat (first | exact Below.refl _ _ | (with_reducible assumption) | apply bAlloc | apply below_drewN | apply Below.drew))⟩
    · have HD := Lib.hid (show decide (1 ≤ x ∧ x ≤ 16) = false from decide_eq_false (fun h => h2 h.2))
      go_enter Tryz.func83, Tryz.ntmps83
      go_wp2
      go_ret
      exact ⟨ret_bool (by first | exact (decide_eq_false h2).symm | (simp [h1, h2])), (by repeat (first | exact Below.refl _ _ | (with_reducible assumption) | apply bAlloc | apply below_drewN | apply Below.drew))⟩
  · have HD := Lib.hid (show decide (1 ≤ x ∧ x ≤ 16) = false from decide_eq_false (fun h => h1 h.1))
    go_enter Tryz.func83, Tryz.ntmps83
    go_wp2
    go_ret
    exact ⟨ret_bool (by rw [show decide (1 ≤ x) = false from decide_eq_false (by omega), Bool.false_and]), (by repeat (first | exact Below.refl _ _ | (with_reducible assumption) | apply bAlloc | apply below_drewN | apply Below.drew))⟩
set_option maxHeartbeats 4000000 in
theorem at0_good (s d x y : Int) (A B : Option Addr) (c c' : Nat) (a b : List Nat) (w : World) (hok : ofB d a b = false) (ha : a.length ≤ 20000) (hb : b.length ≤ 20000) (hl : lenB d a b = false) (ra : Rd w w.heap.size A (a.flatMap btC)) (rb : Rd w w.heap.size B (b.flatMap btC)) :
    Calls Tryz.prog 17 #[.agg #[.int .u32 s, .int .i64 d, .int .i64 x, .int .i64 y], .slice A a.length c, .slice B b.length c', .int .i64 0] w fun e w' => e = .returned (.tuple #[.agg (stCells (beginS s)).toArray, .int .i64 0]) ∧ Below w.heap.size w w' := by
  have HOF := Lib.hid (fun (V : World) (hV : Below w.heap.size w V) => of_good20 s d x y A B c c' a b V ha hb hl ((ra.below hV (Nat.le_refl _)).more hV.size) ((rb.below hV (Nat.le_refl _)).more hV.size) hok)
  unfold ofB badB at hok
  simp only [Bool.or_eq_false_iff, decide_eq_false_iff_not, List.any_eq_false, decide_eq_true_eq] at hok
  obtain ⟨⟨⟨h1, h2⟩, h3⟩, h4⟩ := hok
  have hd : 0 ≤ d ∧ d ≤ 8 := by omega
  have HKN := Lib.hid (fun V => known_any s d A B a.length c b.length c' V hd (by omega) (by omega))
  have hgt : decide (d + ((min a.length b.length : Nat) : Int) < 0) = false := decide_eq_false (by omega)
  have hbeg := fun V => gBegin_any s V
  obtain ⟨C0, hC0⟩ : ∃ C0 : Array Value, (stCells (beginS s)).toArray = C0 := ⟨_, rfl⟩
  rw [hC0] at hbeg ⊢
  have hsz : C0.size = 60 := by rw [← hC0, List.size_toArray, stCells_length]
  have H1C : Hid (C0.all (·.oneCell') = true) := Lib.hid (by rw [← hC0]; exact all_oneCell_toArray (int_one _))
  have HSZ : Hid ((Tryz.prog.info? 41).map (·.size) = some C0.size) := Lib.hid (by rw [hsz]; kernel_rfl)
  have HSI := Lib.hid hsz
  have HBEG := Lib.hid hbeg
  obtain ⟨N, hN⟩ : ∃ N, d + ((min a.length b.length : Nat) : Int) = N := ⟨_, rfl⟩
  rw [hN] at HKN hgt
  clear ra rb h1 h2 h3 h4 hbeg hsz hC0 hN
  refine (callsIn_wide (n := 3)).1 ?_
  refine callsIn_of_wp_marks Tryz.func17 rfl trivial ?_ rfl
  simp only [Tryz.ntmps17, List.size_toArray, List.length_cons, List.length_nil, Nat.reduceAdd, Nat.reduceSub, Array.replicate_succ, Array.replicate_zero, List.push_toArray, List.append_toArray, List.nil_append, List.cons_append]
  refine wpIn_wide.2 ?_
  go_upto_region 1 with fail
  refine named3 (F := fun W => Code.wp _ _ _ _ W) ?_
  intro w1 k0 k1 k2 hb1 hz1
  have r0a := (k0).cell 0; have r0b := (k0).cell 1; have r0c := (k0).cell 2; have r0d := (k0).cell 3; have r0e := (k0).frozen 0; have r0f := (k0).frozen 1; have r0g := (k0).frozen 2; have r0h := (k0).frozen 3; have r0l := (k0).lt; simp only [List.getElem?_toArray, List.getElem?_cons_zero, List.getElem?_cons_succ] at r0a r0b r0c r0d
  have K1 := Lib.hid k1
  have HZ2 : Hid (∃ Z : Array Value, Z.size = 60 ∧ Blk w1 (w.heap.size + 1 + 1) 41 Z) := Lib.hid ⟨_, rfl, k2⟩
  clear k0 k1 k2
  go_upto_region 2 with (first
    | (go_at_call 68; refine (HOF.out _ hb1).mono ?_; rintro e w2 ⟨rfl, hb2⟩; have HB2 := Lib.hid hb2; clear hb2))
  refine named1 (F := fun W => Code.wp _ _ _ _ W) ?_
  intro w3 k3 hb3 hz3
  have m0a := (k3).cell 0; have m0b := (k3).cell 1; have m0c := (k3).cell 2; have m0d := (k3).cell 3; have m0e := (k3).frozen 0; have m0f := (k3).frozen 1; have m0g := (k3).frozen 2; have m0h := (k3).frozen 3; have m0l := (k3).lt; simp only [List.getElem?_toArray, List.getElem?_cons_zero, List.getElem?_cons_succ] at m0a m0b m0c m0d
  have hk1 := (K1.out.on HB2.out).on hb3
  have t7c := hk1.cell 0
  have t7l := hk1.lt
  simp only [List.getElem?_toArray, List.getElem?_cons_zero] at t7c
  have HB3 := Lib.hid (bTrans (bTrans hb1 HB2.out) hb3)
  have HZ3 : Hid (∃ Z : Array Value, Z.size = 60 ∧ Blk w3 (w.heap.size + 1 + 1) 41 Z) := by
    obtain ⟨Z, h1, h2⟩ := HZ2.out
    exact Lib.hid ⟨Z, h1, (h2.on HB2.out).on hb3⟩
  have K13 := Lib.hid hk1
  clear r0a r0b r0c r0d r0e r0f r0g r0h r0l hb1 hz1 hb3 hk1 K1 HZ2 HOF
  obtain ⟨b3, hb3⟩ : ∃ b3, w2.heap.size = b3 := ⟨_, rfl⟩
  rw [hb3] at k3 m0a m0b m0c m0d m0e m0f m0g m0h m0l hz3 ⊢
  have K3 := Lib.hid k3
  clear hb3 k3 HB2 hz3
  go_upto_region 4 with fail
  refine wp_region_mild (by kernel_rfl) (by kernel_rfl) ?_
  repeat (go_big_quiet_step (first | (go_at_call 70; exact mild_of (HKN.out _)) | fail))
  refine wpQuiet_nil ?_
  intro w5 hw'
  obtain ⟨⟨wq, k5⟩, hw''⟩ := hw'
  subst hw''
  have hk1 := K13.out.on k5
  have u7c := hk1.cell 0
  have u7l := hk1.lt
  simp only [List.getElem?_toArray, List.getElem?_cons_zero] at u7c
  have hk3 := K3.out.on k5
  have p0a := (hk3).cell 0; have p0b := (hk3).cell 1; have p0c := (hk3).cell 2; have p0d := (hk3).cell 3; have p0e := (hk3).frozen 0; have p0f := (hk3).frozen 1; have p0g := (hk3).frozen 2; have p0h := (hk3).frozen 3; have p0l := (hk3).lt; simp only [List.getElem?_toArray, List.getElem?_cons_zero, List.getElem?_cons_succ] at p0a p0b p0c p0d
  have HB5 := Lib.hid (bTrans HB3.out k5)
  have HZ5 : Hid (∃ Z : Array Value, Z.size = 60 ∧ Blk w5 (w.heap.size + 1 + 1) 41 Z) := by
    obtain ⟨Z, h1, h2⟩ := HZ3.out
    exact Lib.hid ⟨Z, h1, h2.on k5⟩
  have K15 := Lib.hid hk1
  clear m0a m0b m0c m0d m0e m0f m0g m0h m0l t7c t7l HB3 HZ3 K13 K3 hk1 hk3 k5 HKN hgt
  go_upto_region 7 with (first
    | (go_at_call 53; refine (HBEG.out _).mono ?_; rintro e w6 ⟨rfl, hb6⟩; have HB6 := Lib.hid hb6; clear hb6)
    | (refine wpList_store_mid rfl 41 (.tmp 12) (.tmp 39) rfl w6.heap.size 0 C0 rfl rfl (there_new _ _ _ (by rw [HSI.out]; rfl)) HSZ.out H1C.out ?_))
  refine named_put (F := fun W => Code.wp _ _ _ _ W) (by rw [Array.length_toList, HSI.out]; rfl) ?_
  intro w7 hk7 hb7 hz7
  have HRG7 : Hid (w7.rangeAt w6.heap.size 0 C0.toList) := Lib.hid (Blk.range hk7)
  have hb57 := bTrans HB6.out hb7
  have hk17 := K15.out.on hb57
  have v7c := hk17.cell 0
  have v7l := hk17.lt
  simp only [List.getElem?_toArray, List.getElem?_cons_zero] at v7c
  have HB7 := Lib.hid (bTrans HB5.out hb57)
  obtain ⟨Z, hZ, hBZ⟩ := HZ5.out
  have hbz := hBZ.on hb57
  have HTH : Hid (w7.there (w.heap.size + 1 + 1) 0 C0.size) := Lib.hid (by rw [HSI.out]; exact Blk.there hbz (by rw [hZ]; decide))
  have hcl : C0.toList.length = C0.size := by simp
  have hrg := World.rangeAt_setCells_same w7 (w.heap.size + 1 + 1) 0 C0.toList (by rw [hcl]; exact HTH.out)
  have HRES := Lib.hid (run_loadVar_mid (P := Tryz.prog) _ _ _ 41 C0.toList _ hrg Tryz.underlying41 rfl (by rw [hcl]; exact HSZ.out))
  have HBX := Lib.hid (bSetCells HB7.out (show w.heap.size ≤ w.heap.size + 1 + 1 by omega) 0 C0.toList)
  have hl7 := hk7.lt
  obtain ⟨wx, hwx⟩ : ∃ wx, w7.setCells (w.heap.size + 1 + 1) 0 C0.toList = wx := ⟨_, rfl⟩
  rw [hwx] at HRES HBX
  have HWX := Lib.hid hwx
  have HC2 : Hid (C0.toList.toArray = C0) := Lib.hid (by simp)
  clear hk7 hb7 hz7 hb57 hk17 hbz hZ hBZ hrg hwx hcl HB6 HZ5 K15 HB5 HBEG
  go_wp2_with (first
    | (refine wpList_load_mid rfl 41 (.tmp 12) rfl w6.heap.size 0 rfl C0.toList _ HRG7.out Tryz.underlying41 rfl (by rw [Array.length_toList]; exact HSZ.out) ?_; rw [HC2.out])
    | (refine wpList_store_mid rfl 41 (.tmp 8) (.tmp 42) rfl (w.heap.size + 1 + 1) 0 C0 rfl rfl HTH.out HSZ.out H1C.out ?_; rw [HWX.out]))
  have hres := HRES.out
  exact ⟨_, results_c1 (a := 8) (t := 41) (x := 9) rfl rfl hres, rfl, HBX.out⟩
set_option maxHeartbeats 4000000 in
theorem at0_err (s d x y f er : Int) (her : (er == 0) = false) (A B : Option Addr) (c c' : Nat) (a b : List Nat) (w : World) (hof : ∀ (V : World), Below w.heap.size w V → Calls Tryz.prog 68 #[.agg #[.int .u32 s, .int .i64 d, .int .i64 x, .int .i64 y], .slice A a.length c, .slice B b.length c'] V fun e w' => e = .returned (.tuple #[.agg #[.int .u32 0, .int .i64 0, .slice none 0 0, .slice none 0 0], .int .i64 er]) ∧ Below V.heap.size V w') :
    Calls Tryz.prog 17 #[.agg #[.int .u32 s, .int .i64 d, .int .i64 x, .int .i64 y], .slice A a.length c, .slice B b.length c', .int .i64 f] w fun e w' => e = .returned (.tuple #[.agg (stCells zeroT).toArray, .int .i64 er]) ∧ Below w.heap.size w w' := by
  have HOF := Lib.hid hof
  obtain ⟨CZ, hcz⟩ : ∃ CZ : Array Value, (stCells zeroT).toArray = CZ := ⟨_, rfl⟩
  have hbz := built_zero
  rw [hcz] at hbz ⊢
  have HBT := Lib.hid hbz
  have hsz : CZ.size = 60 := by rw [← hcz, List.size_toArray, stCells_length]
  have H1C : Hid (CZ.all (·.oneCell') = true) := Lib.hid (by rw [← hcz]; exact all_oneCell_toArray (int_one _))
  have HSZ : Hid ((Tryz.prog.info? 41).map (·.size) = some CZ.size) := Lib.hid (by rw [hsz]; kernel_rfl)
  have HSI := Lib.hid hsz
  have hne : (er != 0) = true := by simp [bne, her]
  clear hbz hsz hcz hof
  refine (callsIn_wide (n := 3)).1 ?_
  refine callsIn_of_wp_marks Tryz.func17 rfl trivial ?_ rfl
  simp only [Tryz.ntmps17, List.size_toArray, List.length_cons, List.length_nil, Nat.reduceAdd, Nat.reduceSub, Array.replicate_succ, Array.replicate_zero, List.push_toArray, List.append_toArray, List.nil_append, List.cons_append]
  refine wpIn_wide.2 ?_
  go_upto_region 1 with fail
  refine named3 (F := fun W => Code.wp _ _ _ _ W) ?_
  intro w1 k0 k1 k2 hb1 hz1
  have r0a := (k0).cell 0; have r0b := (k0).cell 1; have r0c := (k0).cell 2; have r0d := (k0).cell 3; have r0e := (k0).frozen 0; have r0f := (k0).frozen 1; have r0g := (k0).frozen 2; have r0h := (k0).frozen 3; have r0l := (k0).lt; simp only [List.getElem?_toArray, List.getElem?_cons_zero, List.getElem?_cons_succ] at r0a r0b r0c r0d
  have HZ2 : Hid (∃ Z : Array Value, Z.size = 60 ∧ Blk w1 (w.heap.size + 1 + 1) 41 Z) := Lib.hid ⟨_, rfl, k2⟩
  clear k0 k1 k2
  go_upto_region 2 with (first
    | (go_at_call 68; refine (HOF.out _ hb1).mono ?_; rintro e w2 ⟨rfl, hb2⟩; have HB2 := Lib.hid hb2; clear hb2))
  refine named1 (F := fun W => Code.wp _ _ _ _ W) ?_
  intro w3 k3 hb3 hz3
  have HB3 := Lib.hid (bTrans (bTrans hb1 HB2.out) hb3)
  obtain ⟨Z, hZ, hBZ⟩ := HZ2.out
  have hbz := (hBZ.on HB2.out).on hb3
  have HTH : Hid (w3.there (w.heap.size + 1 + 1) 0 CZ.size) := Lib.hid (by rw [HSI.out]; exact Blk.there hbz (by rw [hZ]; decide))
  have hcl : CZ.toList.length = CZ.size := by simp
  have hrg := World.rangeAt_setCells_same w3 (w.heap.size + 1 + 1) 0 CZ.toList (by rw [hcl]; exact HTH.out)
  have HRES := Lib.hid (run_loadVar_mid (P := Tryz.prog) _ _ _ 41 CZ.toList _ hrg Tryz.underlying41 rfl (by rw [hcl]; exact HSZ.out))
  have HBX := Lib.hid (bSetCells HB3.out (show w.heap.size ≤ w.heap.size + 1 + 1 by omega) 0 CZ.toList)
  obtain ⟨wx, hwx⟩ : ∃ wx, w3.setCells (w.heap.size + 1 + 1) 0 CZ.toList = wx := ⟨_, rfl⟩
  rw [hwx] at HRES HBX
  have HWX := Lib.hid hwx
  clear r0a r0b r0c r0d r0e r0f r0g r0h r0l hb1 hz1 hb3 HZ2 HOF HB2 k3 hbz hZ hBZ hrg hwx hcl
  go_wp2_with (first
    | (refine wpList_built rfl 41 [] rfl CZ [] rfl HBT.out ?_)
    | (refine wpList_store_mid rfl 41 (.tmp 8) (.tmp 25) rfl (w.heap.size + 1 + 1) 0 CZ rfl rfl HTH.out HSZ.out H1C.out ?_; rw [HWX.out]))
  have hres := HRES.out
  exact ⟨_, results_c1 (a := 8) (t := 41) (x := 9) rfl rfl hres, rfl, HBX.out⟩
theorem at0_bad (s d x y f : Int) (A B : Option Addr) (c c' : Nat) (a b : List Nat) (w : World) (hok : ofB d a b = true) (ha : a.length ≤ 20000) (hb : b.length ≤ 20000) (ra : Rd w w.heap.size A (a.flatMap btC)) (rb : Rd w w.heap.size B (b.flatMap btC)) :
    Calls Tryz.prog 17 #[.agg #[.int .u32 s, .int .i64 d, .int .i64 x, .int .i64 y], .slice A a.length c, .slice B b.length c', .int .i64 f] w fun e w' => e = .returned (.tuple #[.agg (stCells zeroT).toArray, .int .i64 1]) ∧ Below w.heap.size w w' :=
  at0_err s d x y f 1 rfl A B c c' a b w (fun V hV => of_bad20 s d x y A B c c' a b V ha hb ((ra.below hV (Nat.le_refl _)).more hV.size) ((rb.below hV (Nat.le_refl _)).more hV.size) hok)
theorem at0_long (s d x y f : Int) (A B : Option Addr) (c c' : Nat) (a b : List Nat) (w : World) (hok : ofB d a b = false) (hl : lenB d a b = true) (ha : a.length ≤ 20000) (hb : b.length ≤ 20000) (ra : Rd w w.heap.size A (a.flatMap btC)) (rb : Rd w w.heap.size B (b.flatMap btC)) :
    Calls Tryz.prog 17 #[.agg #[.int .u32 s, .int .i64 d, .int .i64 x, .int .i64 y], .slice A a.length c, .slice B b.length c', .int .i64 f] w fun e w' => e = .returned (.tuple #[.agg (stCells zeroT).toArray, .int .i64 5]) ∧ Below w.heap.size w w' :=
  at0_err s d x y f 5 rfl A B c c' a b w (fun V hV => of_long s d x y A B c c' a b V ha hb hl ((ra.below hV (Nat.le_refl _)).more hV.size) ((rb.below hV (Nat.le_refl _)).more hV.size) hok)
/-- Of's error. -/
def ofE (d : Int) (a b : List Nat) : Int := if ofB d a b = true then 1 else if lenB d a b = true then 5 else 0
theorem at0_any (s d x y : Int) (A B : Option Addr) (c c' : Nat) (a b : List Nat) (w : World) (ha : a.length ≤ 20000) (hb : b.length ≤ 20000) (ra : Rd w w.heap.size A (a.flatMap btC)) (rb : Rd w w.heap.size B (b.flatMap btC)) :
    Calls Tryz.prog 17 #[.agg #[.int .u32 s, .int .i64 d, .int .i64 x, .int .i64 y], .slice A a.length c, .slice B b.length c', .int .i64 0] w fun e w' => ∃ C0 : Array Value, C0.size = 60 ∧ C0.all (·.oneCell') = true ∧ e = .returned (.tuple #[.agg C0, .int .i64 (ofE d a b)]) ∧ Below w.heap.size w w' := by
  unfold ofE
  cases hok : ofB d a b
  · cases hl : lenB d a b
    · refine (at0_good s d x y A B c c' a b w hok ha hb hl ra rb).mono ?_
      rintro e w' ⟨rfl, hb⟩
      exact ⟨_, by rw [List.size_toArray, stCells_length], all_oneCell_toArray (int_one _), rfl, hb⟩
    · refine (at0_long s d x y 0 A B c c' a b w hok hl ha hb ra rb).mono ?_
      rintro e w' ⟨rfl, hb⟩
      exact ⟨_, by rw [List.size_toArray, stCells_length], all_oneCell_toArray (int_one _), rfl, hb⟩
  · refine (at0_bad s d x y 0 A B c c' a b w hok ha hb ra rb).mono ?_
    rintro e w' ⟨rfl, hb⟩
    exact ⟨_, by rw [List.size_toArray, stCells_length], all_oneCell_toArray (int_one _), rfl, hb⟩
set_option maxHeartbeats 2000000 in
theorem fits_tape (s d x y : Int) (A B : Option Addr) (c c' : Nat) (a b : List Nat) (w : World) (ha : a.length ≤ 20000) (hb : b.length ≤ 20000) (ra : Rd w w.heap.size A (a.flatMap btC)) (rb : Rd w w.heap.size B (b.flatMap btC)) :
    Calls Tryz.prog 92 #[.agg #[.int .u32 s, .int .i64 d, .int .i64 x, .int .i64 y], .slice A a.length c, .slice B b.length c'] w fun e w' => e = .returned (.bool (!(ofB d a b || lenB d a b))) ∧ Below w.heap.size w w' := by
  have HAT := Lib.hid (fun (V : World) (hV : Below w.heap.size w V) => at0_any s d x y A B c c' a b V ha hb ((ra.below hV (Nat.le_refl _)).more hV.size) ((rb.below hV (Nat.le_refl _)).more hV.size))
  obtain ⟨eI, heI⟩ : ∃ eI : Int, ofE d a b = eI := ⟨_, rfl⟩
  rw [heI] at HAT
  have HE : Hid ((!(ofB d a b || lenB d a b)) = (eI == 0)) := Lib.hid (by rw [← heI]; unfold ofE; cases ofB d a b <;> cases lenB d a b <;> rfl)
  clear ra rb heI
  go_enter Tryz.func92, Tryz.ntmps92
  go_upto_region 1 with fail
  refine named1 (F := fun W => Code.wp _ _ _ _ W) ?_
  intro w1 k0 hb1 hz1
  have r0a := (k0).cell 0; have r0b := (k0).cell 1; have r0c := (k0).cell 2; have r0d := (k0).cell 3; have r0e := (k0).frozen 0; have r0f := (k0).frozen 1; have r0g := (k0).frozen 2; have r0h := (k0).frozen 3; have r0l := (k0).lt; simp only [List.getElem?_toArray, List.getElem?_cons_zero, List.getElem?_cons_succ] at r0a r0b r0c r0d
  clear k0
  go_upto_region 2 with (first
    | (go_at_call 17; refine (HAT.out _ hb1).mono ?_; rintro e w2 ⟨C0, hz0, h1c, rfl, hb2⟩; have HB2 := Lib.hid (bTrans hb1 hb2); have HSI := Lib.hid hz0; have H1C := Lib.hid h1c; clear hb2 hz0 h1c)
    | (refine wpList_store_mid rfl 41 (.tmp 7) (.tmp 14) rfl w2.heap.size 0 C0 rfl rfl (there_new _ _ _ (by rw [HSI.out]; rfl)) (by rw [HSI.out]; kernel_rfl) H1C.out ?_))
  refine named_put (F := fun W => Code.wp _ _ _ _ W) (by rw [Array.length_toList, HSI.out]; rfl) ?_
  intro w3 k3 hb3 hz3
  have HB3 := Lib.hid (bTrans HB2.out hb3)
  clear k3 hb3 hz3 r0a r0b r0c r0d r0e r0f r0g r0h r0l hb1 hz1 HB2
  go_wp2
  go_ret
  exact ⟨ret_bool HE.out.symm, HB3.out⟩
/-- May a tape be? -/
def rightTp (d x y : Int) (a b : List Nat) : Bool := decide (1 ≤ x ∧ x ≤ 16) && (decide (y = 0) && (decide (a.length = b.length) && !ofB d a b))
/-- Of inputs however many. -/
def rightTq (d x y : Int) (a b : List Nat) : Bool := decide (1 ≤ x ∧ x ≤ 16) && (decide (y = 0) && (decide (a.length = b.length) && !(ofB d a b || lenB d a b)))
theorem rightTq_iff (d x y : Int) (a b : List Nat) : rightTq d x y a b = (rightTp d x y a b && !lenB d a b) := by
  unfold rightTq rightTp
  cases decide (1 ≤ x ∧ x ≤ 16) <;> cases decide (y = 0) <;> cases decide (a.length = b.length) <;> cases ofB d a b <;> cases lenB d a b <;> rfl
theorem rightTq_few {d x y : Int} {a b : List Nat} (ha : a.length ≤ 1000) : rightTq d x y a b = rightTp d x y a b := by
  rw [rightTq_iff]
  cases h : rightTp d x y a b
  · rfl
  · have h2 := h
    unfold rightTp at h2
    simp only [Bool.and_eq_true, Bool.not_eq_true'] at h2
    rw [ofB_few ha h2.2.2.2]; rfl
set_option maxHeartbeats 4000000 in
theorem right_tape20 (s d x y m : Int) (A B : Option Addr) (c c' : Nat) (a b : List Nat) (w : World) (ha : a.length ≤ 20000) (hb : b.length ≤ 20000) (ra : Rd w w.heap.size A (a.flatMap btC)) (rb : Rd w w.heap.size B (b.flatMap btC)) :
    Calls Tryz.prog 35 #[.agg #[.int .u32 s, .int .i64 d, .int .i64 x, .int .i64 y, .slice A a.length c, .slice B b.length c', .int .u32 m]] w fun e w' => e = .returned (.bool (rightTq d x y a b)) ∧ Below w.heap.size w w' := by
  have HFI := Lib.hid (fun (V : World) (hV : Below w.heap.size w V) => fits_tape s d x y A B c c' a b V ha hb ((ra.below hV (Nat.le_refl _)).more hV.size) ((rb.below hV (Nat.le_refl _)).more hV.size))
  have HWI := Lib.hid (fun (V : World) => window_any s d x y V)
  obtain ⟨na, hna⟩ : ∃ na, a.length = na := ⟨_, rfl⟩
  obtain ⟨nb, hnb⟩ : ∃ nb, b.length = nb := ⟨_, rfl⟩
  unfold rightTq
  rw [hna, hnb] at HFI ⊢
  obtain ⟨fo, hfo⟩ : ∃ fo, (!(ofB d a b || lenB d a b)) = fo := ⟨_, rfl⟩
  obtain ⟨wo, hwo⟩ : ∃ wo, decide (1 ≤ x ∧ x ≤ 16) = wo := ⟨_, rfl⟩
  rw [hfo] at HFI ⊢
  rw [hwo] at HWI ⊢
  clear ra rb hna hnb hfo hwo ha hb
  go_enter Tryz.func35, Tryz.ntmps35
  go_upto_region 1 with fail
  refine named1 (F := fun W => Code.wp _ _ _ _ W) ?_
  intro w1 k0 hb1 hz1
  have q7 := k0; have r0a := q7.cell 0; have r0b := q7.cell 1; have r0c := q7.cell 2; have r0d := q7.cell 3; have r0e := q7.cell 4; have r0f := q7.cell 5; have r0g := q7.cell 6; have r0l := q7.lt; simp only [List.getElem?_toArray, List.getElem?_cons_zero, List.getElem?_cons_succ] at r0a r0b r0c r0d r0e r0f r0g; clear q7
  have K0 := Lib.hid k0
  have HB1 := Lib.hid hb1
  clear hb1 hz1 k0
  cases wo
  · go_wp2_with (first | (go_at_call 83; refine (HWI.out _).mono ?_; rintro e w2 ⟨rfl, hb2⟩; have HB2 := Lib.hid (bTrans HB1.out hb2); clear hb2))
    go_ret
    exact ⟨rfl, HB2.out⟩
  · by_cases hy : y = 0
    · subst hy
      by_cases hn : na = nb
      · have hnn : ((na : Int) == (nb : Int)) = true := by rw [hn]; simp
        have HNN := Lib.hid hn
        clear hn
        go_wp2_with (first
          | (go_at_call 83; refine (HWI.out _).mono ?_; rintro e w2 ⟨rfl, hb2⟩; have HB2 := Lib.hid (bTrans HB1.out hb2); have q7 := (K0.out.on hb2); have p0a := q7.cell 0; have p0b := q7.cell 1; have p0c := q7.cell 2; have p0d := q7.cell 3; have p0e := q7.cell 4; have p0f := q7.cell 5; have p0g := q7.cell 6; have p0l := q7.lt; simp only [List.getElem?_toArray, List.getElem?_cons_zero, List.getElem?_cons_succ] at p0a p0b p0c p0d p0e p0f p0g; clear q7; clear hb2 r0a r0b r0c r0d r0e r0f r0g r0l)
          | (go_at_call 92; refine (HFI.out _ HB2.out).mono ?_; rintro e w3 ⟨rfl, hb3⟩; have HB3 := Lib.hid (bTrans HB2.out hb3); clear hb3))
        go_ret
        exact ⟨ret_bool (by rw [HNN.out]; simp), HB3.out⟩
      · have hnn : ((na : Int) == (nb : Int)) = false := by simp; omega
        have HNN := Lib.hid hn
        clear hn
        go_wp2_with (first
          | (go_at_call 83; refine (HWI.out _).mono ?_; rintro e w2 ⟨rfl, hb2⟩; have HB2 := Lib.hid (bTrans HB1.out hb2); have q7 := (K0.out.on hb2); have p0a := q7.cell 0; have p0b := q7.cell 1; have p0c := q7.cell 2; have p0d := q7.cell 3; have p0e := q7.cell 4; have p0f := q7.cell 5; have p0g := q7.cell 6; have p0l := q7.lt; simp only [List.getElem?_toArray, List.getElem?_cons_zero, List.getElem?_cons_succ] at p0a p0b p0c p0d p0e p0f p0g; clear q7; clear hb2 r0a r0b r0c r0d r0e r0f r0g r0l))
        go_ret
        exact ⟨ret_bool (by rw [decide_eq_false HNN.out]; simp), HB2.out⟩
    · have hyy : (y == 0) = false := by simpa using hy
      have HY := Lib.hid hy
      clear hy
      go_wp2_with (first
        | (go_at_call 83; refine (HWI.out _).mono ?_; rintro e w2 ⟨rfl, hb2⟩; have HB2 := Lib.hid (bTrans HB1.out hb2); have q7 := (K0.out.on hb2); have p0a := q7.cell 0; have p0b := q7.cell 1; have p0c := q7.cell 2; have p0d := q7.cell 3; have p0e := q7.cell 4; have p0f := q7.cell 5; have p0g := q7.cell 6; have p0l := q7.lt; simp only [List.getElem?_toArray, List.getElem?_cons_zero, List.getElem?_cons_succ] at p0a p0b p0c p0d p0e p0f p0g; clear q7; clear hb2 r0a r0b r0c r0d r0e r0f r0g r0l))
      go_ret
      exact ⟨ret_bool (by rw [decide_eq_false HY.out]; simp), HB2.out⟩
theorem right_tape (s d x y m : Int) (A B : Option Addr) (c c' : Nat) (a b : List Nat) (w : World) (ha : a.length ≤ 1000) (hb : b.length ≤ 1000) (ra : Rd w w.heap.size A (a.flatMap btC)) (rb : Rd w w.heap.size B (b.flatMap btC)) :
    Calls Tryz.prog 35 #[.agg #[.int .u32 s, .int .i64 d, .int .i64 x, .int .i64 y, .slice A a.length c, .slice B b.length c', .int .u32 m]] w fun e w' => e = .returned (.bool (rightTp d x y a b)) ∧ Below w.heap.size w w' := by
  rw [← rightTq_few (b := b) ha]
  exact right_tape20 s d x y m A B c c' a b w (by omega) (by omega) ra rb
end
end Go.Proofs.YtibeihcpehikoaaGreat
