/-
  The walks beneath: TrH, Pl, MildL, TapA.
-/
import Derived.Test.YtibeihcpehikoaaGreatNk41
namespace Go.Proofs.YtibeihcpehikoaaGreat
open Go.RowKit
set_option maxRecDepth 100000
set_option maxHeartbeats 4000000
set_option linter.unusedSimpArgs false
section
open Go.RowKit Go.WideShapes Go.ChangeShapes
theorem pages_bad (s d x y : Int) (A B : Option Addr) (c c' : Nat) (a b : List Nat) (w : World) (hok : ofB d a b = true) (ha : a.length ≤ 1000) (hb : b.length ≤ 1000) (ra : Rd w w.heap.size A (a.flatMap btC)) (rb : Rd w w.heap.size B (b.flatMap btC)) :
  Calls Tryz.prog 16 #[.agg #[.int .u32 s, .int .i64 d, .int .i64 x, .int .i64 y], .slice A a.length c, .slice B b.length c'] w fun e w' => e = .returned (.tuple #[.slice none 0 0, .int .i64 1]) ∧ Below w.heap.size w w' := by
 have HOF := zz (fun (V : World) (hV : Below w.heap.size w V) => of_bad s d x y A B c c' a b V ha hb ((ra.below hV (zL _)).more hV.size) ((rb.below hV (zL _)).more hV.size) hok)
 clear ra rb hok
 refine (callsIn_wide (n := 3)).1 ?_
 refine callsIn_of_wp_marks Tryz.func16 rfl trivial ?_ rfl
 simp only [Tryz.ntmps16, zM, zH, zI, Nat.reduceAdd, Nat.reduceSub, Array.replicate_succ, Array.replicate_zero, List.push_toArray, List.append_toArray, List.nil_append, List.cons_append]
 refine wpIn_wide.2 ?_
 go_upto_region 1 with fail
 refine named1 (F := fun W => Code.wp _ _ _ _ W) ?_
 intro w1 k3 hb1 hz1
 have r0a := (k3).cell 0; have r0b := (k3).cell 1; have r0c := (k3).cell 2; have r0d := (k3).cell 3; have r0e := (k3).frozen 0; have r0f := (k3).frozen 1; have r0g := (k3).frozen 2; have r0h := (k3).frozen 3; have r0l := (k3).lt; simp only [zA, zB, zC] at r0a r0b r0c r0d
 clear k3
 go_wp2_with (first
  | (go_at_call 68; refine (HOF.out _ hb1).mono ?_; rintro e w2 ⟨rfl, hb2⟩; have HB2 := zz hb2; clear hb2))
 have hb9 : Below w.heap.size w (w2.alloc (.cells #[.int .u32 0, .int .i64 0, .slice none 0 0, .slice none 0 0] 133)) := bAlloc (bTrans hb1 HB2.out) _
 refine ⟨.tuple #[.slice none 0 0, .int .i64 1], by simp [results, Tryz.results16, go_sem], rfl, hb9⟩
section
variable {H : Type} {enc : TypeId × Value → H} {w : World} {held : Bool} {r : Reach} {b0 : Nat} {v : Value} {d : DataW H} {p : List MemPlace}
theorem byte_kinds : kindsOf Tryz.prog 100 5 = some [.u8] := by kernel_rfl
theorem cellsByte : Tryz.prog.cellsOf 5 = 1 := by kernel_rfl
theorem cfg_kinds : kindsOf Tryz.prog 100 24 = some [.u32, .i64, .i64, .i64] := by kernel_rfl
theorem cellsCfg : Tryz.prog.cellsOf 24 = 4 := by kernel_rfl
theorem open_bytes (hv : Value.okWide Tryz.prog w r b0 25 v) (h : DataW.Trod enc Tryz.prog w 0 (fun _ => true) held 25 v d p) :
  ∃ (A : Option Addr) (c : Nat) (l : List Nat), v = .slice A l.length c ∧ (l.length ≤ c ∧ c ≤ maxLen) ∧ Rd w w.heap.size A (l.flatMap btC) ∧ ∀ q ∈ l, q < 256 := by
 obtain ⟨A, n, c, css, rfl, rfl, hn, hm, hr, hall⟩ := open_rows Tryz.underlying25 cellsByte (by omega) hv h
 obtain ⟨l, rfl, hfit⟩ := list_of_forms (f := btC) (p := fun q => q < 256) (l := css) (fun cs hcs => by
  obtain ⟨-, fuel, y, hy⟩ := hall cs hcs
  obtain ⟨X, e1, e2, e3⟩ := trod_ints 100 5 _ byte_kinds (by rw [cellsByte]; rfl) fuel _ _ hy
  match X, e2 with
  | [a], _ =>
   have ha := bounds_u8 (e3 0 .u8 a rfl rfl)
   refine ⟨a.toNat, ?_, by omega⟩
   rw [e1]
   unfold btC ivals
   simp only [List.zipWith_cons_cons, List.zipWith_nil_left]
   rw [Int.toNat_of_nonneg ha.1])
 refine ⟨A, c, l, by rw [List.length_map], ⟨by rw [List.length_map] at hn; omega, hm⟩, ?_, hfit⟩
 rw [List.flatMap_def]; exact hr
theorem open_cfg (hv : Value.okWide Tryz.prog w r b0 24 v) (h : DataW.Trod enc Tryz.prog w 0 (fun _ => true) held 24 v d p) : ∃ s d' x y : Int, v = .agg #[.int .u32 s, .int .i64 d', .int .i64 x, .int .i64 y] ∧ U32 s ∧ I64 d' := by
 obtain ⟨cs, rfl, -⟩ := okWide_struct Tryz.underlying24 hv
 obtain ⟨fuel, hf⟩ := h
 obtain ⟨X, e1, e2, e3⟩ := trod_ints 100 24 _ cfg_kinds (by rw [cellsCfg]; rfl) fuel _ _ hf
 match X, e2 with
 | [a, b, c, e], _ =>
  refine ⟨a, b, c, e, ?_, bounds_u32 (e3 0 .u32 a rfl rfl), bounds_i64 (e3 1 .i64 b rfl rfl)⟩
  have : cs = #[.int .u32 a, .int .i64 b, .int .i64 c, .int .i64 e] := by
   apply Array.ext'
   rw [show (Value.agg cs).cells.toList = cs.toList from rfl] at e1
   rw [e1]
   rfl
  rw [this]
end
end
section
theorem st_setRange {w : World} {g : Nat} {S : Nat → Int} (h : Blk w g 41 (stCells S).toArray) (o : Nat) (vs : List Value) (T : Nat → Int) (_hb : o + vs.length ≤ 60) (hin : ∀ j, j < vs.length → vs[j]? = some (.int (kdS (o + j)) (T (o + j)))) (hout : ∀ j, (j < o ∨ o + vs.length ≤ j) → T j = S j) :
  Blk (w.setCells g o vs) g 41 (stCells T).toArray := by
 have := h.setCells vs o
 have e : putAt (stCells S).toArray o vs = (stCells T).toArray := by
  apply Array.ext_getElem?
  intro j
  rw [putAt_get]
  simp only [zA, zM, stCells_length]
  by_cases hj : o ≤ j ∧ j < o + vs.length ∧ j < 60
  ·rw [if_pos hj, hin (j - o) (by omega)]
   simp [stCells, rowOf, show j < 60 by omega, show o + (j - o) = j by omega]
  ·rw [if_neg hj]
   by_cases hj6 : j < 60
   ·simp only [stCells, rowOf, List.getElem?_map, List.getElem?_range hj6, Option.map_some]
    rw [hout j (by omega)]
   ·rw [List.getElem?_eq_none (by rw [stCells_length]; omega), List.getElem?_eq_none (by rw [stCells_length]; omega)]
 rw [← e]; exact this
theorem st_set {w : World} {g : Nat} {S : Nat → Int} (h : Blk w g 41 (stCells S).toArray) (i : Nat) (hi : i < 60) {k : IntKind} (hk : kdS i = k) (v : Int) : Blk (w.setCell ⟨g, i, none⟩ (.int k v)) g 41 (stCells (upd S i v)).toArray := by
 refine st_setRange h i [.int k v] _ (by show i + 1 ≤ 60; omega) (fun j hj => ?_) (fun j hj => ?_)
 ·have : j = 0 := by simpa using hj
  subst this
  rw [Nat.add_zero, hk, upd_same]; rfl
 ·exact upd_other _ _ _ _ (by have : [Value.int k v].length = 1 := rfl; omega)
theorem pl_range {w : World} {g : Nat} {S : Nat → Int} (h : Blk w g 41 (stCells S).toArray) {i : Nat} (hi : i < 2) : w.rangeAt g (4 + i * 10) (plCells (getP S i)) := fun j v hv => by
 have hj : j < 10 := by have := (List.getElem?_eq_some_iff.1 hv).1; rwa [plCells_length] at this
 have := st_cell h (4 + i * 10 + j) (by omega)
 rw [this, kdS_p i j hi hj, ← hv]
 simp [plCells, rowOf, hj, getP]
theorem pl_put {w : World} {g : Nat} {S : Nat → Int} (h : Blk w g 41 (stCells S).toArray) {i : Nat} (hi : i < 2) (p : Nat → Int) : Blk (w.setCells g (4 + i * 10) (plCells p)) g 41 (stCells (putP S i p)).toArray := by
 refine st_setRange h (4 + i * 10) (plCells p) _ (by rw [plCells_length]; omega) (fun j hj => ?_) (fun j hj => ?_)
 ·rw [plCells_length] at hj
  rw [putP_at S i p j hj, kdS_p i j hi hj]
  simp [plCells, rowOf, hj]
 ·rw [plCells_length] at hj
  exact putP_other S i p j hj
theorem pl_one (p : Nat → Int) : ∀ v ∈ plCells p, v.oneCell' = true := fun v hv => by
 unfold plCells rowOf at hv
 obtain ⟨j, -, rfl⟩ := List.mem_map.1 hv
 rfl
theorem pl_set (p : Nat → Int) (j : Nat) (hj : j < 10) {k : IntKind} (hk : kdP j = k) (v : Int) : ((plCells p).toArray).setIfInBounds j (.int k v) = (plCells (upd p j v)).toArray := by
 apply Array.ext'
 simp only [Array.toList_setIfInBounds]
 unfold plCells
 rw [rowOf_set]
 refine rowOf_congr fun m _ => ?_
 unfold upd
 by_cases hm : m = j
 ·subst hm; rw [if_pos rfl, if_pos rfl, hk]
 ·rw [if_neg hm, if_neg hm]
section
variable {P : Program} {fn : Func} {tmps : Array Value} {w : World} {a x : Tmp} {t : TypeId} {p : Addr} {v : Value}
theorem results_c1 (hr : fn.results = #[.cell a t, .tmp x]) (ha : tmps.getD a undef = .pointer (some p)) (hl : (loadVar t p).run P w = .ok v w) :
  (results fn tmps).run P w = .ok (.tuple #[v, tmps.getD x undef]) w := by
 unfold results
 rw [hr]
 simp only [List.mapM_toArray, List.mapM_cons, List.mapM_nil, ha, asAddr]
 simp [hl]
end
end
section
open Go.RowKit Go.WideShapes Go.ChangeShapes
theorem window_any (s d x y : Int) (w : World) : Calls Tryz.prog 83 #[.agg #[.int .u32 s, .int .i64 d, .int .i64 x, .int .i64 y]] w fun e w' => e = .returned (.bool (decide (1 ≤ x ∧ x ≤ 16))) ∧ Below w.heap.size w w' := by
 by_cases h1 : 1 ≤ x
 ·by_cases h2 : x ≤ 16
  ·have HD := zz (show decide (1 ≤ x ∧ x ≤ 16) = true from decide_eq_true ⟨h1, h2⟩)
   go_enter Tryz.func83, Tryz.ntmps83
   go_wp2
   go_ret
   exact ⟨ret_bool (by first | exact (decide_eq_true ⟨h1, h2⟩).symm | simp [h1, h2]), (by repeat (first | exact Below.refl _ _ | (with_reducible assumption) | apply bAlloc | apply below_drewN | apply Below.drew))⟩
  ·have HD := zz (show decide (1 ≤ x ∧ x ≤ 16) = false from decide_eq_false (fun h => h2 h.2))
   go_enter Tryz.func83, Tryz.ntmps83
   go_wp2
   go_ret
   exact ⟨ret_bool (by first | exact (decide_eq_false h2).symm | (simp [h1, h2])), (by repeat (first | exact Below.refl _ _ | (with_reducible assumption) | apply bAlloc | apply below_drewN | apply Below.drew))⟩
 ·have HD := zz (show decide (1 ≤ x ∧ x ≤ 16) = false from decide_eq_false (fun h => h1 h.1))
  go_enter Tryz.func83, Tryz.ntmps83
  go_wp2
  go_ret
  exact ⟨ret_bool (by rw [show decide (1 ≤ x) = false from decide_eq_false (by omega), Bool.false_and]), (by repeat (first | exact Below.refl _ _ | (with_reducible assumption) | apply bAlloc | apply below_drewN | apply Below.drew))⟩
theorem at0_good (s d x y : Int) (A B : Option Addr) (c c' : Nat) (a b : List Nat) (w : World) (hok : ofB d a b = false) (ha : a.length ≤ 20000) (hb : b.length ≤ 20000) (hl : lenB d a b = false) (ra : Rd w w.heap.size A (a.flatMap btC)) (rb : Rd w w.heap.size B (b.flatMap btC)) :
  Calls Tryz.prog 17 #[.agg #[.int .u32 s, .int .i64 d, .int .i64 x, .int .i64 y], .slice A a.length c, .slice B b.length c', .int .i64 0] w fun e w' => e = .returned (.tuple #[.agg (stCells (beginS s)).toArray, .int .i64 0]) ∧ Below w.heap.size w w' := by
 have HOF := zz (fun (V : World) (hV : Below w.heap.size w V) => of_good20 s d x y A B c c' a b V ha hb hl ((ra.below hV (zL _)).more hV.size) ((rb.below hV (zL _)).more hV.size) hok)
 unfold ofB badB at hok
 simp only [Bool.or_eq_false_iff, decide_eq_false_iff_not, List.any_eq_false, decide_eq_true_eq] at hok
 obtain ⟨⟨⟨h1, h2⟩, h3⟩, h4⟩ := hok
 have hd : 0 ≤ d ∧ d ≤ 8 := by omega
 have HKN := zz (fun V => known_any s d A B a.length c b.length c' V hd (by omega) (by omega))
 have hgt : decide (d + ((min a.length b.length : Nat) : Int) < 0) = false := decide_eq_false (by omega)
 have hbeg := fun V => gBegin_any s V
 obtain ⟨C0, hC0⟩ : ∃ C0 : Array Value, (stCells (beginS s)).toArray = C0 := ⟨_, rfl⟩
 rw [hC0] at hbeg ⊢
 have hsz : C0.size = 60 := by rw [← hC0, zM, stCells_length]
 have H1C : Hid (C0.all (·.oneCell') = true) := zz (by rw [← hC0]; exact all_oneCell_toArray (int_one _))
 have HSZ : Hid ((Tryz.prog.info? 41).map (·.size) = some C0.size) := zz (by rw [hsz]; kernel_rfl)
 have HSI := zz hsz
 have HBEG := zz hbeg
 obtain ⟨N, hN⟩ : ∃ N, d + ((min a.length b.length : Nat) : Int) = N := ⟨_, rfl⟩
 rw [hN] at HKN hgt
 clear ra rb h1 h2 h3 h4 hbeg hsz hC0 hN
 refine (callsIn_wide (n := 3)).1 ?_
 refine callsIn_of_wp_marks Tryz.func17 rfl trivial ?_ rfl
 simp only [Tryz.ntmps17, zM, zH, zI, Nat.reduceAdd, Nat.reduceSub, Array.replicate_succ, Array.replicate_zero, List.push_toArray, List.append_toArray, List.nil_append, List.cons_append]
 refine wpIn_wide.2 ?_
 go_upto_region 1 with fail
 refine named3 (F := fun W => Code.wp _ _ _ _ W) ?_
 intro w1 k0 k1 k2 hb1 hz1
 have r0a := (k0).cell 0; have r0b := (k0).cell 1; have r0c := (k0).cell 2; have r0d := (k0).cell 3; have r0e := (k0).frozen 0; have r0f := (k0).frozen 1; have r0g := (k0).frozen 2; have r0h := (k0).frozen 3; have r0l := (k0).lt; simp only [zA, zB, zC] at r0a r0b r0c r0d
 have K1 := zz k1
 have HZ2 : Hid (∃ Z : Array Value, Z.size = 60 ∧ Blk w1 (w.heap.size + 1 + 1) 41 Z) := zz ⟨_, rfl, k2⟩
 clear k0 k1 k2
 go_upto_region 2 with (first
  | (go_at_call 68; refine (HOF.out _ hb1).mono ?_; rintro e w2 ⟨rfl, hb2⟩; have HB2 := zz hb2; clear hb2))
 refine named1 (F := fun W => Code.wp _ _ _ _ W) ?_
 intro w3 k3 hb3 hz3
 have m0a := (k3).cell 0; have m0b := (k3).cell 1; have m0c := (k3).cell 2; have m0d := (k3).cell 3; have m0e := (k3).frozen 0; have m0f := (k3).frozen 1; have m0g := (k3).frozen 2; have m0h := (k3).frozen 3; have m0l := (k3).lt; simp only [zA, zB, zC] at m0a m0b m0c m0d
 have hk1 := (K1.out.on HB2.out).on hb3
 have t7c := hk1.cell 0
 have t7l := hk1.lt
 simp only [zA, zB] at t7c
 have HB3 := zz (bTrans (bTrans hb1 HB2.out) hb3)
 have HZ3 : Hid (∃ Z : Array Value, Z.size = 60 ∧ Blk w3 (w.heap.size + 1 + 1) 41 Z) := by
  obtain ⟨Z, h1, h2⟩ := HZ2.out
  exact zz ⟨Z, h1, (h2.on HB2.out).on hb3⟩
 have K13 := zz hk1
 clear r0a r0b r0c r0d r0e r0f r0g r0h r0l hb1 hz1 hb3 hk1 K1 HZ2 HOF
 obtain ⟨b3, hb3⟩ : ∃ b3, w2.heap.size = b3 := ⟨_, rfl⟩
 rw [hb3] at k3 m0a m0b m0c m0d m0e m0f m0g m0h m0l hz3 ⊢
 have K3 := zz k3
 clear hb3 k3 HB2 hz3
 go_upto_region 4 with fail
 refine wp_region_mild (by kernel_rfl) (by kernel_rfl) ?_
 repeat (go_big_quiet_step (first | (go_at_call 70; exact mild_of (HKN.out _)) | fail))
 refine wpQuiet_nil ?_
 intro w5 hw'
 obtain ⟨⟨wq, k5⟩, hw''⟩ := hw'
 subst hw''
 have hk1 := K13.out.on k5
 have u7c := hk1.cell 0
 have u7l := hk1.lt
 simp only [zA, zB] at u7c
 have hk3 := K3.out.on k5
 have p0a := (hk3).cell 0; have p0b := (hk3).cell 1; have p0c := (hk3).cell 2; have p0d := (hk3).cell 3; have p0e := (hk3).frozen 0; have p0f := (hk3).frozen 1; have p0g := (hk3).frozen 2; have p0h := (hk3).frozen 3; have p0l := (hk3).lt; simp only [zA, zB, zC] at p0a p0b p0c p0d
 have HB5 := zz (bTrans HB3.out k5)
 have HZ5 : Hid (∃ Z : Array Value, Z.size = 60 ∧ Blk w5 (w.heap.size + 1 + 1) 41 Z) := by
  obtain ⟨Z, h1, h2⟩ := HZ3.out
  exact zz ⟨Z, h1, h2.on k5⟩
 have K15 := zz hk1
 clear m0a m0b m0c m0d m0e m0f m0g m0h m0l t7c t7l HB3 HZ3 K13 K3 hk1 hk3 k5 HKN hgt
 go_upto_region 7 with (first
  | (go_at_call 53; refine (HBEG.out _).mono ?_; rintro e w6 ⟨rfl, hb6⟩; have HB6 := zz hb6; clear hb6)
  | (refine wpList_store_mid rfl 41 (.tmp 12) (.tmp 39) rfl w6.heap.size 0 C0 rfl rfl (there_new _ _ _ (by rw [HSI.out]; rfl)) HSZ.out H1C.out ?_))
 refine named_put (F := fun W => Code.wp _ _ _ _ W) (by rw [zK, HSI.out]; rfl) ?_
 intro w7 hk7 hb7 hz7
 have HRG7 : Hid (w7.rangeAt w6.heap.size 0 C0.toList) := zz (Blk.range hk7)
 have hb57 := bTrans HB6.out hb7
 have hk17 := K15.out.on hb57
 have v7c := hk17.cell 0
 have v7l := hk17.lt
 simp only [zA, zB] at v7c
 have HB7 := zz (bTrans HB5.out hb57)
 obtain ⟨Z, hZ, hBZ⟩ := HZ5.out
 have hbz := hBZ.on hb57
 have HTH : Hid (w7.there (w.heap.size + 1 + 1) 0 C0.size) := zz (by rw [HSI.out]; exact Blk.there hbz (by rw [hZ]; decide))
 have hcl : C0.toList.length = C0.size := by simp
 have hrg := World.rangeAt_setCells_same w7 (w.heap.size + 1 + 1) 0 C0.toList (by rw [hcl]; exact HTH.out)
 have HRES := zz (run_loadVar_mid (P := Tryz.prog) _ _ _ 41 C0.toList _ hrg Tryz.underlying41 rfl (by rw [hcl]; exact HSZ.out))
 have HBX := zz (bSetCells HB7.out (show w.heap.size ≤ w.heap.size + 1 + 1 by omega) 0 C0.toList)
 have hl7 := hk7.lt
 obtain ⟨wx, hwx⟩ : ∃ wx, w7.setCells (w.heap.size + 1 + 1) 0 C0.toList = wx := ⟨_, rfl⟩
 rw [hwx] at HRES HBX
 have HWX := zz hwx
 have HC2 : Hid (C0.toList.toArray = C0) := zz (by simp)
 clear hk7 hb7 hz7 hb57 hk17 hbz hZ hBZ hrg hwx hcl HB6 HZ5 K15 HB5 HBEG
 go_wp2_with (first
  | (refine wpList_load_mid rfl 41 (.tmp 12) rfl w6.heap.size 0 rfl C0.toList _ HRG7.out Tryz.underlying41 rfl (by rw [zK]; exact HSZ.out) ?_; rw [HC2.out])
  | (refine wpList_store_mid rfl 41 (.tmp 8) (.tmp 42) rfl (w.heap.size + 1 + 1) 0 C0 rfl rfl HTH.out HSZ.out H1C.out ?_; rw [HWX.out]))
 have hres := HRES.out
 exact ⟨_, results_c1 (a := 8) (t := 41) (x := 9) rfl rfl hres, rfl, HBX.out⟩
theorem at0_err (s d x y f er : Int) (her : (er == 0) = false) (A B : Option Addr) (c c' : Nat) (a b : List Nat) (w : World) (hof : ∀ (V : World), Below w.heap.size w V → Calls Tryz.prog 68 #[.agg #[.int .u32 s, .int .i64 d, .int .i64 x, .int .i64 y], .slice A a.length c, .slice B b.length c'] V fun e w' => e = .returned (.tuple #[.agg #[.int .u32 0, .int .i64 0, .slice none 0 0, .slice none 0 0], .int .i64 er]) ∧ Below V.heap.size V w') :
  Calls Tryz.prog 17 #[.agg #[.int .u32 s, .int .i64 d, .int .i64 x, .int .i64 y], .slice A a.length c, .slice B b.length c', .int .i64 f] w fun e w' => e = .returned (.tuple #[.agg (stCells zeroT).toArray, .int .i64 er]) ∧ Below w.heap.size w w' := by
 have HOF := zz hof
 obtain ⟨CZ, hcz⟩ : ∃ CZ : Array Value, (stCells zeroT).toArray = CZ := ⟨_, rfl⟩
 have hbz := built_zero
 rw [hcz] at hbz ⊢
 have HBT := zz hbz
 have hsz : CZ.size = 60 := by rw [← hcz, zM, stCells_length]
 have H1C : Hid (CZ.all (·.oneCell') = true) := zz (by rw [← hcz]; exact all_oneCell_toArray (int_one _))
 have HSZ : Hid ((Tryz.prog.info? 41).map (·.size) = some CZ.size) := zz (by rw [hsz]; kernel_rfl)
 have HSI := zz hsz
 have hne : (er != 0) = true := by simp [bne, her]
 clear hbz hsz hcz hof
 refine (callsIn_wide (n := 3)).1 ?_
 refine callsIn_of_wp_marks Tryz.func17 rfl trivial ?_ rfl
 simp only [Tryz.ntmps17, zM, zH, zI, Nat.reduceAdd, Nat.reduceSub, Array.replicate_succ, Array.replicate_zero, List.push_toArray, List.append_toArray, List.nil_append, List.cons_append]
 refine wpIn_wide.2 ?_
 go_upto_region 1 with fail
 refine named3 (F := fun W => Code.wp _ _ _ _ W) ?_
 intro w1 k0 k1 k2 hb1 hz1
 have r0a := (k0).cell 0; have r0b := (k0).cell 1; have r0c := (k0).cell 2; have r0d := (k0).cell 3; have r0e := (k0).frozen 0; have r0f := (k0).frozen 1; have r0g := (k0).frozen 2; have r0h := (k0).frozen 3; have r0l := (k0).lt; simp only [zA, zB, zC] at r0a r0b r0c r0d
 have HZ2 : Hid (∃ Z : Array Value, Z.size = 60 ∧ Blk w1 (w.heap.size + 1 + 1) 41 Z) := zz ⟨_, rfl, k2⟩
 clear k0 k1 k2
 go_upto_region 2 with (first
  | (go_at_call 68; refine (HOF.out _ hb1).mono ?_; rintro e w2 ⟨rfl, hb2⟩; have HB2 := zz hb2; clear hb2))
 refine named1 (F := fun W => Code.wp _ _ _ _ W) ?_
 intro w3 k3 hb3 hz3
 have HB3 := zz (bTrans (bTrans hb1 HB2.out) hb3)
 obtain ⟨Z, hZ, hBZ⟩ := HZ2.out
 have hbz := (hBZ.on HB2.out).on hb3
 have HTH : Hid (w3.there (w.heap.size + 1 + 1) 0 CZ.size) := zz (by rw [HSI.out]; exact Blk.there hbz (by rw [hZ]; decide))
 have hcl : CZ.toList.length = CZ.size := by simp
 have hrg := World.rangeAt_setCells_same w3 (w.heap.size + 1 + 1) 0 CZ.toList (by rw [hcl]; exact HTH.out)
 have HRES := zz (run_loadVar_mid (P := Tryz.prog) _ _ _ 41 CZ.toList _ hrg Tryz.underlying41 rfl (by rw [hcl]; exact HSZ.out))
 have HBX := zz (bSetCells HB3.out (show w.heap.size ≤ w.heap.size + 1 + 1 by omega) 0 CZ.toList)
 obtain ⟨wx, hwx⟩ : ∃ wx, w3.setCells (w.heap.size + 1 + 1) 0 CZ.toList = wx := ⟨_, rfl⟩
 rw [hwx] at HRES HBX
 have HWX := zz hwx
 clear r0a r0b r0c r0d r0e r0f r0g r0h r0l hb1 hz1 hb3 HZ2 HOF HB2 k3 hbz hZ hBZ hrg hwx hcl
 go_wp2_with (first
  | (refine wpList_built rfl 41 [] rfl CZ [] rfl HBT.out ?_)
  | (refine wpList_store_mid rfl 41 (.tmp 8) (.tmp 25) rfl (w.heap.size + 1 + 1) 0 CZ rfl rfl HTH.out HSZ.out H1C.out ?_; rw [HWX.out]))
 have hres := HRES.out
 exact ⟨_, results_c1 (a := 8) (t := 41) (x := 9) rfl rfl hres, rfl, HBX.out⟩
theorem at0_bad (s d x y f : Int) (A B : Option Addr) (c c' : Nat) (a b : List Nat) (w : World) (hok : ofB d a b = true) (ha : a.length ≤ 20000) (hb : b.length ≤ 20000) (ra : Rd w w.heap.size A (a.flatMap btC)) (rb : Rd w w.heap.size B (b.flatMap btC)) :
  Calls Tryz.prog 17 #[.agg #[.int .u32 s, .int .i64 d, .int .i64 x, .int .i64 y], .slice A a.length c, .slice B b.length c', .int .i64 f] w fun e w' => e = .returned (.tuple #[.agg (stCells zeroT).toArray, .int .i64 1]) ∧ Below w.heap.size w w' :=
 at0_err s d x y f 1 rfl A B c c' a b w (fun V hV => of_bad20 s d x y A B c c' a b V ha hb ((ra.below hV (zL _)).more hV.size) ((rb.below hV (zL _)).more hV.size) hok)
theorem at0_long (s d x y f : Int) (A B : Option Addr) (c c' : Nat) (a b : List Nat) (w : World) (hok : ofB d a b = false) (hl : lenB d a b = true) (ha : a.length ≤ 20000) (hb : b.length ≤ 20000) (ra : Rd w w.heap.size A (a.flatMap btC)) (rb : Rd w w.heap.size B (b.flatMap btC)) :
  Calls Tryz.prog 17 #[.agg #[.int .u32 s, .int .i64 d, .int .i64 x, .int .i64 y], .slice A a.length c, .slice B b.length c', .int .i64 f] w fun e w' => e = .returned (.tuple #[.agg (stCells zeroT).toArray, .int .i64 5]) ∧ Below w.heap.size w w' :=
 at0_err s d x y f 5 rfl A B c c' a b w (fun V hV => of_long s d x y A B c c' a b V ha hb hl ((ra.below hV (zL _)).more hV.size) ((rb.below hV (zL _)).more hV.size) hok)
def ofE (d : Int) (a b : List Nat) : Int := if ofB d a b = true then 1 else if lenB d a b = true then 5 else 0
theorem at0_any (s d x y : Int) (A B : Option Addr) (c c' : Nat) (a b : List Nat) (w : World) (ha : a.length ≤ 20000) (hb : b.length ≤ 20000) (ra : Rd w w.heap.size A (a.flatMap btC)) (rb : Rd w w.heap.size B (b.flatMap btC)) :
  Calls Tryz.prog 17 #[.agg #[.int .u32 s, .int .i64 d, .int .i64 x, .int .i64 y], .slice A a.length c, .slice B b.length c', .int .i64 0] w fun e w' => ∃ C0 : Array Value, C0.size = 60 ∧ C0.all (·.oneCell') = true ∧ e = .returned (.tuple #[.agg C0, .int .i64 (ofE d a b)]) ∧ Below w.heap.size w w' := by
 unfold ofE
 cases hok : ofB d a b
 ·cases hl : lenB d a b
  ·refine (at0_good s d x y A B c c' a b w hok ha hb hl ra rb).mono ?_
   rintro e w' ⟨rfl, hb⟩
   exact ⟨_, by rw [zM, stCells_length], all_oneCell_toArray (int_one _), rfl, hb⟩
  ·refine (at0_long s d x y 0 A B c c' a b w hok hl ha hb ra rb).mono ?_
   rintro e w' ⟨rfl, hb⟩
   exact ⟨_, by rw [zM, stCells_length], all_oneCell_toArray (int_one _), rfl, hb⟩
 ·refine (at0_bad s d x y 0 A B c c' a b w hok ha hb ra rb).mono ?_
  rintro e w' ⟨rfl, hb⟩
  exact ⟨_, by rw [zM, stCells_length], all_oneCell_toArray (int_one _), rfl, hb⟩
theorem fits_tape (s d x y : Int) (A B : Option Addr) (c c' : Nat) (a b : List Nat) (w : World) (ha : a.length ≤ 20000) (hb : b.length ≤ 20000) (ra : Rd w w.heap.size A (a.flatMap btC)) (rb : Rd w w.heap.size B (b.flatMap btC)) :
  Calls Tryz.prog 92 #[.agg #[.int .u32 s, .int .i64 d, .int .i64 x, .int .i64 y], .slice A a.length c, .slice B b.length c'] w fun e w' => e = .returned (.bool (!(ofB d a b || lenB d a b))) ∧ Below w.heap.size w w' := by
 have HAT := zz (fun (V : World) (hV : Below w.heap.size w V) => at0_any s d x y A B c c' a b V ha hb ((ra.below hV (zL _)).more hV.size) ((rb.below hV (zL _)).more hV.size))
 obtain ⟨eI, heI⟩ : ∃ eI : Int, ofE d a b = eI := ⟨_, rfl⟩
 rw [heI] at HAT
 have HE : Hid ((!(ofB d a b || lenB d a b)) = (eI == 0)) := zz (by rw [← heI]; unfold ofE; cases ofB d a b <;> cases lenB d a b <;> rfl)
 clear ra rb heI
 go_enter Tryz.func92, Tryz.ntmps92
 go_upto_region 1 with fail
 refine named1 (F := fun W => Code.wp _ _ _ _ W) ?_
 intro w1 k0 hb1 hz1
 have r0a := (k0).cell 0; have r0b := (k0).cell 1; have r0c := (k0).cell 2; have r0d := (k0).cell 3; have r0e := (k0).frozen 0; have r0f := (k0).frozen 1; have r0g := (k0).frozen 2; have r0h := (k0).frozen 3; have r0l := (k0).lt; simp only [zA, zB, zC] at r0a r0b r0c r0d
 clear k0
 go_upto_region 2 with (first
  | (go_at_call 17; refine (HAT.out _ hb1).mono ?_; rintro e w2 ⟨C0, hz0, h1c, rfl, hb2⟩; have HB2 := zz (bTrans hb1 hb2); have HSI := zz hz0; have H1C := zz h1c; clear hb2 hz0 h1c)
  | (refine wpList_store_mid rfl 41 (.tmp 7) (.tmp 14) rfl w2.heap.size 0 C0 rfl rfl (there_new _ _ _ (by rw [HSI.out]; rfl)) (by rw [HSI.out]; kernel_rfl) H1C.out ?_))
 refine named_put (F := fun W => Code.wp _ _ _ _ W) (by rw [zK, HSI.out]; rfl) ?_
 intro w3 k3 hb3 hz3
 have HB3 := zz (bTrans HB2.out hb3)
 clear k3 hb3 hz3 r0a r0b r0c r0d r0e r0f r0g r0h r0l hb1 hz1 HB2
 go_wp2
 go_ret
 exact ⟨ret_bool HE.out.symm, HB3.out⟩
def rightTp (d x y : Int) (a b : List Nat) : Bool := decide (1 ≤ x ∧ x ≤ 16) && (decide (y = 0) && (decide (a.length = b.length) && !ofB d a b))
def rightTq (d x y : Int) (a b : List Nat) : Bool := decide (1 ≤ x ∧ x ≤ 16) && (decide (y = 0) && (decide (a.length = b.length) && !(ofB d a b || lenB d a b)))
theorem rightTq_iff (d x y : Int) (a b : List Nat) : rightTq d x y a b = (rightTp d x y a b && !lenB d a b) := by
 unfold rightTq rightTp
 cases decide (1 ≤ x ∧ x ≤ 16) <;> cases decide (y = 0) <;> cases decide (a.length = b.length) <;> cases ofB d a b <;> cases lenB d a b <;> rfl
theorem rightTq_few {d x y : Int} {a b : List Nat} (ha : a.length ≤ 1000) : rightTq d x y a b = rightTp d x y a b := by
 rw [rightTq_iff]
 cases h : rightTp d x y a b
 ·rfl
 ·have h2 := h
  unfold rightTp at h2
  simp only [Bool.and_eq_true, Bool.not_eq_true'] at h2
  rw [ofB_few ha h2.2.2.2]; rfl
theorem right_tape20 (s d x y m : Int) (A B : Option Addr) (c c' : Nat) (a b : List Nat) (w : World) (ha : a.length ≤ 20000) (hb : b.length ≤ 20000) (ra : Rd w w.heap.size A (a.flatMap btC)) (rb : Rd w w.heap.size B (b.flatMap btC)) :
  Calls Tryz.prog 35 #[.agg #[.int .u32 s, .int .i64 d, .int .i64 x, .int .i64 y, .slice A a.length c, .slice B b.length c', .int .u32 m]] w fun e w' => e = .returned (.bool (rightTq d x y a b)) ∧ Below w.heap.size w w' := by
 have HFI := zz (fun (V : World) (hV : Below w.heap.size w V) => fits_tape s d x y A B c c' a b V ha hb ((ra.below hV (zL _)).more hV.size) ((rb.below hV (zL _)).more hV.size))
 have HWI := zz (fun (V : World) => window_any s d x y V)
 obtain ⟨na, hna⟩ : ∃ na, a.length = na := ⟨_, rfl⟩
 obtain ⟨nb, hnb⟩ : ∃ nb, b.length = nb := ⟨_, rfl⟩
 unfold rightTq
 rw [hna, hnb] at HFI ⊢
 obtain ⟨fo, hfo⟩ : ∃ fo, (!(ofB d a b || lenB d a b)) = fo := ⟨_, rfl⟩
 obtain ⟨wo, hwo⟩ : ∃ wo, decide (1 ≤ x ∧ x ≤ 16) = wo := ⟨_, rfl⟩
 rw [hfo] at HFI ⊢
 rw [hwo] at HWI ⊢
 clear ra rb hna hnb hfo hwo ha hb
 go_enter Tryz.func35, Tryz.ntmps35
 go_upto_region 1 with fail
 refine named1 (F := fun W => Code.wp _ _ _ _ W) ?_
 intro w1 k0 hb1 hz1
 have q7 := k0; have r0a := q7.cell 0; have r0b := q7.cell 1; have r0c := q7.cell 2; have r0d := q7.cell 3; have r0e := q7.cell 4; have r0f := q7.cell 5; have r0g := q7.cell 6; have r0l := q7.lt; simp only [zA, zB, zC] at r0a r0b r0c r0d r0e r0f r0g; clear q7
 have K0 := zz k0
 have HB1 := zz hb1
 clear hb1 hz1 k0
 cases wo
 ·go_wp2_with (first | (go_at_call 83; refine (HWI.out _).mono ?_; rintro e w2 ⟨rfl, hb2⟩; have HB2 := zz (bTrans HB1.out hb2); clear hb2))
  go_ret
  exact ⟨rfl, HB2.out⟩
 ·by_cases hy : y = 0
  ·subst hy
   by_cases hn : na = nb
   ·have hnn : ((na : Int) == (nb : Int)) = true := by rw [hn]; simp
    have HNN := zz hn
    clear hn
    go_wp2_with (first
     | (go_at_call 83; refine (HWI.out _).mono ?_; rintro e w2 ⟨rfl, hb2⟩; have HB2 := zz (bTrans HB1.out hb2); have q7 := (K0.out.on hb2); have p0a := q7.cell 0; have p0b := q7.cell 1; have p0c := q7.cell 2; have p0d := q7.cell 3; have p0e := q7.cell 4; have p0f := q7.cell 5; have p0g := q7.cell 6; have p0l := q7.lt; simp only [zA, zB, zC] at p0a p0b p0c p0d p0e p0f p0g; clear q7; clear hb2 r0a r0b r0c r0d r0e r0f r0g r0l)
     | (go_at_call 92; refine (HFI.out _ HB2.out).mono ?_; rintro e w3 ⟨rfl, hb3⟩; have HB3 := zz (bTrans HB2.out hb3); clear hb3))
    go_ret
    exact ⟨ret_bool (by rw [HNN.out]; simp), HB3.out⟩
   ·have hnn : ((na : Int) == (nb : Int)) = false := by simp; omega
    have HNN := zz hn
    clear hn
    go_wp2_with (first
     | (go_at_call 83; refine (HWI.out _).mono ?_; rintro e w2 ⟨rfl, hb2⟩; have HB2 := zz (bTrans HB1.out hb2); have q7 := (K0.out.on hb2); have p0a := q7.cell 0; have p0b := q7.cell 1; have p0c := q7.cell 2; have p0d := q7.cell 3; have p0e := q7.cell 4; have p0f := q7.cell 5; have p0g := q7.cell 6; have p0l := q7.lt; simp only [zA, zB, zC] at p0a p0b p0c p0d p0e p0f p0g; clear q7; clear hb2 r0a r0b r0c r0d r0e r0f r0g r0l))
    go_ret
    exact ⟨ret_bool (by rw [decide_eq_false HNN.out]; simp), HB2.out⟩
  ·have hyy : (y == 0) = false := by simpa using hy
   have HY := zz hy
   clear hy
   go_wp2_with (first
    | (go_at_call 83; refine (HWI.out _).mono ?_; rintro e w2 ⟨rfl, hb2⟩; have HB2 := zz (bTrans HB1.out hb2); have q7 := (K0.out.on hb2); have p0a := q7.cell 0; have p0b := q7.cell 1; have p0c := q7.cell 2; have p0d := q7.cell 3; have p0e := q7.cell 4; have p0f := q7.cell 5; have p0g := q7.cell 6; have p0l := q7.lt; simp only [zA, zB, zC] at p0a p0b p0c p0d p0e p0f p0g; clear q7; clear hb2 r0a r0b r0c r0d r0e r0f r0g r0l))
   go_ret
   exact ⟨ret_bool (by rw [decide_eq_false HY.out]; simp), HB2.out⟩
theorem right_tape (s d x y m : Int) (A B : Option Addr) (c c' : Nat) (a b : List Nat) (w : World) (ha : a.length ≤ 1000) (hb : b.length ≤ 1000) (ra : Rd w w.heap.size A (a.flatMap btC)) (rb : Rd w w.heap.size B (b.flatMap btC)) :
  Calls Tryz.prog 35 #[.agg #[.int .u32 s, .int .i64 d, .int .i64 x, .int .i64 y, .slice A a.length c, .slice B b.length c', .int .u32 m]] w fun e w' => e = .returned (.bool (rightTp d x y a b)) ∧ Below w.heap.size w w' := by
 rw [← rightTq_few (b := b) ha]
 exact right_tape20 s d x y m A B c c' a b w (by omega) (by omega) ra rb
end
end Go.Proofs.YtibeihcpehikoaaGreat
