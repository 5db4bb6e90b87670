/-
  The walks beneath: StEq, TapN.
-/
import Derived.Test.YtibeihcpehikoaaGreatMq36
import Derived.Test.YtibeihcpehikoaaGreatMq37
import Derived.Test.YtibeihcpehikoaaGreatMq16
import Derived.Test.YtibeihcpehikoaaGreatMt8
namespace Go.Proofs.YtibeihcpehikoaaGreat
open Go.RowKit
set_option maxRecDepth 100000
/-- A state is itself. -/
theorem st_eql (T : Nat → Int) (w : World) : (binOp .eql 41 (.agg (stCells T).toArray) (.agg (stCells T).toArray)).run Tryz.prog w = .ok (.bool true) w := by
  have hX : (rowOf 60 T).length = (rowOf 60 kdS).length := by rw [rowOf_length, rowOf_length]
  have e : stCells T = ivals (rowOf 60 kdS) (rowOf 60 T) := by
    rw [ivals_row _ _ _ (rowOf_length _ _)]
    unfold stCells rowOf
    refine List.map_congr_left fun i hi => ?_
    have : i < 60 := by simpa using hi
    simp [List.getD_eq_getElem?_getD, this]
  have := eql_ints st_kinds (fun cs => by unfold valOf; rw [Tryz.underlying41]) (rowOf 60 T) (rowOf 60 T) hX hX e e w
  simpa using this
end Go.Proofs.YtibeihcpehikoaaGreat

namespace Go.Proofs.YtibeihcpehikoaaGreat
open Go.RowKit
set_option maxRecDepth 100000
set_option linter.unusedSimpArgs false
set_option maxHeartbeats 400000 in
theorem frames_deck {w : World} {base g : Nat} {s d x m : Int} {a b : List Nat} {n ev F : Nat} {ks : List (Nat → Int)} (h : DkW w base g s d x m a b n ev F ks) : Calls Tryz.prog 38 #[.pointer (some ⟨g, 0, none⟩)] w fun e w' => e = .returned (.int .i64 F) ∧ w = w' := by
  obtain ⟨A, B, K, cA, cB, nK, cK, hk, -, -, -⟩ := h.blk
  have d8 := hk.cell 8
  have dl := hk.lt
  simp only [List.getElem?_toArray, List.getElem?_cons_zero, List.getElem?_cons_succ] at d8
  clear h hk
  go_enter Tryz.func38, Tryz.ntmps38
  go_wp2
  go_ret
  exact ⟨rfl, rfl⟩
set_option maxHeartbeats 400000 in
theorem kept_deck {w : World} {base g : Nat} {s d x m : Int} {a b : List Nat} {n ev F : Nat} {ks : List (Nat → Int)} (h : DkW w base g s d x m a b n ev F ks) : Calls Tryz.prog 39 #[.pointer (some ⟨g, 0, none⟩)] w fun e w' => e = .returned (.int .i64 ks.length) ∧ w = w' := by
  obtain ⟨A, B, K, cA, cB, nK, cK, hk, -, -, h4⟩ := h.blk
  have d9 := hk.cell 9
  have dl := hk.lt
  have hl := h4.len
  simp only [List.getElem?_toArray, List.getElem?_cons_zero, List.getElem?_cons_succ] at d9
  rw [← hl]
  clear h hk h4 hl
  go_enter Tryz.func39, Tryz.ntmps39
  go_wp2
  go_ret
  exact ⟨rfl, rfl⟩
theorem frames_nil (w : World) : Calls Tryz.prog 38 #[.pointer none] w fun e w' => e = .returned (.int .i64 0) ∧ w = w' := by
  go_enter Tryz.func38, Tryz.ntmps38
  go_wp2
  go_ret
  exact ⟨rfl, rfl⟩
theorem kept_nil (w : World) : Calls Tryz.prog 39 #[.pointer none] w fun e w' => e = .returned (.int .i64 0) ∧ w = w' := by
  go_enter Tryz.func39, Tryz.ntmps39
  go_wp2
  go_ret
  exact ⟨rfl, rfl⟩
theorem built_cfg28 : Tryz.prog.built 24 [(1, .int .i64 2), (2, .int .i64 1)] = some #[.int .u32 0, .int .i64 2, .int .i64 1, .int .i64 0] := by kernel_rfl
theorem preT_same {inp inq : Nat → Nat × Nat} {S : Nat → Int} {N : Nat} (h : ∀ j, j < N → inp j = inq j) : preT inp S N = preT inq S N := by
  unfold preT
  refine List.map_congr_left fun k hk => ?_
  rw [List.mem_range] at hk
  exact rdT_same k (fun j hj => h j (by omega))
theorem hapG_cut (s d : Int) (a b : List Nat) (n : Nat) (hn : n = min a.length b.length) : hapG s d (a.take n) (b.take n) = hapG s d a b := by
  have e : min (a.take n).length (b.take n).length = min a.length b.length := by rw [List.length_take, List.length_take]; omega
  unfold hapG
  rw [e, preT_same (inq := inpT d.toNat a b) (fun j hj => inpT_cut (by omega))]
set_option maxHeartbeats 4000000 in
theorem awake28_any (w : World) : Calls Tryz.prog 29 #[] w fun e w' => e = .returned (.bool true) ∧ Below w.heap.size w w' := by
  have HRC := Lib.hid (fun (V : World) (A B : Option Addr) (ra : Rd V V.heap.size A ([1, 2, 3].flatMap btC)) (rb : Rd V V.heap.size B ([0, 0, 0, 0].flatMap btC)) => record_good 0 2 1 0 A B 3 4 [1, 2, 3] [0, 0, 0, 0] 3 rfl V (by unfold U32; omega) (by decide) (by decide) (by decide) (by decide) (by decide) (by decide) ra rb)
  go_enter Tryz.func29, Tryz.ntmps29
  go_upto_region 2 with (first
    | (refine wpList_built rfl 24 [(1, .const (.int .i64 2)), (2, .const (.int .i64 1))] rfl #[.int .u32 0, .int .i64 2, .int .i64 1, .int .i64 0] [(1, .int .i64 2), (2, .int .i64 1)] ?_ built_cfg28 ?_; (case' hv => rfl))
    | (go_at_call 30; go_loud (refine (HRC.out _ _ _ ?ra ?rb).mono ?_)))
  case ra => exact (((rd_new w #[.int .u8 1, .int .u8 2, .int .u8 3] 5 w.heap.size rfl (w.heap.size + 1) (Nat.lt_succ_self _)).below (bAlloc (Below.refl _ _) _) (by simp)).more (by simp))
  case rb => exact rd_new (w.alloc (.cells #[.int .u8 1, .int .u8 2, .int .u8 3] 5)) #[.int .u8 0, .int .u8 0, .int .u8 0, .int .u8 0] 5 (w.heap.size + 1) (by simp) _ (by simp)
  have hb0 : Below w.heap.size w ((w.alloc (.cells #[.int .u8 1, .int .u8 2, .int .u8 3] 5)).alloc (.cells #[.int .u8 0, .int .u8 0, .int .u8 0, .int .u8 0] 5)) := bAlloc (bAlloc (Below.refl _ _) _) _
  obtain ⟨w1, hw1⟩ : ∃ w1, ((w.alloc (.cells #[.int .u8 1, .int .u8 2, .int .u8 3] 5)).alloc (.cells #[.int .u8 0, .int .u8 0, .int .u8 0, .int .u8 0] 5)) = w1 := ⟨_, rfl⟩
  rw [hw1] at hb0 ⊢
  have hcut := hapG_cut 0 2 [1, 2, 3] [0, 0, 0, 0] 3 rfl
  rw [show ([1, 2, 3] : List Nat).take 3 = [1, 2, 3] from rfl, show ([0, 0, 0, 0] : List Nat).take 3 = [0, 0, 0] from rfl] at hcut ⊢
  have hop := fun (V : World) (A B : Option Addr) (c c' : Nat) (ra : Rd V V.heap.size A ([1, 2, 3].flatMap btC)) (rb : Rd V V.heap.size B ([0, 0, 0].flatMap btC)) => open_good 2 (by decide) 0 2 1 _ A B c c' [1, 2, 3] [0, 0, 0] V (by unfold U32; omega) (by decide) (congrArg Nat.cast hcut) (by decide) ra rb
  obtain ⟨H, hH⟩ : ∃ H, hapG 0 2 [1, 2, 3] [0, 0, 0, 0] = H := ⟨_, rfl⟩
  rw [hH] at hop ⊢
  have HOP := Lib.hid hop
  have HB0 := Lib.hid hb0
  clear hw1 hb0 hop hH hcut HRC
  rintro e w3 ⟨A', B', cA, cB, rfl, ho1, ho2, hb3⟩
  have HO1 := Lib.hid ho1
  have HO2 := Lib.hid ho2
  have HB3 := Lib.hid (bTrans HB0.out hb3)
  clear ho1 ho2 hb3 HB0
  go_upto_region 2 with fail
  refine named1 (F := fun W => Code.wp _ _ _ _ W) ?_
  intro w4 k4 hb4 hz4
  have K4 := Lib.hid k4
  have HB4 := Lib.hid (bTrans HB3.out hb4)
  have hra := (HO1.out.below hb4).rd
  have hrb := (HO2.out.below hb4).rd
  have HRA := Lib.hid hra
  have HRB := Lib.hid hrb
  have q7 := K4.out; have s0a := q7.cell 0; have s0b := q7.cell 1; have s0c := q7.cell 2; have s0d := q7.cell 3; have s0e := q7.cell 4; have s0f := q7.cell 5; have s0g := q7.cell 6; have s0l := q7.lt; simp only [List.getElem?_toArray, List.getElem?_cons_zero, List.getElem?_cons_succ] at s0a s0b s0c s0d s0e s0f s0g; clear q7
  clear k4 hb4 hz4 hra hrb HO1 HO2 HB3
  go_upto_region 3 with (first
    | (go_at_call 31; refine (HOP.out w4 A' B' cA cB HRA.out HRB.out).mono ?_; rintro e w5 ⟨g, rfl, hg, hdk, hb5⟩; have HDK := Lib.hid hdk; have HB5 := Lib.hid (bTrans HB4.out hb5); have K5 := Lib.hid (K4.out.on hb5); clear hdk hb5))
  have HFR := Lib.hid (frames_deck HDK.out)
  clear s0a s0b s0c s0d s0e s0f s0g s0l
  have q7 := K5.out; have s0a := q7.cell 0; have s0b := q7.cell 1; have s0c := q7.cell 2; have s0d := q7.cell 3; have s0e := q7.cell 4; have s0f := q7.cell 5; have s0g := q7.cell 6; have s0l := q7.lt; simp only [List.getElem?_toArray, List.getElem?_cons_zero, List.getElem?_cons_succ] at s0a s0b s0c s0d s0e s0f s0g; clear q7
  go_wp2_with (first | (go_at_call 38; refine HFR.out.mono ?_; rintro e w6 ⟨rfl, rfl⟩))
  go_ret
  exact ⟨rfl, HB5.out⟩
section
variable {F : World → Prop} {w : World} {T0 T1 T2 T3 T4 : TypeId} {c0 c1 c2 c3 c4 : Array Value}
theorem named5 (h : ∀ W, Blk W w.heap.size T0 c0 → Blk W (w.heap.size + 1) T1 c1 → Blk W (w.heap.size + 1 + 1) T2 c2 → Blk W (w.heap.size + 1 + 1 + 1) T3 c3 → Blk W (w.heap.size + 1 + 1 + 1 + 1) T4 c4 → Below w.heap.size w W → W.heap.size = w.heap.size + 1 + 1 + 1 + 1 + 1 → F W) : F (((((w.alloc (.cells c0 T0)).alloc (.cells c1 T1)).alloc (.cells c2 T2)).alloc (.cells c3 T3)).alloc (.cells c4 T4)) := by
  refine named3 (F := fun W => F ((W.alloc (.cells c3 T3)).alloc (.cells c4 T4))) ?_
  intro W k0 k1 k2 hb hz
  refine named2 (w := W) (F := F) ?_
  intro V l0 l1 hc hy
  rw [hz] at l0 l1 hy
  exact h V (k0.on hc) (k1.on hc) (k2.on hc) l0 l1 (bTrans hb hc) hy
end
section
variable {P : Program} {fn : Func} {tmps : Array Value} {w : World} {a b c : Tmp} {t t2 t3 : TypeId} {p p2 p3 : Addr} {v v2 v3 : Value}
theorem results_ccc (hr : fn.results = #[.cell a t, .cell b t2, .cell c t3]) (ha : tmps.getD a undef = .pointer (some p)) (hb : tmps.getD b undef = .pointer (some p2)) (hc : tmps.getD c undef = .pointer (some p3)) (hl : (loadVar t p).run P w = .ok v w) (hl2 : (loadVar t2 p2).run P w = .ok v2 w) (hl3 : (loadVar t3 p3).run P w = .ok v3 w) :
    (results fn tmps).run P w = .ok (.tuple #[v, v2, v3]) w := by
  unfold results
  rw [hr]
  simp only [List.mapM_toArray, List.mapM_cons, List.mapM_nil, ha, hb, hc, asAddr]
  simp [hl, hl2, hl3]
end
theorem load_i1 {w : World} {g : Nat} {v : Int} (h : Blk w g 3 #[.int .i64 v]) : (loadVar 3 ⟨g, 0, none⟩).run Tryz.prog w = .ok (.int .i64 v) w := by
  have h0 := h.cell 0
  simp only [List.getElem?_toArray, List.getElem?_cons_zero] at h0
  simp [go_sem, h0]
theorem load_e1 {w : World} {g : Nat} {v : Int} (h : Blk w g 28 #[.int .i64 v]) : (loadVar 28 ⟨g, 0, none⟩).run Tryz.prog w = .ok (.int .i64 v) w := by
  have h0 := h.cell 0
  simp only [List.getElem?_toArray, List.getElem?_cons_zero] at h0
  simp [go_sem, h0]
set_option maxHeartbeats 4000000 in
theorem seek_nil (f : Int) (w : World) : Calls Tryz.prog 40 #[.pointer none, .int .i64 f] w fun e w' => e = .returned (.tuple #[.agg (stCells zeroT).toArray, .int .i64 0, .int .i64 2]) ∧ Below w.heap.size w w' := by
  obtain ⟨CZ, hcz⟩ : ∃ CZ : Array Value, (stCells zeroT).toArray = CZ := ⟨_, rfl⟩
  have hbz := built_zero
  rw [hcz] at hbz ⊢
  have HBT := Lib.hid hbz
  have hsz : CZ.size = 60 := by rw [← hcz, List.size_toArray, stCells_length]
  have H1C : Hid (CZ.all (·.oneCell') = true) := Lib.hid (by rw [← hcz]; exact all_oneCell_toArray (int_one _))
  have HSZ : Hid ((Tryz.prog.info? 41).map (·.size) = some CZ.size) := Lib.hid (by rw [hsz]; kernel_rfl)
  have HSI := Lib.hid hsz
  clear hbz hsz hcz
  refine (callsIn_wide (n := 3)).1 ?_
  refine callsIn_of_wp_marks Tryz.func40 rfl trivial ?_ rfl
  simp only [Tryz.ntmps40, List.size_toArray, List.length_cons, List.length_nil, Nat.reduceAdd, Nat.reduceSub, Array.replicate_succ, Array.replicate_zero, List.push_toArray, List.append_toArray, List.nil_append, List.cons_append]
  refine wpIn_wide.2 ?_
  go_upto_region 1 with fail
  refine named5 (F := fun W => Code.wp _ _ _ _ W) ?_
  intro w1 k2 k3 k4 k5 k6 hb1 hz1
  have c2 := k2.cell 0
  have l2 := k2.lt
  simp only [List.getElem?_toArray, List.getElem?_cons_zero] at c2
  have hbz : ∃ Z : Array Value, Z.size = 60 ∧ Blk w1 (w.heap.size + 1 + 1) 41 Z := ⟨_, rfl, k4⟩
  obtain ⟨Z, hZ, hBZ⟩ := hbz
  have HTH : Hid (w1.there (w.heap.size + 1 + 1) 0 CZ.size) := Lib.hid (by rw [HSI.out]; exact Blk.there hBZ (by rw [hZ]; decide))
  have hcl : CZ.toList.length = CZ.size := by simp
  have hwh := hBZ.whole CZ.toList (by rw [hcl, HSI.out, hZ])
  have h5 := k5.farC (show w.heap.size + 1 + 1 + 1 ≠ w.heap.size + 1 + 1 by omega) 0 CZ.toList
  have h6 := k6.farC (show w.heap.size + 1 + 1 + 1 + 1 ≠ w.heap.size + 1 + 1 by omega) 0 CZ.toList
  have hbx := bSetCells hb1 (show w.heap.size ≤ w.heap.size + 1 + 1 by omega) 0 CZ.toList
  obtain ⟨wx, hwx⟩ : ∃ wx, w1.setCells (w.heap.size + 1 + 1) 0 CZ.toList = wx := ⟨_, rfl⟩
  rw [hwx] at hwh h5 h6 hbx
  have HWX := Lib.hid hwx
  have HWH := Lib.hid hwh
  have H5 := Lib.hid h5
  have H6 := Lib.hid h6
  have HBX := Lib.hid hbx
  have f5 := h5.frozen 0
  have f6 := h6.frozen 0
  have e5 := h5.cell 0
  have e6 := h6.cell 0
  have l5 := h5.lt
  have l6 := h6.lt
  simp only [List.getElem?_toArray, List.getElem?_cons_zero] at e5 e6
  clear k2 k3 k4 k5 k6 hb1 hz1 hZ hBZ hwx hwh h5 h6 hbx hcl
  go_wp2_with (first
    | (refine wpList_built rfl 41 [] rfl CZ [] rfl HBT.out ?_)
    | (refine wpList_store_mid rfl 41 (.tmp 4) (.tmp 12) rfl (w.heap.size + 1 + 1) 0 CZ rfl rfl HTH.out HSZ.out H1C.out ?_; rw [HWX.out]))
  have r4 := (HWH.out.farG (show w.heap.size + 1 + 1 ≠ w.heap.size + 1 + 1 + 1 by omega) 0 (.int .i64 0)).farG (show w.heap.size + 1 + 1 ≠ w.heap.size + 1 + 1 + 1 + 1 by omega) 0 (.int .i64 2)
  have r5 := (H5.out.set 0 (.int .i64 0)).farG (show w.heap.size + 1 + 1 + 1 ≠ w.heap.size + 1 + 1 + 1 + 1 by omega) 0 (.int .i64 2)
  have r6 := (H6.out.farG (show w.heap.size + 1 + 1 + 1 + 1 ≠ w.heap.size + 1 + 1 + 1 by omega) 0 (.int .i64 0)).set 0 (.int .i64 2)
  have hb := bSetG (bSetG HBX.out (show w.heap.size ≤ w.heap.size + 1 + 1 + 1 by omega) 0 (.int .i64 0)) (show w.heap.size ≤ w.heap.size + 1 + 1 + 1 + 1 by omega) 0 (.int .i64 2)
  have hl4 := run_loadVar_mid (P := Tryz.prog) _ _ 0 41 CZ.toList _ (Blk.range r4) Tryz.underlying41 rfl (by rw [Array.length_toList]; exact HSZ.out)
  rw [Array.toArray_toList] at hl4
  exact ⟨_, results_ccc (a := 4) (b := 5) (c := 6) (t := 41) (t2 := 3) (t3 := 28) rfl rfl rfl rfl hl4 (load_i1 r5) (load_e1 r6), rfl, hb⟩
set_option maxHeartbeats 2000000 in
theorem play_nil (f t : Int) (w : World) : Calls Tryz.prog 41 #[.pointer none, .int .i64 f, .int .i64 t] w fun e w' => e = .returned (.tuple #[.slice none 0 0, .int .i64 2]) ∧ Below w.heap.size w w' := by
  refine (callsIn_wide (n := 3)).1 ?_
  refine callsIn_of_wp_marks Tryz.func41 rfl trivial ?_ rfl
  simp only [Tryz.ntmps41, List.size_toArray, List.length_cons, List.length_nil, Nat.reduceAdd, Nat.reduceSub, Array.replicate_succ, Array.replicate_zero, List.push_toArray, List.append_toArray, List.nil_append, List.cons_append]
  refine wpIn_wide.2 ?_
  go_wp2_with fail
  exact ⟨.tuple #[.slice none 0 0, .int .i64 2], by simp [results, Tryz.results41, go_sem], rfl, (by repeat (first | exact Below.refl _ _ | (with_reducible assumption) | apply bAlloc | apply below_drewN | apply Below.drew))⟩
set_option maxHeartbeats 4000000 in
theorem tapenil_any (a b : Int) (w : World) : Calls Tryz.prog 8 #[.int .i64 a, .int .i64 b] w fun e w' => e = .returned (.bool true) ∧ Below w.heap.size w w' := by
  obtain ⟨CZ, hcz⟩ : ∃ CZ : Array Value, (stCells zeroT).toArray = CZ := ⟨_, rfl⟩
  have hsk := fun V => seek_nil a V
  have hbz := built_zero
  have heq := fun W => st_eql zeroT W
  rw [hcz] at hsk hbz heq
  have hsz : CZ.size = 60 := by rw [← hcz, List.size_toArray, stCells_length]
  have H1C : Hid (CZ.all (·.oneCell') = true) := Lib.hid (by rw [← hcz]; exact all_oneCell_toArray (int_one _))
  have HSZ : Hid ((Tryz.prog.info? 41).map (·.size) = some CZ.size) := Lib.hid (by rw [hsz]; kernel_rfl)
  have HSI := Lib.hid hsz
  have HSK := Lib.hid hsk
  have HBT := Lib.hid hbz
  have HEQ := Lib.hid heq
  clear hsk hbz heq hsz hcz
  go_enter Tryz.func8, Tryz.ntmps8
  go_upto_region 5 with (first
    | (go_at_call 29; refine (awake28_any _).mono ?_; rintro e w1 ⟨rfl, hb1⟩; have HB1 := Lib.hid hb1; clear hb1)
    | (go_at_call 40; refine (HSK.out _).mono ?_; rintro e w2 ⟨rfl, hb2⟩; have HB2 := Lib.hid (bTrans HB1.out hb2); clear hb2)
    | (refine wpList_store_mid rfl 41 (.tmp 6) (.tmp 17) rfl w2.heap.size 0 CZ rfl rfl (there_new _ _ _ (by rw [HSI.out]; rfl)) HSZ.out H1C.out ?_))
  refine named_put (F := fun W => Code.wp _ _ _ _ W) (by rw [Array.length_toList, HSI.out]; rfl) ?_
  intro w3 k3 hb3 hz3
  have K3 := Lib.hid k3
  have HB3 := Lib.hid (bTrans HB2.out hb3)
  clear k3 hb3 hz3
  go_upto_region 6 with (first
    | (go_at_call 41; refine (play_nil _ _ _).mono ?_; rintro e w4 ⟨rfl, hb4⟩; have HB4 := Lib.hid (bTrans HB3.out hb4); have K4 := Lib.hid (K3.out.on hb4); clear hb4))
  have hl4 := K4.out.lt
  have heq := HEQ.out
  go_wp2_with (first
    | (refine wpList_load_mid rfl 41 (.tmp 6) rfl w2.heap.size 0 rfl CZ.toList _ (Blk.range K4.out) Tryz.underlying41 rfl (by rw [Array.length_toList]; exact HSZ.out) ?_; rw [Array.toArray_toList])
    | (refine wpList_built rfl 41 [] rfl CZ [] rfl HBT.out ?_)
    | (go_at_call 38; refine (frames_nil _).mono ?_; rintro e w5 ⟨rfl, rfl⟩)
    | (go_at_call 39; refine (kept_nil _).mono ?_; rintro e w6 ⟨rfl, rfl⟩))
  go_ret
  exact ⟨rfl, HB4.out⟩
end Go.Proofs.YtibeihcpehikoaaGreat
