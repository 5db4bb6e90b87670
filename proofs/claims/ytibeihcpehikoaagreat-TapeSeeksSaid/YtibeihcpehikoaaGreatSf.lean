/-
  The walks beneath: TapT, DkW.
-/
import Derived.Deep.CutBlock
import Derived.Test.YtibeihcpehikoaaGreatNm4
import Derived.Test.YtibeihcpehikoaaGreatSd
import Derived.Test.YtibeihcpehikoaaGreatSe
namespace Go.Proofs.YtibeihcpehikoaaGreat
open Go.RowKit
set_option maxRecDepth 100000
set_option maxHeartbeats 16000000
set_option linter.unusedSimpArgs false
section
theorem built_tape0 : Tryz.prog.built 76 [] = some #[.int .u32 0, .int .i64 0, .int .i64 0, .int .i64 0, .slice none 0 0, .slice none 0 0, .int .u32 0] := by kernel_rfl
theorem record_bad1 (s d x y : Int) (A B : Option Addr) (c c' : Nat) (a b : List Nat) (w : World) (hof : ofB d a b = true) (ha : a.length ≤ 1000) (hb : b.length ≤ 1000) (ra : Rd w w.heap.size A (a.flatMap btC)) (rb : Rd w w.heap.size B (b.flatMap btC)) :
  Calls Tryz.prog 30 #[.agg #[.int .u32 s, .int .i64 d, .int .i64 x, .int .i64 y], .slice A a.length c, .slice B b.length c'] w fun e w' => e = .returned (.tuple #[.agg #[.int .u32 0, .int .i64 0, .int .i64 0, .int .i64 0, .slice none 0 0, .slice none 0 0, .int .u32 0], .int .i64 1]) ∧ Below w.heap.size w w' := by
 have HPG := zz (fun (V : World) (hV : Below w.heap.size w V) => pages_bad s d x y A B c c' a b V hof ha hb ((ra.below hV (zL _)).more hV.size) ((rb.below hV (zL _)).more hV.size))
 clear ra rb hof
 go_enter Tryz.func30, Tryz.ntmps30
 go_upto_region 1 with fail
 refine named2 (F := fun W => Code.wp _ _ _ _ W) ?_
 intro w1 k0 k6 hb1 hz1
 have r0a := (k0).cell 0; have r0b := (k0).cell 1; have r0c := (k0).cell 2; have r0d := (k0).cell 3; have r0e := (k0).frozen 0; have r0f := (k0).frozen 1; have r0g := (k0).frozen 2; have r0h := (k0).frozen 3; have r0l := (k0).lt; simp only [zA, zB, zC] at r0a r0b r0c r0d
 have K6 := zz k6
 clear hz1 k0 k6
 go_upto_region 2 with (first
  | (go_at_call 16; refine (HPG.out _ hb1).mono ?_; rintro e w3 ⟨rfl, hb3⟩; have HB3 := zz (bTrans hb1 hb3); have K63 := zz (K6.out.on hb3); clear hb3))
 clear r0a r0b r0c r0d r0e r0f r0g r0h r0l hb1 K6 HPG
 obtain ⟨C, hC⟩ : ∃ C : Array Value, #[.int .u32 0, .int .i64 0, .int .i64 0, .int .i64 0, .slice none 0 0, .slice none 0 0, .int .u32 0] = C := ⟨_, rfl⟩
 have hbt := built_tape0
 rw [hC] at hbt
 have HBT := zz hbt
 have HCC := zz hC
 have hsz : C.size = 7 := by rw [← hC]; rfl
 have H1C : Hid (C.all (·.oneCell') = true) := zz (by rw [← hC]; simp [Value.oneCell'])
 have HSZ : Hid ((Tryz.prog.info? 76).map (·.size) = some C.size) := zz (by rw [hsz]; kernel_rfl)
 have hcl : C.toList.length = C.size := by simp
 have HTH : Hid (w3.there (w.heap.size + 1) 0 C.size) := zz (by rw [hsz]; exact Blk.there K63.out (by show 0 + 7 ≤ 7; decide))
 have hrg := World.rangeAt_setCells_same w3 (w.heap.size + 1) 0 C.toList (by rw [hcl]; exact HTH.out)
 have HRES := zz (run_loadVar_mid (P := Tryz.prog) _ _ _ 76 C.toList _ hrg Tryz.underlying76 rfl (by rw [hcl]; exact HSZ.out))
 have HBX := zz (bSetCells HB3.out (show w.heap.size ≤ w.heap.size + 1 by omega) 0 C.toList)
 obtain ⟨wx, hwx⟩ : ∃ wx, w3.setCells (w.heap.size + 1) 0 C.toList = wx := ⟨_, rfl⟩
 rw [hwx] at HRES HBX
 have HWX := zz hwx
 clear hsz hcl hrg hwx hC hbt
 go_wp2_with (first
  | (refine wpList_built rfl 76 [] rfl C [] rfl HBT.out ?_)
  | (refine wpList_store_mid rfl 76 (.tmp 6) (.tmp 22) rfl (w.heap.size + 1) 0 C rfl rfl HTH.out HSZ.out H1C.out ?_; rw [HWX.out]))
 have hres := HRES.out
 rw [zJ] at hres
 exact bodyPost_ret (results_c1 (a := 6) (t := 76) (x := 7) rfl rfl hres) rfl ⟨by rw [HCC.out]; rfl, HBX.out⟩
theorem record_bad2 (s d x y : Int) (A B : Option Addr) (c c' : Nat) (a b : List Nat) (w : World) (hs : U32 s) (hof : ofB d a b = false) (hx : ¬ (1 ≤ x ∧ x ≤ 16)) (ha : a.length ≤ 1000) (hb : b.length ≤ 1000) (ra : Rd w w.heap.size A (a.flatMap btC)) (rb : Rd w w.heap.size B (b.flatMap btC)) :
  Calls Tryz.prog 30 #[.agg #[.int .u32 s, .int .i64 d, .int .i64 x, .int .i64 y], .slice A a.length c, .slice B b.length c'] w fun e w' => e = .returned (.tuple #[.agg #[.int .u32 0, .int .i64 0, .int .i64 0, .int .i64 0, .slice none 0 0, .slice none 0 0, .int .u32 0], .int .i64 1]) ∧ Below w.heap.size w w' := by
 have hd := (ofB_of hof).1
 have HPG := zz (fun (V : World) (hV : Below w.heap.size w V) => pages_good s d x y A B c c' a b (d.toNat + min a.length b.length) V hs hof (by omega) ha hb ((ra.below hV (zL _)).more hV.size) ((rb.below hV (zL _)).more hV.size))
 have HWI := zz (fun (V : World) => window_any s d x y V)
 rw [decide_eq_false hx] at HWI
 clear ra rb hof hx
 go_enter Tryz.func30, Tryz.ntmps30
 go_upto_region 1 with fail
 refine named2 (F := fun W => Code.wp _ _ _ _ W) ?_
 intro w1 k0 k6 hb1 hz1
 have r0a := (k0).cell 0; have r0b := (k0).cell 1; have r0c := (k0).cell 2; have r0d := (k0).cell 3; have r0e := (k0).frozen 0; have r0f := (k0).frozen 1; have r0g := (k0).frozen 2; have r0h := (k0).frozen 3; have r0l := (k0).lt; simp only [zA, zB, zC] at r0a r0b r0c r0d
 have K0 := zz k0
 have K6 := zz k6
 clear hz1 k0 k6
 go_upto_region 4 with (first
  | (go_at_call 16; refine (HPG.out _ hb1).mono ?_; rintro e w3 ⟨A', cp, xs, rfl, -, -, -, hb3⟩; have HB3 := zz (bTrans hb1 hb3); have K3 := zz (K0.out.on hb3); have K63 := zz (K6.out.on hb3); clear hb3))
 clear r0a r0b r0c r0d r0e r0f r0g r0h r0l hb1 K0 K6 HPG
 have s0a := (K3.out).cell 0; have s0b := (K3.out).cell 1; have s0c := (K3.out).cell 2; have s0d := (K3.out).cell 3; have s0e := (K3.out).frozen 0; have s0f := (K3.out).frozen 1; have s0g := (K3.out).frozen 2; have s0h := (K3.out).frozen 3; have s0l := (K3.out).lt; simp only [zA, zB, zC] at s0a s0b s0c s0d
 go_upto_region 5 with (first
  | (go_at_call 83; refine (HWI.out _).mono ?_; rintro e w4 ⟨rfl, hb4⟩; have HB4 := zz (bTrans HB3.out hb4); have K64 := zz (K63.out.on hb4); clear hb4))
 clear s0a s0b s0c s0d s0e s0f s0g s0h s0l HB3 K3 K63
 obtain ⟨C, hC⟩ : ∃ C : Array Value, #[.int .u32 0, .int .i64 0, .int .i64 0, .int .i64 0, .slice none 0 0, .slice none 0 0, .int .u32 0] = C := ⟨_, rfl⟩
 have hbt := built_tape0
 rw [hC] at hbt
 have HBT := zz hbt
 have HCC := zz hC
 have hsz : C.size = 7 := by rw [← hC]; rfl
 have H1C : Hid (C.all (·.oneCell') = true) := zz (by rw [← hC]; simp [Value.oneCell'])
 have HSZ : Hid ((Tryz.prog.info? 76).map (·.size) = some C.size) := zz (by rw [hsz]; kernel_rfl)
 have hcl : C.toList.length = C.size := by simp
 have HTH : Hid (w4.there (w.heap.size + 1) 0 C.size) := zz (by rw [hsz]; exact Blk.there K64.out (by show 0 + 7 ≤ 7; decide))
 have hrg := World.rangeAt_setCells_same w4 (w.heap.size + 1) 0 C.toList (by rw [hcl]; exact HTH.out)
 have HRES := zz (run_loadVar_mid (P := Tryz.prog) _ _ _ 76 C.toList _ hrg Tryz.underlying76 rfl (by rw [hcl]; exact HSZ.out))
 have HBX := zz (bSetCells HB4.out (show w.heap.size ≤ w.heap.size + 1 by omega) 0 C.toList)
 obtain ⟨wx, hwx⟩ : ∃ wx, w4.setCells (w.heap.size + 1) 0 C.toList = wx := ⟨_, rfl⟩
 rw [hwx] at HRES HBX
 have HWX := zz hwx
 clear hsz hcl hrg hwx hC hbt
 go_wp2_with (first
  | (refine wpList_built rfl 76 [] rfl C [] rfl HBT.out ?_)
  | (refine wpList_store_mid rfl 76 (.tmp 6) (.tmp 28) rfl (w.heap.size + 1) 0 C rfl rfl HTH.out HSZ.out H1C.out ?_; rw [HWX.out]))
 have hres := HRES.out
 rw [zJ] at hres
 exact bodyPost_ret (results_c1 (a := 6) (t := 76) (x := 7) rfl rfl hres) rfl ⟨by rw [HCC.out]; rfl, HBX.out⟩
theorem ofB_take {d : Int} {a b : List Nat} (h : ofB d a b = false) (n m : Nat) : ofB d (a.take n) (b.take m) = false := by
 unfold ofB badB at *
 simp only [Bool.or_eq_false_iff, decide_eq_false_iff_not, List.any_eq_false, decide_eq_true_eq] at *
 obtain ⟨⟨⟨h1, h2⟩, h3⟩, h4⟩ := h
 exact ⟨⟨⟨h1, h2⟩, fun x hx => h3 x (List.mem_of_mem_take hx)⟩, fun x hx => h4 x (List.mem_of_mem_take hx)⟩
def recOk (d x : Int) (a b : List Nat) : Bool := !ofB d a b && decide (1 ≤ x ∧ x ≤ 16)
theorem record_no (s d x y : Int) (A B : Option Addr) (c c' : Nat) (a b : List Nat) (w : World) (hs : U32 s) (hof : recOk d x a b = false) (ha : a.length ≤ 1000) (hb : b.length ≤ 1000) (ra : Rd w w.heap.size A (a.flatMap btC)) (rb : Rd w w.heap.size B (b.flatMap btC)) :
  Calls Tryz.prog 30 #[.agg #[.int .u32 s, .int .i64 d, .int .i64 x, .int .i64 y], .slice A a.length c, .slice B b.length c'] w fun e w' => e = .returned (.tuple #[.agg #[.int .u32 0, .int .i64 0, .int .i64 0, .int .i64 0, .slice none 0 0, .slice none 0 0, .int .u32 0], .int .i64 1]) ∧ Below w.heap.size w w' := by
 cases ho : ofB d a b
 ·refine record_bad2 s d x y A B c c' a b w hs ho (fun hx => ?_) ha hb ra rb
  unfold recOk at hof
  rw [ho, decide_eq_true hx] at hof
  cases hof
 ·exact record_bad1 s d x y A B c c' a b w ho ha hb ra rb
end
section
attribute [local irreducible] wpMixU wpMixY
theorem stsT_same {inp inq : Nat → Nat × Nat} {S : Nat → Int} {N : Nat} (h : ∀ j, j < N → inp j = inq j) : stsT inp S N = stsT inq S N := by
 unfold stsT
 refine List.map_congr_left fun k hk => ?_
 rw [List.mem_range] at hk
 exact stT_same k (fun j hj => h j (by omega))
theorem DkW.on {w W : World} {base g : Nat} {s d x m : Int} {a b : List Nat} {n ev F : Nat} {ks : List (Nat → Int)} (h : DkW w base g s d x m a b n ev F ks) (hb : Below w.heap.size w W) : DkW W base g s d x m a b n ev F ks := by
 obtain ⟨A, B, K, cA, cB, nK, cK, h1, h2, h3, h4⟩ := h.blk
 exact ⟨A, B, K, cA, cB, nK, cK, h1.on hb, h2.below hb, h3.below hb, h4.below hb⟩
theorem st_neq (T : Nat → Int) (w : World) : (binOp .neq 41 (.agg (stCells T).toArray) (.agg (stCells T).toArray)).run Tryz.prog w = .ok (.bool false) w := by
 have hX : (rowOf 60 T).length = (rowOf 60 kdS).length := by rw [rowOf_length, rowOf_length]
 have e : stCells T = ivals (rowOf 60 kdS) (rowOf 60 T) := by
  rw [ivals_row _ _ _ (rowOf_length _ _)]
  unfold stCells rowOf
  refine List.map_congr_left fun i hi => ?_
  have : i < 60 := by simpa using hi
  simp [List.getD_eq_getElem?_getD, this]
 have := neq_ints st_kinds (fun cs => by unfold valOf; rw [Tryz.underlying41]) (rowOf 60 T) (rowOf 60 T) hX hX e e w
 simpa using this
theorem seek_all (s d x mm : Int) (a b : List Nat) (na ev F base g : Nat) (f : Int) (w : World) (hs : U32 s) (hd : 0 ≤ d ∧ d ≤ 8) (hF : (F : Int) = d + (min a.length b.length : Nat)) (hal : a.length = na) (hbl : b.length = na) (hna : na ≤ 1000) (hev : 1 ≤ ev ∧ ev ≤ 20000)
  (h63a : ∀ x ∈ a, x < 64) (h63b : ∀ x ∈ b, x < 64) (hD : DkW w base g s d x mm a b na ev F (keptS (inpT d.toNat a b) (beginS s) ev (F + 1))) (hf : 0 ≤ f ∧ f ≤ (F : Int)) :
  Calls Tryz.prog 40 #[.pointer (some ⟨g, 0, none⟩), .int .i64 f] w fun e w' => e = .returned (.tuple #[.agg (stCells (stT (inpT d.toNat a b) (beginS s) f.toNat)).toArray, .int .i64 ((f.toNat % ev : Nat) : Int), .int .i64 0]) ∧ Below w.heap.size w w' := by
 have h := seek_in s d x mm a b na ev F f.toNat base g w hs hd hF hal hbl hna hev (by omega) h63a h63b hD
 rwa [Int.toNat_of_nonneg hf.1] at h
theorem seeks_any (hst : StepR) (s d x y every frame to_ : Int) (A B : Option Addr) (c c' : Nat) (a b : List Nat) (w : World) (hs : U32 s) (hca : a.length ≤ c) (hcb : b.length ≤ c') (hm : a.length ≤ 9223372036854775807 ∧ b.length ≤ 9223372036854775807) (ra : Rd w w.heap.size A (a.flatMap btC)) (rb : Rd w w.heap.size B (b.flatMap btC)) :
    Calls Tryz.prog 7 #[.agg #[.int .u32 s, .int .i64 d, .int .i64 x, .int .i64 y], .slice A a.length c, .slice B b.length c', .int .i64 every, .int .i64 frame, .int .i64 to_] w fun e w' => e = .returned (.bool true) ∧ Below w.heap.size w w' := by
  have HRA := zz ra
  have HRB := zz rb
  obtain ⟨na, hna⟩ : ∃ na, a.length = na := ⟨_, rfl⟩
  obtain ⟨nb, hnb⟩ : ∃ nb, b.length = nb := ⟨_, rfl⟩
  have HNA := zz hna
  have HNB := zz hnb
  rw [hna] at hca hm ⊢
  rw [hnb] at hcb hm ⊢
  have HST := zz hst
  clear ra rb hna hnb hst
  go_enter Tryz.func7, Tryz.ntmps7
  go_upto_region 1 with fail
  refine named1 (F := fun W => Code.wp _ _ _ _ W) ?_
  intro w0 k0 hb0 hz0
  have K0 := zz k0
  have HB0 := zz hb0
  clear k0 hb0 hz0
  go_upto_region 3 with (first | (go_at_call 29; refine (awake28_any _).mono ?_; rintro e w1 ⟨rfl, hb1⟩; have HB1 := zz (bTrans HB0.out hb1); have K1 := zz (K0.out.on hb1); clear hb1))
  clear K0 HB0
  by_cases h1 : 250 < na
  · have q1 : decide ((250 : Int) < (na : Int)) = true := decide_eq_true (by omega)
    go_wp2_with fail
    go_ret
    exact ⟨rfl, HB1.out⟩
  have q1 : decide ((250 : Int) < (na : Int)) = false := decide_eq_false (by omega)
  by_cases h2 : 250 < nb
  · have q2 : decide ((250 : Int) < (nb : Int)) = true := decide_eq_true (by omega)
    go_wp2_with fail
    go_ret
    exact ⟨rfl, HB1.out⟩
  have q2 : decide ((250 : Int) < (nb : Int)) = false := decide_eq_false (by omega)
  cases hrec : recOk d x a b
  · have HRC := zz (fun (V : World) (hV : Below w.heap.size w V) => record_no s d x y A B c c' a b V hs hrec (by have := HNA.out; omega) (by have := HNB.out; omega) ((HRA.out.below hV (zL _)).more hV.size) ((HRB.out.below hV (zL _)).more hV.size))
    rw [HNA.out, HNB.out] at HRC
    have r0a := (K1.out).cell 0; have r0b := (K1.out).cell 1; have r0c := (K1.out).cell 2; have r0d := (K1.out).cell 3; have r0e := (K1.out).frozen 0; have r0f := (K1.out).frozen 1; have r0g := (K1.out).frozen 2; have r0h := (K1.out).frozen 3; have r0l := (K1.out).lt; simp only [zA, zB, zC] at r0a r0b r0c r0d
    clear hrec
    go_wp2_with (first | (go_at_call 30; refine (HRC.out _ HB1.out).mono ?_; rintro e w2 ⟨rfl, hb2⟩; have HB2 := zz (bTrans HB1.out hb2); clear hb2))
    go_ret
    exact ⟨rfl, bAlloc HB2.out _⟩
  obtain ⟨hof, hx⟩ : ofB d a b = false ∧ (1 ≤ x ∧ x ≤ 16) := by
    unfold recOk at hrec
    simpa using hrec
  obtain ⟨hd, h63a, h63b⟩ := ofB_of hof
  obtain ⟨n, hn⟩ : ∃ n, min na nb = n := ⟨_, rfl⟩
  have hnm : n = min a.length b.length := by rw [HNA.out, HNB.out, hn]
  have hn1 : n ≤ 250 := by omega
  have HRC := zz (fun (V : World) (hV : Below w.heap.size w V) => record_good s d x y A B c c' a b n hnm V hs hof hx (by have := HNA.out; omega) (by have := HNB.out; omega) (by rw [HNA.out]; exact hca) (by rw [HNB.out]; exact hcb) ((HRA.out.below hV (zL _)).more hV.size) ((HRB.out.below hV (zL _)).more hV.size))
  have HSTS := zz (fun (V : World) (hV : Below w.heap.size w V) => rstates_any HST.out s d x y A B c c' a b (d.toNat + n) V hs hof (by rw [hnm]) (by have := HNA.out; omega) (by have := HNB.out; omega) ((HRA.out.below hV (zL _)).more hV.size) ((HRB.out.below hV (zL _)).more hV.size))
  have hinp : ∀ j, j < d.toNat + n → inpT d.toNat a b j = inpT d.toNat (a.take n) (b.take n) j := fun j hj => (inpT_cut (by rw [Nat.min_self]; exact hj)).symm
  rw [stsT_same hinp, preT_same hinp] at HSTS
  rw [HNA.out, HNB.out] at HRC HSTS
  have hcut := hapG_cut s d a b n hnm
  have hofc := ofB_take hof n n
  have hl1 : (a.take n).length = n := by rw [List.length_take]; omega
  have hl2 : (b.take n).length = n := by rw [List.length_take]; omega
  have h63a' : ∀ x ∈ a.take n, x < 64 := fun x hx => h63a x (List.mem_of_mem_take hx)
  have h63b' : ∀ x ∈ b.take n, x < 64 := fun x hx => h63b x (List.mem_of_mem_take hx)
  obtain ⟨L1, hL1⟩ : ∃ L, a.take n = L := ⟨_, rfl⟩
  obtain ⟨L2, hL2⟩ : ∃ L, b.take n = L := ⟨_, rfl⟩
  obtain ⟨H, hH⟩ : ∃ H, hapG s d a b = H := ⟨_, rfl⟩
  rw [hL1, hL2, hH] at HRC hcut
  rw [hL1, hL2] at hofc HSTS
  rw [hL1] at hl1 h63a'
  rw [hL2] at hl2 h63b'
  have HL1 := zz hl1
  have HL2 := zz hl2
  have HCUT := zz hcut
  have HOFC := zz hofc
  have HX := zz hx
  have H6A := zz h63a'
  have H6B := zz h63b'
  obtain ⟨F, hF⟩ : ∃ F, d.toNat + n = F := ⟨_, rfl⟩
  have HFE := zz hF
  rw [hF] at HSTS
  have hFz : F ≤ 258 := by omega
  have r0a := (K1.out).cell 0; have r0b := (K1.out).cell 1; have r0c := (K1.out).cell 2; have r0d := (K1.out).cell 3; have r0e := (K1.out).frozen 0; have r0f := (K1.out).frozen 1; have r0g := (K1.out).frozen 2; have r0h := (K1.out).frozen 3; have r0l := (K1.out).lt; simp only [zA, zB, zC] at r0a r0b r0c r0d
  clear hrec hof hx hn hnm hcut hofc hl1 hl2 hL1 hL2 hH h1 h2 hinp h63a h63b h63a' h63b' hF
  go_upto_region 6 with (first | (go_at_call 30; refine (HRC.out _ HB1.out).mono ?_; rintro e w2 ⟨A2, B2, cA, cB, rfl, ho1, ho2, hb2⟩; have HB2 := zz (bTrans HB1.out hb2); have K2 := zz (K1.out.on hb2); have HO1 := zz (ho1.more HB1.out.size); have HO2 := zz (ho2.more HB1.out.size); clear hb2 ho1 ho2))
  refine named1 (F := fun W => Code.wp _ _ _ _ W) ?_
  intro w3 k3 hb3 hz3
  have K3 := zz k3
  have K03 := zz (K2.out.on hb3)
  have HB3 := zz (bTrans HB2.out hb3)
  have HO13 := zz (HO1.out.below hb3)
  have HO23 := zz (HO2.out.below hb3)
  have hw3 : w.heap.size ≤ w2.heap.size := HB2.out.size
  obtain ⟨g13, hg13⟩ : ∃ g, w2.heap.size = g := ⟨_, rfl⟩
  rw [hg13] at K3 hw3 ⊢
  clear k3 hb3 hz3 HO1 HO2 HB2 hg13 r0a r0b r0c r0d r0e r0f r0g r0h r0l q1 q2 HB1 K1 K2 HRC
  have q7 := K3.out; have s0a := q7.cell 0; have s0b := q7.cell 1; have s0c := q7.cell 2; have s0d := q7.cell 3; have s0e := q7.cell 4; have s0f := q7.cell 5; have s0g := q7.cell 6; have s0l := q7.lt; simp only [zA, zB, zC] at s0a s0b s0c s0d s0e s0f s0g; clear q7
  by_cases hev : every < 1 ∨ 20000 < every
  · have HOA := zz (fun V => open_arg every s d x 0 (H : Int) A2 B2 n cA n cB V hev)
    by_cases h1 : every < 1
    · have e1 : decide (every < 1) = true := decide_eq_true h1
      clear h1 hev
      go_wp2_with (first | (go_at_call 31; refine (HOA.out _).mono ?_; rintro e w4 ⟨rfl, hb4⟩; have HB4 := zz (bTrans HB3.out hb4); clear hb4))
      go_ret
      exact ⟨rfl, HB4.out⟩
    · have e1 : decide (every < 1) = false := decide_eq_false h1
      have e2 : decide ((20000 : Int) < every) = true := decide_eq_true (by omega)
      clear h1 hev
      go_wp2_with (first | (go_at_call 31; refine (HOA.out _).mono ?_; rintro e w4 ⟨rfl, hb4⟩; have HB4 := zz (bTrans HB3.out hb4); clear hb4))
      go_ret
      exact ⟨rfl, HB4.out⟩
  have e1 : decide (every < 1) = false := decide_eq_false (by omega)
  have e2 : decide ((20000 : Int) < every) = false := decide_eq_false (by omega)
  obtain ⟨ev, rfl⟩ := Int.eq_ofNat_of_zero_le (show 0 ≤ every by omega)
  have hevn : 1 ≤ ev ∧ ev ≤ 20000 := by omega
  have hrt : rightTp d x 0 L1 L2 = true := by
    unfold rightTp
    have := HOFC.out
    simp [HX.out, this, HL1.out, HL2.out]
  have HOP := zz (open_good ev hevn s d x (H : Int) A2 B2 cA cB L1 L2 w3 hs hrt (congrArg Nat.cast HCUT.out) (by rw [HL1.out]; omega) HO13.out.rd HO23.out.rd)
  rw [HL1.out, HL2.out, HFE.out] at HOP
  clear hev hrt
  go_upto_region 12 with (first
    | (go_at_call 31; refine HOP.out.mono ?_; rintro e w5 ⟨gd, rfl, hgd, hdk, hb5⟩; have HDK := zz hdk; have HB5 := zz (bTrans HB3.out hb5); have K05 := zz (K03.out.on hb5); clear hdk hb5; have r5a := (K05.out).cell 0; have r5b := (K05.out).cell 1; have r5c := (K05.out).cell 2; have r5d := (K05.out).cell 3; have r5e := (K05.out).frozen 0; have r5f := (K05.out).frozen 1; have r5g := (K05.out).frozen 2; have r5h := (K05.out).frozen 3; have r5l := (K05.out).lt; simp only [zA, zB, zC] at r5a r5b r5c r5d)
    | (go_at_call 20; refine (HSTS.out _ HB5.out).mono ?_; rintro e w6 ⟨A6, A7, c6, c7, xs, rfl, hxs, hsf⟩; have HXS := zz hxs; have HSF := zz hsf; clear hxs hsf))
  have hks := keptS_length (inpT d.toNat L1 L2) (beginS s) ev (by omega) (F + 1)
  rw [show F + 1 + ev - 1 = F + ev from by omega, Nat.add_div_right _ (show 0 < ev by omega)] at hks
  obtain ⟨q, hq⟩ : ∃ q, F / ev = q := ⟨_, rfl⟩
  have hqF : q ≤ F := by rw [← hq]; exact Nat.div_le_self _ _
  rw [hq] at hks
  have hdv : (F : Int) / (ev : Int) = (q : Int) := by rw [← hq]; simp
  have hdk6 := HDK.out.on (HSF.out.bl)
  have HD6 := zz hdk6
  have HFR := zz (fun (X : Ext w6) => frames_deck (hdk6.on X.below))
  have HKP := zz (fun (X : Ext w6) => kept_deck (hdk6.on X.below))
  rw [hks, show (((q.succ : Nat)) : Int) = (q : Int) + 1 from by push_cast; rfl] at HKP
  have e3 : ((ev : Int) == 0) = false := by simp; omega
  have HB6 := zz (bTrans HB5.out HSF.out.bl)
  clear hks hq hdk6
  refine wp_region_mild (by kernel_rfl) (by kernel_rfl) ?_
  repeat (go_big_quiet_step ((first | (go_at_call 38; exact mild_same (HFR.out _)) | (go_at_call 39; exact mild_same (HKP.out _)))))
  refine wpQuiet_nil ?_
  intro w7 hw'
  obtain ⟨⟨wq, k7⟩, hw''⟩ := hw'
  subst hw''
  have HD7 := zz (HD6.out.on k7)
  have HS7 := zz (HSF.out.on k7)
  have HB7 := zz (bTrans HB6.out k7)
  clear HD6 HSF HB6 k7 HFR HKP HDK HB5 K05 HOP HSTS HRA HRB K03 K3 HO13 HO23 HB3 s0a s0b s0c s0d s0e s0f s0g s0l
  by_cases hin : 0 ≤ frame ∧ frame ≤ (F : Int)
  · obtain ⟨f, rfl⟩ := Int.eq_ofNat_of_zero_le hin.1
    have hfF : f ≤ F := by omega
    have HFF : Hid ((F : Int) = d + (min L1.length L2.length : Nat)) := zz (by rw [HL1.out, HL2.out, Nat.min_self, ← HFE.out]; push_cast; omega)
    have HSK := zz (seek_all s d x (H : Int) L1 L2 n ev F w3.heap.size gd (f : Int) w7 hs hd HFF.out HL1.out HL2.out (by omega) hevn H6A.out H6B.out HD7.out ⟨by omega, by omega⟩)
    rw [Int.toNat_natCast] at HSK
    have hfl : f < (stsT (inpT d.toNat L1 L2) (beginS s) F).length := by rw [stsT_length]; omega
    have hrow := HS7.out.sr.rd.at_ stCells_length (by decide) hfl
    have hsf : (stsT (inpT d.toNat L1 L2) (beginS s) F)[f] = stT (inpT d.toNat L1 L2) (beginS s) f := stsT_get _ _ _ _ hfl
    rw [hsf] at hrow
    obtain ⟨bs, os, hbs, hbl, hcl⟩ := hrow
    subst hbs
    obtain ⟨T, hT⟩ : ∃ T, stT (inpT d.toNat L1 L2) (beginS s) f = T := ⟨_, rfl⟩
    rw [hT] at HSK hcl
    obtain ⟨CT, hct⟩ : ∃ CT : List Value, stCells T = CT := ⟨_, rfl⟩
    have HNQ : Hid (∀ W : World, (binOp .neq 41 (.agg CT.toArray) (.agg CT.toArray)).run Tryz.prog W = .ok (.bool false) W) := zz (fun W => by rw [← hct]; exact st_neq T W)
    have hlc : CT.length = 60 := by rw [← hct, stCells_length]
    have HLC := zz hlc
    have HON : Hid (CT.toArray.all (·.oneCell') = true) := zz (by rw [← hct]; exact all_oneCell_toArray (int_one _))
    have HSZ : Hid ((Tryz.prog.info? 41).map (·.size) = some CT.length) := zz (by rw [hlc]; kernel_rfl)
    rw [hct] at HSK hcl
    have HCL := zz hcl
    have hrm : f % ev < ev := Nat.mod_lt _ (by omega)
    have hmd : ((f : Int) % (ev : Int)) = ((f % ev : Nat) : Int) := by simp
    obtain ⟨r, hr⟩ : ∃ r, f % ev = r := ⟨_, rfl⟩
    rw [hr] at HSK hrm hmd
    have e5 : decide (F < f) = false := decide_eq_false (by omega)
    have e8 : decide (ev ≤ r) = false := decide_eq_false (by omega)
    clear hsf hcl hT hct hlc hr hin
    go_upto_region 15 with (first
      | (go_at_call 40; refine HSK.out.mono ?_; rintro e w8 ⟨rfl, hb8⟩; have HB8 := zz hb8; clear hb8)
      | (refine wpList_store_mid rfl 41 (.tmp 19) (.tmp 92) rfl w8.heap.size 0 CT.toArray rfl rfl (there_new _ _ _ (by rw [show CT.toArray.size = 60 from by rw [zM, HLC.out]]; rfl)) (by rw [zM]; exact HSZ.out) HON.out ?_))
    refine named_put (F := fun W => Code.wp _ _ _ _ W) (by rw [zK, show CT.toArray.size = 60 from by rw [zM, HLC.out]]; rfl) ?_
    intro w9 k9 hb9 hz9
    rw [zJ] at k9
    have K9 := zz k9
    have HB9 := zz (bTrans HB8.out hb9)
    have l9 := k9.lt
    have lbs : bs < w9.heap.size := Nat.lt_of_lt_of_le hbl HB9.out.size
    have HRG : Hid (w9.rangeAt bs (os + f * 60) CT) := zz (fun i v hv => (HB9.out.cell (p := ⟨bs, os + f * 60 + i, none⟩) hbl).trans (HCL.out i v hv))
    have e9 : (f : Int) < ((F + 1 : Nat) : Int) := by omega
    clear k9 hb9 hz9
    go_upto_region 18 with fail
    refine wp_region_mixedY [.held, .pure, .pure, .pure, .held, .pure, .pure, .pure, .pure, .pure, .pure, .pure, .pure, .pure, .pure, .pure, .pure, .pure, .pure, .pure, .pure, .pure] (fun _ => ⟨fun _ => True, fun _ _ => True⟩) (by kernel_rfl) (by kernel_rfl) ?_
    refine mixY_load rfl rfl 41 (.tmp 19) rfl w8.heap.size 0 rfl CT _ l9 (Blk.range K9.out) Tryz.underlying41 rfl HSZ.out ?_
    simp only [Act.put, zD, zE, zF]
    repeat (refine mixY_pure rfl rfl rfl (fun K hK => ?_); go_big_quiet_op; refine hK _ ?_; clear hK K)
    refine mixY_load rfl rfl 41 (.tmp 117) rfl bs (os + f * 60) rfl CT _ lbs HRG.out Tryz.underlying41 rfl HSZ.out ?_
    simp only [Act.put, zD, zE, zF]
    refine mixY_run (.bool false) rfl rfl (runs_neq rfl rfl rfl (by kernel_rfl) HNQ.out) ?_
    simp only [Act.put, zD, zE, zF]
    repeat (first | (refine mixY_pure rfl rfl rfl (fun K hK => ?_); go_big_quiet_op; refine hK _ ?_; clear hK K) | (refine mixY_skip rfl ?_; simp only [Act.put, zD, zE, zF]))
    refine mixY_nil ?_
    intro w10 hW10
    have HB10 := zz (bTrans HB9.out hW10.1)
    clear hW10
    by_cases hto : (f : Int) ≤ to_ ∧ to_ ≤ (F : Int)
    · obtain ⟨t, rfl⟩ := Int.eq_ofNat_of_zero_le (show 0 ≤ to_ by omega)
      have hft : f ≤ t := by omega
      have htF : t ≤ F := by omega
      have HPI := zz (fun (V : World) (hV : Below w7.heap.size w7 V) => play_in s d x (H : Int) L1 L2 n ev F f t w3.heap.size gd V hs hd HFF.out HL1.out HL2.out (by omega) hevn hft htF H6A.out H6B.out (HD7.out.on hV))
      have e6 : decide (t < f) = false := decide_eq_false (by omega)
      have e7 : decide (F < t) = false := decide_eq_false (by omega)
      have hxl : xs.length = F := by
        have := congrArg List.length HXS.out
        rwa [List.length_map, preT_length] at this
      have hxc : ∀ p (hp : p < xs.length), xs[p].L = evP (inpT d.toNat L1 L2) (beginS s) F p := fun p hp => by
        have h1 : (xs.map TrR.core)[p]? = some (rdT (inpT d.toNat L1 L2) (beginS s) p) := by rw [HXS.out]; exact preT_get _ _ _ _ (by omega)
        rw [List.getElem?_map, List.getElem?_eq_getElem hp] at h1
        have h2 : xs[p].core = rdT (inpT d.toNat L1 L2) (beginS s) p := Option.some.inj h1
        unfold evP
        rw [if_pos (by omega), ← h2]
        rfl
      have HXL := zz hxl
      have HXC := zz hxc
      obtain ⟨k8, hk8⟩ : ∃ k8, t - f = k8 := ⟨_, rfl⟩
      have hsub : (t : Int) - (f : Int) = (k8 : Int) := by omega
      have HKE := zz hk8
      clear hxl hxc hto hk8
      go_upto_region 25 with (first | (go_at_call 41; refine (HPI.out _ HB10.out).mono ?_; rintro e w11 ⟨A8, c8, ys, rfl, hyl, hyc, hyo, hye, hb11⟩
                                       rw [HKE.out] at hyl
                                       rw [hyl] at hyo ⊢
                                       have HYL := zz hyl; have HYC := zz hyc; have HYO := zz hyo; have HYE := zz hye; have HB11 := zz (bTrans HB10.out hb11); clear hyl hyc hyo hye hb11))
      go_wp2_with fail
      go_loopw [24] (fun v wr => ∃ j : Nat, j ≤ k8 ∧ v = .int .i64 j ∧ Hid (Below w11.heap.size w11 wr)) (fun v _ => k8 - (intOf v).toNat)
      case atStart => exact ⟨0, Nat.zero_le _, rfl, zz (Below.refl _ _)⟩
      case round =>
        obtain ⟨j, hj, rfl, HB⟩ := hrel
        by_cases hlt : j < k8
        · have hjy : j < ys.length := by rw [HYL.out]; exact hlt
          obtain ⟨p, hp⟩ : ∃ p, f + j = p := ⟨_, rfl⟩
          have hpF : p < F := by have := HKE.out; omega
          have hpx : p < xs.length := by rw [HXL.out]; exact hpF
          obtain ⟨y1, y2⟩ := HYC.out j hjy
          rw [hp] at y1 y2
          have z2 := HXC.out p hpx
          have hBr : Below w7.heap.size w7 wr := bTrans HB11.out HB.out
          obtain ⟨bp, op, hbp, hblp, hcp⟩ := (HYO.out.below HB.out).rd.at_ pgD_length (by decide) hjy
          obtain ⟨be, oe, hbe, hble, hce⟩ := (HS7.out.er.below hBr).rd.at_ evC_length (by decide) hpx
          subst hbp hbe
          have u0 := hcp 0 _ rfl
          have u1 := hcp 1 _ rfl
          have v0 := hce 0 _ rfl
          rw [Nat.add_zero] at u0 v0
          rw [Nat.mul_one] at v0
          rw [y1] at u0
          have hr1 := ((HYE.out ys[j] (List.getElem_mem hjy)).1.below HB.out).rd
          have hr2 := ((HS7.out.ev xs[p] (List.getElem_mem hpx)).1.below hBr).rd
          have hl1 := (HYE.out ys[j] (List.getElem_mem hjy)).2
          obtain ⟨LY, hLY⟩ : ∃ LY, ys[j].L = LY := ⟨_, rfl⟩
          have hLX : xs[p].L = LY := by rw [z2, ← y2, hLY]
          rw [hLY] at hr1 u1 hl1
          rw [hLX] at hr2 v0
          obtain ⟨AY, hAY⟩ : ∃ AY, ys[j].A = AY := ⟨_, rfl⟩
          obtain ⟨cY, hcY⟩ : ∃ cY, ys[j].c = cY := ⟨_, rfl⟩
          obtain ⟨AX, hAX⟩ : ∃ AX, xs[p].A = AX := ⟨_, rfl⟩
          obtain ⟨cX, hcX⟩ : ∃ cX, xs[p].c = cX := ⟨_, rfl⟩
          rw [hAY] at hr1 u1
          rw [hcY] at u1
          rw [hAX] at hr2 v0
          rw [hcX] at v0
          have HSM := zz (fun (X : Ext wr) => same_any AY AX cY cX LY LY X.world (by omega) ((hr1.below X.below (zL _)).more X.below.size) ((hr2.below X.below (zL _)).more X.below.size))
          rw [decide_eq_true (rfl : LY = LY)] at HSM
          obtain ⟨nl, hnl⟩ : ∃ nl, LY.length = nl := ⟨_, rfl⟩
          rw [hnl] at HSM u1 v0
          have hpi : (f : Int) + (j : Int) = (p : Int) := by rw [← hp]; push_cast; rfl
          have i1 : (0 : Int) ≤ (j : Int) := Int.natCast_nonneg _
          have i2 : (j : Int) < (k8 : Int) := by omega
          have i3 : (0 : Int) ≤ (p : Int) := Int.natCast_nonneg _
          have i4 : (p : Int) < (F : Int) := by omega
          have i5 : ((p : Int) != (p : Int)) = false := by simp
          clear y1 y2 z2 hcp hce hr1 hr2 hl1 hLY hLX hAY hcY hAX hcX hnl hp
          go_upto_region 28 with fail
          refine wp_region_mild (by kernel_rfl) (by kernel_rfl) ?_
          repeat (go_big_quiet_step ((go_at_call 21; exact mild_of (HSM.out _))))
          refine wpQuiet_nil ?_
          intro w12 hw'
          obtain ⟨⟨wq, k12⟩, hw''⟩ := hw'
          subst hw''
          go_wp2_with fail
          go_roundw
          case rel => exact ⟨j + 1, by omega, by go_num, zz (bTrans HB.out k12)⟩
          case measure => simp [intOf]; omega
        · obtain rfl : j = k8 := by omega
          go_wp2_with fail
          go_ret
          exact ⟨rfl, bTrans HB7.out (bTrans HB11.out HB.out)⟩
    · have HPO := zz (fun (V : World) (hV : Below w7.heap.size w7 V) => play_out (HD7.out.on hV) (f : Int) to_ (by omega))
      by_cases h2 : to_ < (f : Int)
      · have e6 : decide (to_ < (f : Int)) = true := decide_eq_true h2
        clear hto h2
        go_wp2_with (first | (go_at_call 41; refine (HPO.out _ HB10.out).mono ?_; rintro e w11 ⟨rfl, hb11⟩; have HB11 := zz (bTrans HB10.out hb11); clear hb11))
        go_ret
        exact ⟨rfl, bTrans HB7.out HB11.out⟩
      · have e6 : decide (to_ < (f : Int)) = false := decide_eq_false h2
        have e7 : decide ((F : Int) < to_) = true := decide_eq_true (by omega)
        clear hto h2
        go_wp2_with (first | (go_at_call 41; refine (HPO.out _ HB10.out).mono ?_; rintro e w11 ⟨rfl, hb11⟩; have HB11 := zz (bTrans HB10.out hb11); clear hb11))
        go_ret
        exact ⟨rfl, bTrans HB7.out HB11.out⟩
  · have HSO := zz (seek_out HD7.out frame (by omega))
    have HPO := zz (fun (V : World) (hV : Below w7.heap.size w7 V) => play_out (HD7.out.on hV) frame to_ (by omega))
    obtain ⟨CZ, hcz⟩ : ∃ CZ : Array Value, (stCells zeroT).toArray = CZ := ⟨_, rfl⟩
    have hbz := built_zero
    rw [hcz] at hbz HSO
    have HBT := zz hbz
    have hsz : CZ.size = 60 := by rw [← hcz, zM, stCells_length]
    have H1C : Hid (CZ.all (·.oneCell') = true) := zz (by rw [← hcz]; exact all_oneCell_toArray (int_one _))
    have HSZ : Hid ((Tryz.prog.info? 41).map (·.size) = some CZ.size) := zz (by rw [hsz]; kernel_rfl)
    have HNQ : Hid (∀ W : World, (binOp .neq 41 (.agg CZ) (.agg CZ)).run Tryz.prog W = .ok (.bool false) W) := zz (fun W => by rw [← hcz]; exact st_neq zeroT W)
    have HSI := zz hsz
    clear hbz hsz hcz
    by_cases h1 : frame < 0
    · have e4 : decide (frame < 0) = true := decide_eq_true h1
      clear hin h1
      go_upto_region 15 with (first
        | (go_at_call 40; refine HSO.out.mono ?_; rintro e w8 ⟨rfl, hb8⟩; have HB8 := zz hb8; clear hb8)
        | (refine wpList_store_mid rfl 41 (.tmp 19) (.tmp 92) rfl w8.heap.size 0 CZ rfl rfl (there_new _ _ _ (by rw [HSI.out]; rfl)) HSZ.out H1C.out ?_))
      refine named_put (F := fun W => Code.wp _ _ _ _ W) (by rw [zK, HSI.out]; rfl) ?_
      intro w9 k9 hb9 hz9
      have K9 := zz k9
      have HB9 := zz (bTrans HB8.out hb9)
      have l9 := k9.lt
      clear k9 hb9 hz9
      go_upto_region 20 with (first
        | (refine wpList_load_mid rfl 41 (.tmp 19) rfl w8.heap.size 0 rfl CZ.toList _ (Blk.range K9.out) Tryz.underlying41 rfl (by rw [zK]; exact HSZ.out) ?_; rw [zJ])
        | (refine wpList_built rfl 41 [] rfl CZ [] rfl HBT.out ?_)
        | (refine wpList_runs (.bool false) rfl (runs_neq rfl rfl rfl (by kernel_rfl) HNQ.out _) ?_))
      go_wp2_with (first | (go_at_call 41; refine (HPO.out _ HB9.out).mono ?_; rintro e w10 ⟨rfl, hb10⟩; have HB10 := zz (bTrans HB9.out hb10); clear hb10))
      go_ret
      exact ⟨rfl, bTrans HB7.out HB10.out⟩
    · have e4 : decide (frame < 0) = false := decide_eq_false h1
      have e5 : decide ((F : Int) < frame) = true := decide_eq_true (by omega)
      by_cases h2 : to_ < frame
      · have e6 : decide (to_ < frame) = true := decide_eq_true h2
        clear hin h1 h2
        go_upto_region 15 with (first
          | (go_at_call 40; refine HSO.out.mono ?_; rintro e w8 ⟨rfl, hb8⟩; have HB8 := zz hb8; clear hb8)
          | (refine wpList_store_mid rfl 41 (.tmp 19) (.tmp 92) rfl w8.heap.size 0 CZ rfl rfl (there_new _ _ _ (by rw [HSI.out]; rfl)) HSZ.out H1C.out ?_))
        refine named_put (F := fun W => Code.wp _ _ _ _ W) (by rw [zK, HSI.out]; rfl) ?_
        intro w9 k9 hb9 hz9
        have K9 := zz k9
        have HB9 := zz (bTrans HB8.out hb9)
        have l9 := k9.lt
        clear k9 hb9 hz9
        go_upto_region 20 with (first
          | (refine wpList_load_mid rfl 41 (.tmp 19) rfl w8.heap.size 0 rfl CZ.toList _ (Blk.range K9.out) Tryz.underlying41 rfl (by rw [zK]; exact HSZ.out) ?_; rw [zJ])
          | (refine wpList_built rfl 41 [] rfl CZ [] rfl HBT.out ?_)
          | (refine wpList_runs (.bool false) rfl (runs_neq rfl rfl rfl (by kernel_rfl) HNQ.out _) ?_))
        go_wp2_with (first | (go_at_call 41; refine (HPO.out _ HB9.out).mono ?_; rintro e w10 ⟨rfl, hb10⟩; have HB10 := zz (bTrans HB9.out hb10); clear hb10))
        go_ret
        exact ⟨rfl, bTrans HB7.out HB10.out⟩
      · have e6 : decide (to_ < frame) = false := decide_eq_false h2
        have e7 : decide ((F : Int) < to_) = true := decide_eq_true (by omega)
        clear hin h1 h2
        go_upto_region 15 with (first
          | (go_at_call 40; refine HSO.out.mono ?_; rintro e w8 ⟨rfl, hb8⟩; have HB8 := zz hb8; clear hb8)
          | (refine wpList_store_mid rfl 41 (.tmp 19) (.tmp 92) rfl w8.heap.size 0 CZ rfl rfl (there_new _ _ _ (by rw [HSI.out]; rfl)) HSZ.out H1C.out ?_))
        refine named_put (F := fun W => Code.wp _ _ _ _ W) (by rw [zK, HSI.out]; rfl) ?_
        intro w9 k9 hb9 hz9
        have K9 := zz k9
        have HB9 := zz (bTrans HB8.out hb9)
        have l9 := k9.lt
        clear k9 hb9 hz9
        go_upto_region 20 with (first
          | (refine wpList_load_mid rfl 41 (.tmp 19) rfl w8.heap.size 0 rfl CZ.toList _ (Blk.range K9.out) Tryz.underlying41 rfl (by rw [zK]; exact HSZ.out) ?_; rw [zJ])
          | (refine wpList_built rfl 41 [] rfl CZ [] rfl HBT.out ?_)
          | (refine wpList_runs (.bool false) rfl (runs_neq rfl rfl rfl (by kernel_rfl) HNQ.out _) ?_))
        go_wp2_with (first | (go_at_call 41; refine (HPO.out _ HB9.out).mono ?_; rintro e w10 ⟨rfl, hb10⟩; have HB10 := zz (bTrans HB9.out hb10); clear hb10))
        go_ret
        exact ⟨rfl, bTrans HB7.out HB10.out⟩
end
end Go.Proofs.YtibeihcpehikoaaGreat
