/-
  The walks beneath: TapS, StRow.
-/
import Derived.Test.YtibeihcpehikoaaGreatNl6
namespace Go.Proofs.YtibeihcpehikoaaGreat
open Go.RowKit
set_option maxRecDepth 100000
set_option maxHeartbeats 8000000
set_option linter.unusedSimpArgs false
section
attribute [local irreducible] wpMixU
theorem Rd.bt_take {w : World} {B : Nat} {A : Option Addr} {a : List Nat} (h : Rd w B A (a.flatMap btC)) (n : Nat) : Rd w B A ((a.take n).flatMap btC) := fun hne => by
 have hne0 : a.flatMap btC ≠ [] := fun h0 => hne (by
  have : a = [] := by cases a with | nil => rfl | cons p q => simp [btC] at h0
  rw [this, List.take_nil]; rfl)
 obtain ⟨bk, off, e, hlt, hc⟩ := h hne0
 refine ⟨bk, off, e, hlt, fun j u hu => hc j u ?_⟩
 have e2 : a.flatMap btC = (a.take n).flatMap btC ++ (a.drop n).flatMap btC := by rw [← List.flatMap_append, List.take_append_drop]
 rw [e2, List.getElem?_append_left (List.getElem?_eq_some_iff.1 hu).1]
 exact hu
theorem zero_tape (W : World) : (zeroValue 76).run Tryz.prog W = .ok (.agg #[.int .u32 0, .int .i64 0, .int .i64 0, .int .i64 0, .slice none 0 0, .slice none 0 0, .int .u32 0]) W := by kernel_rfl
theorem built_tape (s d x y H : Int) : Tryz.prog.built 76 [(0, .agg #[.int .u32 s, .int .i64 d, .int .i64 x, .int .i64 y]), (3, .int .u32 H)] = some #[.int .u32 s, .int .i64 d, .int .i64 x, .int .i64 y, .slice none 0 0, .slice none 0 0, .int .u32 H] := by kernel_rfl
theorem record_good (s d x y : Int) (A B : Option Addr) (c c' : Nat) (a b : List Nat) (n : Nat) (hn : n = min a.length b.length) (w : World) (hs : U32 s) (hof : ofB d a b = false) (hx : 1 ≤ x ∧ x ≤ 16) (ha : a.length ≤ 1000) (hb : b.length ≤ 1000) (hca : a.length ≤ c) (hcb : b.length ≤ c') (ra : Rd w w.heap.size A (a.flatMap btC)) (rb : Rd w w.heap.size B (b.flatMap btC)) :
  Calls Tryz.prog 30 #[.agg #[.int .u32 s, .int .i64 d, .int .i64 x, .int .i64 y], .slice A a.length c, .slice B b.length c'] w fun e w' => ∃ (A' B' : Option Addr) (cA cB : Nat), e = .returned (.tuple #[.agg #[.int .u32 s, .int .i64 d, .int .i64 x, .int .i64 0, .slice A' n cA, .slice B' n cB, .int .u32 (hapG s d a b : Nat)], .int .i64 0]) ∧
   OwnL w' w.heap.size 5 1 (.slice A' n cA) btC (a.take n) ∧ OwnL w' w.heap.size 5 1 (.slice B' n cB) btC (b.take n) ∧ Below w.heap.size w w' := by
 have hd : 0 ≤ d ∧ d ≤ 8 := by
  unfold ofB at hof
  simp only [Bool.or_eq_false_iff, decide_eq_false_iff_not] at hof
  omega
 have HPG := zz (fun (V : World) (hV : Below w.heap.size w V) => pages_good s d x y A B c c' a b (d.toNat + min a.length b.length) V hs hof (by omega) ha hb ((ra.below hV (zL _)).more hV.size) ((rb.below hV (zL _)).more hV.size))
 have HPH := zz (fun (xs : List TrR) => pages_hap (xs := xs) hs hd ha hb)
 have HWI := zz (fun (V : World) => window_any s d x y V)
 rw [decide_eq_true hx] at HWI
 have HRA : Hid (∀ V, Below w.heap.size w V → Rd V w.heap.size A ((a.take n).flatMap btC)) := zz (fun V hV => (ra.below hV (zL _)).bt_take n)
 have HRB : Hid (∀ V, Below w.heap.size w V → Rd V w.heap.size B ((b.take n).flatMap btC)) := zz (fun V hV => (rb.below hV (zL _)).bt_take n)
 have HTA : Hid ((a.take n).length = n) := zz (by rw [List.length_take]; omega)
 have HTB : Hid ((b.take n).length = n) := zz (by rw [List.length_take]; omega)
 obtain ⟨na, hna⟩ : ∃ na, a.length = na := ⟨_, rfl⟩
 obtain ⟨nb, hnb⟩ : ∃ nb, b.length = nb := ⟨_, rfl⟩
 obtain ⟨H, hH⟩ : ∃ H, hapG s d a b = H := ⟨_, rfl⟩
 obtain ⟨L1, hL1⟩ : ∃ L, a.take n = L := ⟨_, rfl⟩
 obtain ⟨L2, hL2⟩ : ∃ L, b.take n = L := ⟨_, rfl⟩
 rw [hna, hnb] at HPG HPH hn
 rw [hna] at hca ha ⊢
 rw [hnb] at hcb hb ⊢
 rw [hH] at HPH ⊢
 rw [hL1] at HRA HTA ⊢
 rw [hL2] at HRB HTB ⊢
 clear ra rb hna hnb hof hd hH hL1 hL2
 go_enter Tryz.func30, Tryz.ntmps30
 go_upto_region 1 with fail
 refine named2 (F := fun W => Code.wp _ _ _ _ W) ?_
 intro w1 k0 k6 hb1 hz1
 have r0a := (k0).cell 0; have r0b := (k0).cell 1; have r0c := (k0).cell 2; have r0d := (k0).cell 3; have r0e := (k0).frozen 0; have r0f := (k0).frozen 1; have r0g := (k0).frozen 2; have r0h := (k0).frozen 3; have r0l := (k0).lt; simp only [zA, zB, zC] at r0a r0b r0c r0d
 have K0 := zz k0
 have K6 := zz k6
 clear k0 k6
 go_upto_region 4 with (first
  | (go_at_call 16; refine (HPG.out _ hb1).mono ?_; rintro e w3 ⟨A', cp, xs, rfl, hcr, hown, hrows, hb3⟩; have HB3 := zz (bTrans hb1 hb3); have K3 := zz (K0.out.on hb3); have K63 := zz (K6.out.on hb3); have HCR := zz hcr; have HOWN := zz hown; have HROWS := zz hrows; clear hb3 hcr hown hrows))
 obtain ⟨hxl, hxo, hxs⟩ := HPH.out xs HCR.out
 have HXL := zz hxl
 have HXO := zz hxo
 have HXS := zz hxs
 obtain ⟨nx, hnx⟩ : ∃ nx, xs.length = nx := ⟨_, rfl⟩
 have HNX := zz hnx
 rw [hnx] at HOWN ⊢
 have hw1 : w.heap.size < w1.heap.size := by omega
 clear r0a r0b r0c r0d r0e r0f r0g r0h r0l
 have s0a := (K3.out).cell 0; have s0b := (K3.out).cell 1; have s0c := (K3.out).cell 2; have s0d := (K3.out).cell 3; have s0e := (K3.out).frozen 0; have s0f := (K3.out).frozen 1; have s0g := (K3.out).frozen 2; have s0h := (K3.out).frozen 3; have s0l := (K3.out).lt; simp only [zA, zB, zC] at s0a s0b s0c s0d
 clear hxl hxo hxs hnx HCR HPG HPH K0 K6 hb1 hz1
 go_upto_region 6 with (first
  | (go_at_call 83; refine (HWI.out _).mono ?_; rintro e w4 ⟨rfl, hb4⟩; have HB4 := zz hb4; clear hb4))
 have HB34 := zz (bTrans HB3.out HB4.out)
 have K4 := zz (K3.out.on HB4.out)
 have K64 := zz (K63.out.on HB4.out)
 have HOW4 := zz (HOWN.out.below HB4.out)
 have HRO4 : Hid (∀ r ∈ xs, OwnL w4 w1.heap.size 62 9 (.slice r.A r.L.length r.c) Ev.cells r.L) := zz (fun r hr => (HROWS.out r hr).1.below HB4.out)
 clear s0a s0b s0c s0d s0e s0f s0g s0h s0l HB3 HB4 K3 K63 HWI HOWN HROWS
 have t0a := (K4.out).cell 0; have t0b := (K4.out).cell 1; have t0c := (K4.out).cell 2; have t0d := (K4.out).cell 3; have t0e := (K4.out).frozen 0; have t0f := (K4.out).frozen 1; have t0g := (K4.out).frozen 2; have t0h := (K4.out).frozen 3; have t0l := (K4.out).lt; simp only [zA, zB, zC] at t0a t0b t0c t0d
 have hmi : min (na : Int) (nb : Int) = (n : Int) := by omega
 have hmn : n ≤ na ∧ n ≤ nb := by omega
 clear hn
 go_upto_region 8 with fail
 obtain ⟨w5, hw5⟩ : ∃ w5, w5 = w4.setCell ⟨w.heap.size, 3, none⟩ (.int .i64 0) := ⟨_, rfl⟩
 have k5 : Blk w5 w.heap.size 24 #[.int .u32 s, .int .i64 d, .int .i64 x, .int .i64 0] := by rw [hw5]; exact K4.out.set 3 (.int .i64 0)
 have k65 : Blk w5 (w.heap.size + 1) 76 #[.int .u32 0, .int .i64 0, .int .i64 0, .int .i64 0, .slice none 0 0, .slice none 0 0, .int .u32 0] := by rw [hw5]; exact K64.out.farG (by omega) 3 _
 have hb5 : Below w.heap.size w w5 := by rw [hw5]; exact bSetG HB34.out (zL _) 3 _
 have ho5 : OwnL w5 w1.heap.size 54 2 (.slice A' nx cp) pgC xs.zipIdx := by rw [hw5]; exact HOW4.out.farG (HOW4.out.ne_low hw1) 3 _
 have hr5 : ∀ r ∈ xs, OwnL w5 w1.heap.size 62 9 (.slice r.A r.L.length r.c) Ev.cells r.L := fun r hr => by rw [hw5]; exact (HRO4.out r hr).farG ((HRO4.out r hr).ne_low hw1) 3 _
 have HHP : Hid (∀ V, Below w5.heap.size w5 V → Calls Tryz.prog 84 #[.slice A' nx cp] V fun e w' => e = .returned (.int .u32 (H : Nat)) ∧ Below V.heap.size V w') := zz (fun V hV => by
  have h := hap_any A' cp xs V HXL.out (ho5.below hV).rd (fun r hr => ((hr5 r hr).below hV).rd) HXO.out
  rw [HXS.out, HNX.out] at h
  exact h)
 rw [← hw5]
 have K5 := zz k5
 have K65 := zz k65
 have HB5 := zz hb5
 clear hw5 k5 k65 hb5 ho5 hr5 HOW4 HRO4 K4 K64 HB34 t0a t0b t0c t0d t0e t0f t0g t0h t0l hw1 HXL HXO HXS HNX hmi
 have t0a := (K5.out).cell 0; have t0b := (K5.out).cell 1; have t0c := (K5.out).cell 2; have t0d := (K5.out).cell 3; have t0e := (K5.out).frozen 0; have t0f := (K5.out).frozen 1; have t0g := (K5.out).frozen 2; have t0h := (K5.out).frozen 3; have t0l := (K5.out).lt; simp only [zA, zB, zC] at t0a t0b t0c t0d
 have hKp := Keeps.base w5
 refine wp_region_mixedT [.held, .pure, .make, .pure, .make, .tail] (fun | 2 => valF (.int .u32 (H : Nat)) | _ => newTold w5 76 #[.int .u32 0, .int .i64 0, .int .i64 0, .int .i64 0, .slice none 0 0, .slice none 0 0, .int .u32 0]) (by kernel_rfl) (by kernel_rfl) ?_
 repeat (first | (refine mix_pure rfl rfl rfl (fun K hK => ?_); go_big_quiet_op; refine hK _ ?_; clear hK K) | (refine mix_held rfl rfl rfl (by assumption) (fun K hK => ?_); go_big_quiet_op; refine hK _ ?_; clear hK K))
 refine mix_make rfl rfl (by assumption) valF_st (fun V hV => ?_) ?_
 ·have HS2 := zz (valF_of (HHP.out V hV))
  go_simp
  exact HS2.out
 rintro _ rfl hKp2
 simp only [Act.put, zD, zE, zF]
 refine mix_built rfl rfl 76 [(0, .tmp 35), (3, .tmp 37)] rfl _ _ rfl (built_tape s d x 0 (H : Nat)) ?_
 simp only [Act.put, zD, zE, zF]
 refine mix_make rfl rfl (by assumption) newTold_st (newTold_makes rfl zero_tape rfl) ?_
 rintro v ⟨g6, rfl⟩ hKp4
 simp only [Act.put, zD, zE, zF]
 refine mix_store rfl rfl 76 (.tmp 11) (.tmp 38) rfl g6 0 #[.int .u32 s, .int .i64 d, .int .i64 x, .int .i64 0, .slice none 0 0, .slice none 0 0, .int .u32 (H : Nat)] rfl rfl (fun V hV => ?_) (by kernel_rfl) (by simp [Value.oneCell']) ?_
 ·exact Blk.there (hV.2 g6 rfl).2 (by show 0 + 7 ≤ 7; decide)
 simp only [Act.put, zD, zE, zF]
 refine mix_nil ?_
 rintro V' ⟨V, hD, rfl⟩
 obtain ⟨⟨hg, -⟩, hR⟩ := hD
 obtain ⟨hge6, hBg⟩ := hR g6 rfl
 have hg : Grown w5 V := hg
 have hz5 := K65.out.lt
 have hn6 := hBg.whole [.int .u32 s, .int .i64 d, .int .i64 x, .int .i64 0, .slice none 0 0, .slice none 0 0, .int .u32 (H : Nat)] rfl
 have hk65 := (K65.out.on hg).farC (show w.heap.size + 1 ≠ g6 by omega) 0 [.int .u32 s, .int .i64 d, .int .i64 x, .int .i64 0, .slice none 0 0, .slice none 0 0, .int .u32 (H : Nat)]
 have hb6 := bSetCells hg hge6 0 [.int .u32 s, .int .i64 d, .int .i64 x, .int .i64 0, .slice none 0 0, .slice none 0 0, .int .u32 (H : Nat)]
 obtain ⟨w6, hw6⟩ : ∃ w6, V.setCells g6 0 [.int .u32 s, .int .i64 d, .int .i64 x, .int .i64 0, .slice none 0 0, .slice none 0 0, .int .u32 (H : Nat)] = w6 := ⟨_, rfl⟩
 rw [hw6] at hn6 hk65 hb6
 first | rw [hw6] | (show Exit.then _ _ _ _ (V.setCells g6 0 [.int .u32 s, .int .i64 d, .int .i64 x, .int .i64 0, .slice none 0 0, .slice none 0 0, .int .u32 (H : Nat)]); rw [hw6])
 have K6 := zz hn6
 have K66 := zz hk65
 have HB6 := zz (bTrans HB5.out hb6)
 have hg61 : w.heap.size + 1 < g6 := by omega
 clear hw6 hn6 hk65 hb6 hg hge6 hBg hR hKp hKp2 hKp4 K5 K65 HB5 HHP t0a t0b t0c t0d t0e t0f t0g t0h t0l hz5
 have q7 := K6.out; have s0a := q7.cell 0; have s0b := q7.cell 1; have s0c := q7.cell 2; have s0d := q7.cell 3; have s0e := q7.cell 4; have s0f := q7.cell 5; have s0g := q7.cell 6; have s0l := q7.lt; simp only [zA, zB, zC] at s0a s0b s0c s0d s0e s0f s0g; clear q7
 go_upto_region 9 with fail
 have e6 : (Value.slice A na c) = .slice A na c := rfl
 refine wp_region_mixedU [.pure, .held, .pure, .pure, .pure, .make, .pure, .held, .pure, .pure, .pure, .make, .pure, .tail, .pure, .tail] (by kernel_rfl) (by kernel_rfl) ?_
 (refine mixU_pure rfl rfl rfl (fun K hK => ?_); go_big_quiet_op; refine hK _ ?_; clear hK K)
 (refine mixU_held rfl rfl rfl (by first | exact fun _ h => h | exact fun _ h => h.2) (fun K hK => ?_); go_big_quiet_op; refine hK _ ?_; clear hK K)
 repeat (refine mixU_pure rfl rfl rfl (fun K hK => ?_); go_big_quiet_op; refine hK _ ?_; clear hK K)
 have h1 := HTA.out
 have h2 := HTB.out
 have hnl : n ≤ 1000 := by omega
 have hz6 := HB6.out.size
 refine mixU_act rfl rfl (fun _ h => h) (fun v => ∃ A' c', v = .slice A' n c') (fun v W => OwnL W w.heap.size 5 1 v btC L1) (fun W hW => goes_new_bt (.tmp 40) (.tmp 43) rfl rfl w.heap.size L1 w.heap.size A n c HTA.out.symm rfl (HRA.out W (bTrans HB6.out hW)) (by omega) (Nat.le_trans hz6 (Below.size hW))) ?_
 rintro v7 ⟨A7, c7, rfl⟩
 simp only [Act.put, zD, zE, zF]
 (refine mixU_pure rfl rfl rfl (fun K hK => ?_); go_big_quiet_op; refine hK _ ?_; clear hK K)
 (refine mixU_held rfl rfl rfl (by first | exact fun _ h => h | exact fun _ h => h.2) (fun K hK => ?_); go_big_quiet_op; refine hK _ ?_; clear hK K)
 repeat (refine mixU_pure rfl rfl rfl (fun K hK => ?_); go_big_quiet_op; refine hK _ ?_; clear hK K)
 refine mixU_act rfl rfl (fun _ h => h.2) (fun v => ∃ A' c', v = .slice A' n c') (fun v W => OwnL W w.heap.size 5 1 v btC L2 ∧ OwnL W w.heap.size 5 1 (.slice A7 n c7) btC L1) (fun W hW => gE_mono (goes_new_bt (.tmp 46) (.tmp 49) rfl rfl w.heap.size L2 w.heap.size B n c' HTB.out.symm rfl (HRB.out W (bTrans HB6.out hW.2)) (by omega) (Nat.le_trans hz6 (Below.size hW.2))) (fun v W' h => ⟨⟨h.1.1, h.1.2, hW.1.below h.2⟩, h.2⟩)) ?_
 rintro v8 ⟨A8, c8, rfl⟩
 simp only [Act.put, zD, zE, zF]
 repeat (refine mixU_pure rfl rfl rfl (fun K hK => ?_); go_big_quiet_op; refine hK _ ?_; clear hK K)
 refine mixU_store1 rfl rfl 25 (.tmp 51) (.tmp 44) rfl g6 4 (.slice A7 n c7) rfl rfl (fun W hW => Blk.there (K6.out.on hW.2) (by show 4 + 1 ≤ 7; decide)) (by kernel_rfl) rfl rfl ?_
 rintro V ⟨⟨o8, o7⟩, hgV⟩
 have kV := (K6.out.on hgV).set 4 (.slice A7 n c7)
 have kV6 := (K66.out.on hgV).farG (show w.heap.size + 1 ≠ g6 by omega) 4 (.slice A7 n c7)
 have hbV := bSetG (bTrans HB6.out hgV) (show w.heap.size ≤ g6 by omega) 4 (.slice A7 n c7)
 have o7V := o7.farG ((K6.out.on hgV).apart o7 (by decide)) 4 (.slice A7 n c7)
 have o8V := o8.farG ((K6.out.on hgV).apart o8 (by decide)) 4 (.slice A7 n c7)
 obtain ⟨w8, hw8⟩ : ∃ w8, V.setCell ⟨g6, 4, none⟩ (.slice A7 n c7) = w8 := ⟨_, rfl⟩
 rw [hw8] at kV kV6 hbV o7V o8V ⊢
 have K8 : Hid (Blk w8 g6 76 #[.int .u32 s, .int .i64 d, .int .i64 x, .int .i64 0, .slice A7 n c7, .slice none 0 0, .int .u32 (H : Nat)]) := zz kV
 have K68 := zz kV6
 have HB8 := zz hbV
 have O7 := zz o7V
 have O8 := zz o8V
 clear kV kV6 hbV o7V o8V hw8 o7 o8 hgV K6 K66 HB6
 simp only [Act.put, zD, zE, zF]
 repeat (refine mixU_pure rfl rfl rfl (fun K hK => ?_); go_big_quiet_op; refine hK _ ?_; clear hK K)
 refine mixU_store1 rfl rfl 25 (.tmp 52) (.tmp 50) rfl g6 5 (.slice A8 n c8) rfl rfl (fun W hW => Blk.there (K8.out.on hW) (by show 5 + 1 ≤ 7; decide)) (by kernel_rfl) rfl rfl ?_
 rintro V hgV
 have kV := (K8.out.on hgV).set 5 (.slice A8 n c8)
 have kV6 := (K68.out.on hgV).farG (show w.heap.size + 1 ≠ g6 by omega) 5 (.slice A8 n c8)
 have hbV := bSetG (bTrans HB8.out hgV) (show w.heap.size ≤ g6 by omega) 5 (.slice A8 n c8)
 have o7V := (O7.out.below hgV).farG ((K8.out.on hgV).apart (O7.out.below hgV) (by decide)) 5 (.slice A8 n c8)
 have o8V := (O8.out.below hgV).farG ((K8.out.on hgV).apart (O8.out.below hgV) (by decide)) 5 (.slice A8 n c8)
 obtain ⟨w9, hw9⟩ : ∃ w9, V.setCell ⟨g6, 5, none⟩ (.slice A8 n c8) = w9 := ⟨_, rfl⟩
 rw [hw9] at kV kV6 hbV o7V o8V ⊢
 have K9 : Hid (Blk w9 g6 76 #[.int .u32 s, .int .i64 d, .int .i64 x, .int .i64 0, .slice A7 n c7, .slice A8 n c8, .int .u32 (H : Nat)]) := zz kV
 have K69 := zz kV6
 have HB9 := zz hbV
 have O79 := zz o7V
 have O89 := zz o8V
 clear kV kV6 hbV o7V o8V hw9 hgV K8 K68 HB8 O7 O8 s0a s0b s0c s0d s0e s0f s0g s0l
 simp only [Act.put, zD, zE, zF]
 refine mixU_nil ?_
 rintro w10 hg10
 have k10 := K9.out.on hg10
 have k610 := K69.out.on hg10
 have hb10 := bTrans HB9.out hg10
 have o710 := O79.out.below hg10
 have o810 := O89.out.below hg10
 obtain ⟨C, hC⟩ : ∃ C : Array Value, #[.int .u32 s, .int .i64 d, .int .i64 x, .int .i64 0, .slice A7 n c7, .slice A8 n c8, .int .u32 (H : Nat)] = C := ⟨_, rfl⟩
 rw [hC] at k10
 have HCC := zz hC
 have hsz : C.size = 7 := by rw [← hC]; rfl
 have H1C : Hid (C.all (·.oneCell') = true) := zz (by rw [← hC]; simp [Value.oneCell'])
 have HSZ : Hid ((Tryz.prog.info? 76).map (·.size) = some C.size) := zz (by rw [hsz]; kernel_rfl)
 have hcl : C.toList.length = C.size := by simp
 have HTH : Hid (w10.there (w.heap.size + 1) 0 C.size) := zz (by rw [hsz]; exact Blk.there k610 (by show 0 + 7 ≤ 7; decide))
 have hrg := World.rangeAt_setCells_same w10 (w.heap.size + 1) 0 C.toList (by rw [hcl]; exact HTH.out)
 have HRES := zz (run_loadVar_mid (P := Tryz.prog) _ _ _ 76 C.toList _ hrg Tryz.underlying76 rfl (by rw [hcl]; exact HSZ.out))
 have HBX := zz (bSetCells hb10 (show w.heap.size ≤ w.heap.size + 1 by omega) 0 C.toList)
 have HO7 := zz (OwnL.kept (row := some (w.heap.size + 1)) o710 (oSetCells (World.grownBy.refl w10 _) 0 C.toList) (.inr (k610.apart o710 (by decide))))
 have HO8 := zz (OwnL.kept (row := some (w.heap.size + 1)) o810 (oSetCells (World.grownBy.refl w10 _) 0 C.toList) (.inr (k610.apart o810 (by decide))))
 have HRG : Hid (w10.rangeAt g6 0 C.toList) := zz (Blk.range (by simpa using k10))
 have HC2 : Hid (C.toList.toArray = C) := zz (by simp)
 have hl10 := k10.lt
 obtain ⟨wx, hwx⟩ : ∃ wx, w10.setCells (w.heap.size + 1) 0 C.toList = wx := ⟨_, rfl⟩
 rw [hwx] at HRES HBX HO7 HO8
 have HWX := zz hwx
 clear hsz hcl hrg hwx hC k10 k610 hb10 o710 o810 K9 K69 HB9 O79 O89 hg10
 go_wp2_with (first
  | (refine wpList_load_mid rfl 76 (.tmp 11) rfl g6 0 rfl C.toList _ HRG.out Tryz.underlying76 rfl (by rw [zK]; exact HSZ.out) ?_; rw [HC2.out])
  | (refine wpList_store_mid rfl 76 (.tmp 6) (.tmp 53) rfl (w.heap.size + 1) 0 C rfl rfl HTH.out HSZ.out H1C.out ?_; rw [HWX.out]))
 have hres := HRES.out
 rw [zJ] at hres
 exact bodyPost_ret (results_c1 (a := 6) (t := 76) (x := 7) rfl rfl hres) rfl ⟨A7, A8, c7, c8, by rw [HCC.out]; rfl, HO7.out, HO8.out, HBX.out⟩
end
section
theorem infoSt : (Tryz.prog.info? 41).map (fun i => (i.zero, i.size, i.bytes)) = some (some (.agg (stCells zeroT).toArray), 60, 352) := by kernel_rfl
theorem sts_oneCell (l : List (Nat → Int)) : ∀ u ∈ l.flatMap stCells, u.oneCell' = true := fun u hu => by
 obtain ⟨q, -, hq⟩ := List.mem_flatMap.1 hu
 exact int_one q u hq
theorem goes_app_st {W : World} {o : Oper} {a : Act} (s x : Operand) (ho : o.op = .call { callee := .builtin .append, args := #[s, x], argTypes := #[48, 48] }) (base : Nat) (u : Value) (L M : List (Nat → Int)) (hown : OwnL W base 41 60 u stCells L) (hs : a.eval s = u)
  (B : Nat) (A : Option Addr) (m c : Nat) (hm : m = M.length) (hx : a.eval x = .slice A m c) (hr : Rd W B A (M.flatMap stCells)) (hn : L.length + M.length ≤ 100000000) (hbase : base ≤ W.heap.size) :
  Oper.goes Tryz.prog o a W (fun v' W' => OwnL W' base 41 60 v' stCells (L ++ M) ∧ W.grownBy W' u.ownBlock) := by
 subst hm
 obtain ⟨i0, hi0, hz0, hz1, hz2⟩ := info_parts infoSt
 refine goes_mono (goes_app s x 48 ho base 41 i0 _ 60 352 Tryz.underlying48 hi0 hz0 hz1 hz2 (by rw [show (Value.agg (stCells zeroT).toArray).cells = (stCells zeroT).toArray from rfl, zM, stCells_length]) (by decide) u L.length (L.flatMap stCells) hs hown B A M.length c (M.flatMap stCells) hx (length_flatMap_const _ _ stCells_length _) hr (rd_none stCells_length (by decide) hr) (sts_oneCell M) (by unfold maxLen; omega) (by omega) hbase) ?_
 rintro v' W' ⟨h2, h3⟩
 exact ⟨OwnL.app rfl h2, h3⟩
theorem goes_bs_st {W : World} {o : Oper} {a : Act} (y : Operand) (ho : o.op = .buildSlice 48 1 #[(0, y)]) (T : Nat → Int) (hy : a.eval y = .agg (stCells T).toArray) : Oper.goes Tryz.prog o a W (fun v W' => v = .slice (some ⟨W.heap.size, 0, none⟩) 1 1 ∧ W' = W.alloc (.cells (stCells T).toArray 41)) := by
 obtain ⟨i0, hi0, hz0, hz1, hz2⟩ := info_parts infoSt
 refine goes_bs 48 41 1 _ ho _ i0 _ Tryz.underlying48 hi0 hz0 (by rw [hz1]; decide) (by rw [hz1]; decide) ?_
 rw [hz1]
 simp only [List.map_toArray, List.map_cons, List.map_nil, hy]
 generalize hZ : Array.map _ (Array.range (1 * 60)) = Z
 have hz : Z.size = 60 := by rw [← hZ]; simp
 clear hZ hz0 hz1 hz2 hi0
 have hl := stCells_length T
 generalize stCells T = C at hl ⊢
 rw [fill_put _ _ 0 0 C _ _ rfl (by simp [hl]) (by omega), Instr.fill, Option.some.injEq]
 apply Array.ext_getElem?
 intro j
 rw [putAt_get]
 simp only [zA]
 by_cases hj : j < 60
 ·rw [if_pos (by omega)]; simp
 ·rw [if_neg (by omega), Array.getElem?_eq_none (by omega), List.getElem?_eq_none (by omega)]
def keptS (inp : Nat → Nat × Nat) (S : Nat → Int) (ev : Nat) : Nat → List (Nat → Int)
 | 0 => []
 | k + 1 => if k % ev = 0 then keptS inp S ev k ++ [stT inp S k] else keptS inp S ev k
theorem keptS_length (inp : Nat → Nat × Nat) (S : Nat → Int) (ev : Nat) (h : 0 < ev) : ∀ k, (keptS inp S ev k).length = (k + ev - 1) / ev
 | 0 => by
  rw [keptS, zI, Nat.zero_add]
  exact (Nat.div_eq_of_lt (by omega)).symm
 | k + 1 => by
  have ih := keptS_length inp S ev h k
  have e1 : k + 1 + ev - 1 = k + ev := by omega
  rw [keptS, e1, Nat.add_div_right _ h]
  by_cases hk : k % ev = 0
  ·rw [if_pos hk, zG, ih, List.length_singleton]
   congr 1
   have h1 : k = ev * (k / ev) := by have := Nat.div_add_mod k ev; omega
   have h2 : k + ev - 1 = (ev - 1) + ev * (k / ev) := by omega
   rw [h2, Nat.add_mul_div_left _ _ h, Nat.div_eq_of_lt (by omega), Nat.zero_add]
  ·rw [if_neg hk, ih]
   have h1 := Nat.div_add_mod k ev
   have h3 := Nat.mod_lt k h
   have h2 : k + ev - 1 = (k % ev - 1) + ev * (k / ev + 1) := by rw [Nat.mul_add]; omega
   rw [h2, Nat.add_mul_div_left _ _ h, Nat.div_eq_of_lt (by omega), Nat.zero_add]
end
end Go.Proofs.YtibeihcpehikoaaGreat
