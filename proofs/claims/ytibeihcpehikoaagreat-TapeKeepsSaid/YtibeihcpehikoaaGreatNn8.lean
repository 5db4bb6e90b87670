/-
  TapeKeeps: the law's walk.
-/
import Derived.Test.YtibeihcpehikoaaGreatNn7
namespace Go.Proofs.YtibeihcpehikoaaGreat
set_option maxRecDepth 100000
set_option maxHeartbeats 16000000
set_option linter.unusedSimpArgs false
section
open Go.RowKit Go.Shelf
theorem UnpF.of {s : ByteArray} {sd d x m er s0 d0 x0 m0 : Int} {a b a0 b0 : List Nat} (h : UnpF s sd d x m a b er) (hp : IsTp s s0 d0 x0 m0 a0 b0) : er = 0 ∧ s0 = sd ∧ d0 = d ∧ x0 = x ∧ m0 = m ∧ a0 = a ∧ b0 = b := by
 rcases h with ⟨rfl, -, h2⟩ | ⟨-, -, -, h3⟩
 ·obtain ⟨rfl, rfl, rfl, rfl, rfl, rfl⟩ := h2 _ _ _ _ _ _ hp
  exact ⟨rfl, rfl, rfl, rfl, rfl, rfl, rfl⟩
 ·exact absurd hp (h3 _ _ _ _ _ _)
theorem packB_len (s d x m : Int) (a b : List Nat) (hs : U32 s) (hd : 0 ≤ d ∧ d ≤ 8) (hx : 0 ≤ x ∧ x ≤ 16) (ha : a.length ≤ 20000) (hb : b.length ≤ 20000) : (sealB (packB s d x m a b)).length ≤ 1000000 := by
 have l1 := numB_le (n := s.toNat) (by have := hs.2; have := hs.1; omega)
 have l2 := numB_le (n := d.toNat) (by omega)
 have l3 := numB_le (n := x.toNat) (by omega)
 have l4 := numB_le (n := a.length) (by omega)
 have hia2 : (insB a).length ≤ 220000 := runsB_pre (l := a) (pre := runsL a) (r := []) (by simp) ha
 have hib2 : (insB b).length ≤ 220000 := runsB_pre (l := b) (pre := runsL b) (r := []) (by simp) hb
 rw [sealB_length, pack_split]
 simp only [zG, be4_length, zH, zI]
 omega
theorem built_tp4 (s d x y H : Int) (A B : Option Addr) (n c c' : Nat) : Tryz.prog.built 76 [(0, .agg #[.int .u32 s, .int .i64 d, .int .i64 x, .int .i64 y]), (1, .slice A n c), (2, .slice B n c'), (3, .int .u32 H)] = some #[.int .u32 s, .int .i64 d, .int .i64 x, .int .i64 y, .slice A n c, .slice B n c', .int .u32 H] := by kernel_rfl
theorem keeps_any (hst : StepR) (s d x y : Int) (A B : Option Addr) (c c' : Nat) (a b : List Nat) (w : World) (hs : U32 s) (hca : a.length ≤ c) (hcb : b.length ≤ c') (hm : a.length ≤ 9223372036854775807 ∧ b.length ≤ 9223372036854775807) (ra : Rd w w.heap.size A (a.flatMap btC)) (rb : Rd w w.heap.size B (b.flatMap btC)) :
  Calls Tryz.prog 9 #[.agg #[.int .u32 s, .int .i64 d, .int .i64 x, .int .i64 y], .slice A a.length c, .slice B b.length c'] w fun e w' => e = .returned (.bool true) ∧ Below w.heap.size w w' := by
 have HRA := zz ra
 have HRB := zz rb
 obtain ⟨na, hna⟩ : ∃ na, a.length = na := ⟨_, rfl⟩
 obtain ⟨nb, hnb⟩ : ∃ nb, b.length = nb := ⟨_, rfl⟩
 have HNA := zz hna
 have HNB := zz hnb
 rw [hna] at hca hm ⊢
 rw [hnb] at hcb hm ⊢
 have HST := zz hst
 obtain ⟨C0, hC0⟩ : ∃ C0 : Array Value, #[.int .u32 0, .int .i64 0, .int .i64 0, .int .i64 0, .slice none 0 0, .slice none 0 0, .int .u32 0] = C0 := ⟨_, rfl⟩
 have HBT : Hid (Tryz.prog.built 76 [] = some C0) := zz (by rw [← hC0]; exact built_tp0)
 have HZ7 : Hid (C0.size = 7) := zz (by rw [← hC0]; rfl)
 have H1C : Hid (C0.all (·.oneCell') = true) := zz (by rw [← hC0]; simp [Value.oneCell'])
 have HSZ : Hid ((Tryz.prog.info? 76).map (·.size) = some C0.size) := zz (by rw [HZ7.out]; kernel_rfl)
 have HC0 : Hid (C0 = #[.int .u32 0, .int .i64 0, .int .i64 0, .int .i64 0, .slice none 0 0, .slice none 0 0, .int .u32 0]) := zz hC0.symm
 clear ra rb hna hnb hst
 go_enter Tryz.func9, Tryz.ntmps9
 go_upto_region 1 with fail
 refine named1 (F := fun W => Code.wp _ _ _ _ W) ?_
 intro w0 k0 hb0 hz0
 have K0 := zz k0
 have HB0 := zz hb0
 clear k0 hb0 hz0
 go_upto_region 3 with (first | (go_at_call 29; refine (awake28_any _).mono ?_; rintro e w1 ⟨rfl, hb1⟩; have HB1 := zz (bTrans HB0.out hb1); have K1 := zz (K0.out.on hb1); clear hb1))
 clear K0 HB0
 by_cases h1 : 250 < na
 ·have q1 : decide ((250 : Int) < (na : Int)) = true := decide_eq_true (by omega)
  go_wp2_with fail
  go_ret
  exact ⟨rfl, HB1.out⟩
 have q1 : decide ((250 : Int) < (na : Int)) = false := decide_eq_false (by omega)
 by_cases h2 : 250 < nb
 ·have q2 : decide ((250 : Int) < (nb : Int)) = true := decide_eq_true (by omega)
  go_wp2_with fail
  go_ret
  exact ⟨rfl, HB1.out⟩
 have q2 : decide ((250 : Int) < (nb : Int)) = false := decide_eq_false (by omega)
 have HFI := zz (fun (V : World) (hV : Below w.heap.size w V) => rfits_any s d x y A B c c' a b V (by have := HNA.out; omega) (by have := HNB.out; omega) ((HRA.out.below hV (zL _)).more hV.size) ((HRB.out.below hV (zL _)).more hV.size))
 rw [HNA.out, HNB.out] at HFI
 cases hrec : recOk d x a b
 ·have HRC := zz (fun (V : World) (hV : Below w.heap.size w V) => record_no s d x y A B c c' a b V hs hrec (by have := HNA.out; omega) (by have := HNB.out; omega) ((HRA.out.below hV (zL _)).more hV.size) ((HRB.out.below hV (zL _)).more hV.size))
  rw [HNA.out, HNB.out, hC0] at HRC
  have HXX : Hid (ofB d a b = false → ¬ (1 ≤ x ∧ x ≤ 16)) := zz (fun ho hx => by
   unfold recOk at hrec
   rw [ho, decide_eq_true hx] at hrec
   cases hrec)
  have r0a := (K1.out).cell 0; have r0b := (K1.out).cell 1; have r0c := (K1.out).cell 2; have r0d := (K1.out).cell 3; have r0e := (K1.out).frozen 0; have r0f := (K1.out).frozen 1; have r0g := (K1.out).frozen 2; have r0h := (K1.out).frozen 3; have r0l := (K1.out).lt; simp only [zA, zB, zC] at r0a r0b r0c r0d
  clear hrec hC0
  go_upto_region 6 with (first
   | (go_at_call 30; refine (HRC.out _ HB1.out).mono ?_; rintro e w2 ⟨rfl, hb2⟩; have HB2 := zz (bTrans HB1.out hb2); have K2 := zz (K1.out.on hb2); clear hb2)
   | (refine wpList_store_mid rfl 76 (.tmp 7) (.tmp 31) rfl w2.heap.size 0 C0 rfl rfl (there_new _ _ _ (by rw [HZ7.out]; rfl)) HSZ.out H1C.out ?_))
  refine named_put (F := fun W => Code.wp _ _ _ _ W) (by rw [zK, HZ7.out]; rfl) ?_
  intro w3 k3 hb3 hz3
  rw [zJ] at k3
  have T3 := zz k3
  have HB3 := zz (bTrans HB2.out hb3)
  have K3 := zz (K2.out.on hb3)
  obtain ⟨g7, hg7⟩ : ∃ g, w2.heap.size = g := ⟨_, rfl⟩
  rw [hg7] at T3 ⊢
  clear k3 hb3 hz3 hg7 r0a r0b r0c r0d r0e r0f r0g r0h r0l HB1 K1 HRC
  have r0a := (K3.out).cell 0; have r0b := (K3.out).cell 1; have r0c := (K3.out).cell 2; have r0d := (K3.out).cell 3; have r0e := (K3.out).frozen 0; have r0f := (K3.out).frozen 1; have r0g := (K3.out).frozen 2; have r0h := (K3.out).frozen 3; have r0l := (K3.out).lt; simp only [zA, zB, zC] at r0a r0b r0c r0d
  go_upto_region 7 with (first
   | (go_at_call 19; refine (HFI.out _ HB3.out).mono ?_; rintro e w4 ⟨rfl, hb4⟩; have HB4 := zz (bTrans HB3.out hb4); have K4 := zz (K3.out.on hb4); have T4 := zz (T3.out.on hb4); clear hb4))
  have HRG : Hid (w4.rangeAt g7 0 C0.toList) := zz (Blk.range (by simpa using T4.out))
  have HSM := zz (same28_yes 0 0 0 0 0 none none none none 0 0 0 0 [] [] w4 (by decide) (by decide) (Rd.nil _ _ _) (Rd.nil _ _ _) (Rd.nil _ _ _) (Rd.nil _ _ _))
  rw [show (#[.int .u32 0, .int .i64 0, .int .i64 0, .int .i64 0, .slice none ([] : List Nat).length 0, .slice none ([] : List Nat).length 0, .int .u32 0] : Array Value) = C0 from HC0.out.symm] at HSM
  clear r0a r0b r0c r0d r0e r0f r0g r0h r0l K3 T3 T4 HB3
  cases ho : ofB d a b
  ·have hx := HXX.out ho
   rw [if_neg (by decide)]
   have r0a := (K4.out).cell 0; have r0b := (K4.out).cell 1; have r0c := (K4.out).cell 2; have r0d := (K4.out).cell 3; have r0e := (K4.out).frozen 0; have r0f := (K4.out).frozen 1; have r0g := (K4.out).frozen 2; have r0h := (K4.out).frozen 3; have r0l := (K4.out).lt; simp only [zA, zB, zC] at r0a r0b r0c r0d
   clear ho HXX
   by_cases hx1 : x < 1
   ·
    go_wp2_with (first
     | (refine wpList_load_mid rfl 76 (.tmp 7) rfl g7 0 rfl C0.toList _ HRG.out Tryz.underlying76 rfl (by rw [zK]; exact HSZ.out) ?_; rw [zJ])
     | (refine wpList_built rfl 76 [] rfl C0 [] rfl HBT.out ?_)
     | (go_at_call 42; refine (HSM.out).mono ?_; rintro e w6 ⟨rfl, hb6⟩; have HB6 := zz (bTrans HB4.out hb6); clear hb6))
    go_ret
    exact ⟨rfl, HB6.out⟩
   ·have hx2 : 16 < x := by omega
    go_wp2_with (first
     | (refine wpList_load_mid rfl 76 (.tmp 7) rfl g7 0 rfl C0.toList _ HRG.out Tryz.underlying76 rfl (by rw [zK]; exact HSZ.out) ?_; rw [zJ])
     | (refine wpList_built rfl 76 [] rfl C0 [] rfl HBT.out ?_)
     | (go_at_call 42; refine (HSM.out).mono ?_; rintro e w6 ⟨rfl, hb6⟩; have HB6 := zz (bTrans HB4.out hb6); clear hb6))
    go_ret
    exact ⟨rfl, HB6.out⟩
  ·rw [if_pos rfl]
   clear ho HXX
   go_wp2_with (first
    | (refine wpList_load_mid rfl 76 (.tmp 7) rfl g7 0 rfl C0.toList _ HRG.out Tryz.underlying76 rfl (by rw [zK]; exact HSZ.out) ?_; rw [zJ])
    | (refine wpList_built rfl 76 [] rfl C0 [] rfl HBT.out ?_)
    | (go_at_call 42; refine (HSM.out).mono ?_; rintro e w6 ⟨rfl, hb6⟩; have HB6 := zz (bTrans HB4.out hb6); clear hb6))
   go_ret
   exact ⟨rfl, HB6.out⟩
 obtain ⟨hof, hx⟩ : ofB d a b = false ∧ (1 ≤ x ∧ x ≤ 16) := by
  unfold recOk at hrec
  simpa using hrec
 obtain ⟨n, hn⟩ : ∃ n, min na nb = n := ⟨_, rfl⟩
 have hnm : n = min a.length b.length := by rw [HNA.out, HNB.out, hn]
 have hn1 : n ≤ 250 ∧ n ≤ na ∧ n ≤ nb := by omega
 have HRC := zz (fun (V : World) (hV : Below w.heap.size w V) => record_good s d x y A B c c' a b n hnm V hs hof hx (by have := HNA.out; omega) (by have := HNB.out; omega) (by rw [HNA.out]; exact hca) (by rw [HNB.out]; exact hcb) ((HRA.out.below hV (zL _)).more hV.size) ((HRB.out.below hV (zL _)).more hV.size))
 rw [HNA.out, HNB.out] at HRC
 have HHA := zz (fun (V : World) (hV : Below w.heap.size w V) => rhap_any HST.out s d x 0 A B c c' a b V hs hof (by have := HNA.out; omega) (by have := HNB.out; omega) ((HRA.out.below hV (zL _)).more hV.size) ((HRB.out.below hV (zL _)).more hV.size))
 rw [HNA.out, HNB.out] at HHA
 have HRW : Hid (∀ V, Below w.heap.size w V → Rd V V.heap.size A ((a.take n).flatMap btC) ∧ Rd V V.heap.size B ((b.take n).flatMap btC)) := zz (fun V hV => ⟨((HRA.out.below hV (zL _)).bt_take n).more hV.size, ((HRB.out.below hV (zL _)).bt_take n).more hV.size⟩)
 have hcut := hapG_cut s d a b n hnm
 have hofc := ofB_take hof n n
 have hl1 : (a.take n).length = n := by rw [List.length_take, HNA.out]; omega
 have hl2 : (b.take n).length = n := by rw [List.length_take, HNB.out]; omega
 obtain ⟨L1, hL1⟩ : ∃ L, a.take n = L := ⟨_, rfl⟩
 obtain ⟨L2, hL2⟩ : ∃ L, b.take n = L := ⟨_, rfl⟩
 have hHlt := hapG_lt s d a b
 obtain ⟨H, hH⟩ : ∃ H, hapG s d a b = H := ⟨_, rfl⟩
 rw [hL1, hL2, hH] at HRC
 rw [hL1, hL2, hH] at hcut
 rw [hL1, hL2] at hofc HRW
 rw [hL1] at hl1
 rw [hL2] at hl2
 rw [hH] at hHlt HHA
 rw [hof, if_neg (by decide)] at HFI
 have hrt : rightTp d x 0 L1 L2 = true := by
  unfold rightTp
  rw [decide_eq_true hx, hofc, hl1, hl2]
  simp
 have HL1 := zz hl1
 have HL2 := zz hl2
 have HCUT := zz hcut
 have HRT := zz hrt
 have hmin : min (na : Int) (nb : Int) = (n : Int) := by omega
 obtain ⟨hx1, hx2⟩ := hx
 have r0a := (K1.out).cell 0; have r0b := (K1.out).cell 1; have r0c := (K1.out).cell 2; have r0d := (K1.out).cell 3; have r0e := (K1.out).frozen 0; have r0f := (K1.out).frozen 1; have r0g := (K1.out).frozen 2; have r0h := (K1.out).frozen 3; have r0l := (K1.out).lt; simp only [zA, zB, zC] at r0a r0b r0c r0d
 clear hrec hof hnm hcut hofc hl1 hl2 hL1 hL2 hH h1 h2 hrt hC0 HST HC0 HBT HZ7 H1C HSZ
 go_upto_region 6 with (first
  | (go_at_call 30; refine (HRC.out _ HB1.out).mono ?_; rintro e w2 ⟨A2, B2, cA, cB, rfl, ho1, ho2, hb2⟩; obtain ⟨C1, hC1⟩ : ∃ C1 : Array Value, #[.int .u32 s, .int .i64 d, .int .i64 x, .int .i64 0, .slice A2 n cA, .slice B2 n cB, .int .u32 (H : Nat)] = C1 := ⟨_, rfl⟩; rw [hC1]; have HC1 := zz hC1.symm; have HY7 : Hid (C1.size = 7) := zz (by rw [← hC1]; rfl); have HY1 : Hid (C1.all (·.oneCell') = true) := zz (by rw [← hC1]; simp [Value.oneCell']); have HB2 := zz (bTrans HB1.out hb2); have HO1 := zz (ho1.more HB1.out.size); have HO2 := zz (ho2.more HB1.out.size); have K2 := zz (K1.out.on hb2); clear hb2 ho1 ho2 hC1)
  | (refine wpList_store_mid rfl 76 (.tmp 7) (.tmp 31) rfl w2.heap.size 0 C1 rfl rfl (there_new _ _ _ (by rw [HY7.out]; rfl)) (by rw [HY7.out]; kernel_rfl) HY1.out ?_))
 refine named_put (F := fun W => Code.wp _ _ _ _ W) (by rw [zK, HY7.out]; rfl) ?_
 intro w3 k3 hb3 hz3
 rw [zJ] at k3
 have T3 := zz k3
 have HB3 := zz (bTrans HB2.out hb3)
 have K3 := zz (K2.out.on hb3)
 have O3 := zz (HO1.out.below hb3)
 have P3 := zz (HO2.out.below hb3)
 obtain ⟨g7, hg7⟩ : ∃ g, w2.heap.size = g := ⟨_, rfl⟩
 rw [hg7] at T3 ⊢
 have HYZ : Hid ((Tryz.prog.info? 76).map (·.size) = some C1.size) := zz (by rw [HY7.out]; kernel_rfl)
 clear k3 hb3 hz3 hg7 r0a r0b r0c r0d r0e r0f r0g r0h r0l HB1 K1 HRC HO1 HO2 HB2 K2
 have r0a := (K3.out).cell 0; have r0b := (K3.out).cell 1; have r0c := (K3.out).cell 2; have r0d := (K3.out).cell 3; have r0e := (K3.out).frozen 0; have r0f := (K3.out).frozen 1; have r0g := (K3.out).frozen 2; have r0h := (K3.out).frozen 3; have r0l := (K3.out).lt; simp only [zA, zB, zC] at r0a r0b r0c r0d
 go_upto_region 12 with (first
  | (go_at_call 19; refine (HFI.out _ HB3.out).mono ?_; rintro e w4 ⟨rfl, hb4⟩; have HB4 := zz (bTrans HB3.out hb4); have K4 := zz (K3.out.on hb4); have T4 := zz (T3.out.on hb4); have O4 := zz (O3.out.below hb4); have P4 := zz (P3.out.below hb4); have t0a := (K4.out).cell 0; have t0b := (K4.out).cell 1; have t0c := (K4.out).cell 2; have t0d := (K4.out).cell 3; have t0e := (K4.out).frozen 0; have t0f := (K4.out).frozen 1; have t0g := (K4.out).frozen 2; have t0h := (K4.out).frozen 3; have t0l := (K4.out).lt; simp only [zA, zB, zC] at t0a t0b t0c t0d; clear hb4 r0a r0b r0c r0d r0e r0f r0g r0h r0l))
 have hne7 : g7 ≠ w.heap.size := fun e => by
  have h1 := T4.out
  rw [e] at h1
  have h2 := h1.symm.trans K4.out
  injection h2 with h2
  injection h2 with _ h2
  exact absurd h2 (by decide)
 have kk := K4.out.set 3 (.int .i64 0)
 have tt := T4.out.farG hne7 3 (.int .i64 0)
 have bb := bSetG HB4.out (zL _) 3 (.int .i64 0)
 have oo := O4.out.farG (K4.out.apart O4.out (by decide)) 3 (.int .i64 0)
 have pp := P4.out.farG (K4.out.apart P4.out (by decide)) 3 (.int .i64 0)
 go_upto_region 13 with fail
 obtain ⟨w5, hw5⟩ : ∃ w5, w4.setCell ⟨w.heap.size, 3, none⟩ (.int .i64 0) = w5 := ⟨_, rfl⟩
 rw [hw5] at kk tt bb oo pp ⊢
 have K5 : Hid (Blk w5 w.heap.size 24 #[.int .u32 s, .int .i64 d, .int .i64 x, .int .i64 0]) := zz kk
 have T5 := zz tt
 have HB5 := zz bb
 have O5 := zz oo
 have P5 := zz pp
 have HH5 := zz (fun (V : World) (hV : Below w5.heap.size w5 V) => HHA.out V (bTrans HB5.out hV))
 clear kk tt bb oo pp hw5 t0a t0b t0c t0d t0e t0f t0g t0h t0l K4 T4 O4 P4 HB4 hne7
 have r0a := (K5.out).cell 0; have r0b := (K5.out).cell 1; have r0c := (K5.out).cell 2; have r0d := (K5.out).cell 3; have r0e := (K5.out).frozen 0; have r0f := (K5.out).frozen 1; have r0g := (K5.out).frozen 2; have r0h := (K5.out).frozen 3; have r0l := (K5.out).lt; simp only [zA, zB, zC] at r0a r0b r0c r0d
 have hKp := Keeps.base w5
 refine wp_region_mixedT [.held, .pure, .pure, .pure, .pure, .pure, .pure, .held, .pure, .pure, .make, .pure, .make, .tail] (fun | 10 => valF (.int .u32 (H : Nat)) | _ => newTold w5 76 #[.int .u32 0, .int .i64 0, .int .i64 0, .int .i64 0, .slice none 0 0, .slice none 0 0, .int .u32 0]) (by kernel_rfl) (by kernel_rfl) ?_
 iterate 10 (first | (refine mix_pure rfl rfl rfl (fun K hK => ?_); go_big_quiet_op; refine hK _ ?_; clear hK K) | (refine mix_held rfl rfl rfl (by assumption) (fun K hK => ?_); go_big_quiet_op; refine hK _ ?_; clear hK K))
 refine mix_make rfl rfl (by assumption) valF_st (fun V hV => ?_) ?_
 ·have HS2 := zz (valF_of (HH5.out V hV))
  go_simp
  exact HS2.out
 rintro _ rfl hKp2
 simp only [Act.put, zD, zE, zF]
 refine mix_built rfl rfl 76 [(0, .tmp 68), (1, .tmp 71), (2, .tmp 74), (3, .tmp 78)] rfl _ _ rfl (built_tp4 s d x 0 (H : Nat) A B n c c') ?_
 simp only [Act.put, zD, zE, zF]
 refine mix_make rfl rfl (by assumption) newTold_st (newTold_makes rfl zero_tape rfl) ?_
 rintro v ⟨gw, rfl⟩ hKp4
 simp only [Act.put, zD, zE, zF]
 obtain ⟨C2, hC2⟩ : ∃ C2 : Array Value, #[.int .u32 s, .int .i64 d, .int .i64 x, .int .i64 0, .slice A n c, .slice B n c', .int .u32 (H : Nat)] = C2 := ⟨_, rfl⟩
 rw [hC2]
 have HC2 := zz hC2.symm
 have HX7 : Hid (C2.size = 7) := zz (by rw [← hC2]; rfl)
 have HXZ : Hid ((Tryz.prog.info? 76).map (·.size) = some C2.size) := zz (by rw [HX7.out]; kernel_rfl)
 refine mix_store rfl rfl 76 (.tmp 11) (.tmp 79) rfl gw 0 C2 rfl rfl (fun V hV => ?_) HXZ.out (by rw [← hC2]; simp [Value.oneCell']) ?_
 ·rw [HX7.out]; exact Blk.there (hV.2 gw rfl).2 (by show 0 + 7 ≤ 7; decide)
 simp only [Act.put, zD, zE, zF]
 refine mix_nil ?_
 rintro V' ⟨V, hD, rfl⟩
 obtain ⟨⟨hg, -⟩, hR⟩ := hD
 obtain ⟨hge6, hBg⟩ := hR gw rfl
 have hg : Grown w5 V := hg
 have n6 := hBg.whole C2.toList (by rw [zK, HX7.out]; rfl)
 rw [zJ] at n6
 have hl7 := T5.out.lt
 have tt := (T5.out.on hg).farC (show g7 ≠ gw by omega) 0 C2.toList
 have bb := bSetCells (bTrans HB5.out hg) (show w.heap.size ≤ gw by have := HB5.out.size; omega) 0 C2.toList
 have oo : OwnL (V.setCells gw 0 C2.toList) w.heap.size 5 1 (.slice A2 n cA) btC L1 := OwnL.kept (row := some gw) (O5.out.below hg) (oSetCells (oRefl _ _) 0 _) (.inr (hBg.apart (O5.out.below hg) (by decide)))
 have pp : OwnL (V.setCells gw 0 C2.toList) w.heap.size 5 1 (.slice B2 n cB) btC L2 := OwnL.kept (row := some gw) (P5.out.below hg) (oSetCells (oRefl _ _) 0 _) (.inr (hBg.apart (P5.out.below hg) (by decide)))
 obtain ⟨w6, hw6⟩ : ∃ w6, V.setCells gw 0 C2.toList = w6 := ⟨_, rfl⟩
 rw [hw6] at n6 tt bb oo pp
 first | rw [hw6] | (show Exit.then _ _ _ _ (V.setCells gw 0 C2.toList); rw [hw6])
 have U6 := zz n6
 have T6 := zz tt
 have HB6 := zz bb
 have O6 := zz oo
 have P6 := zz pp
 clear n6 tt bb oo pp hw6 hg hge6 hBg hR hKp hKp2 hKp4 K5 T5 HB5 O5 P5 HH5 HHA r0a r0b r0c r0d r0e r0f r0g r0h r0l hC2 hl7
 go_upto_region 14 with fail
 have hHu : U32 (H : Nat) := ⟨by omega, by omega⟩
 have hd8 := (right_parts HRT.out).2.2.2.1
 have hqt : rightTq d x 0 L1 L2 = true := by rw [rightTq_few (by rw [HL1.out]; omega)]; exact HRT.out
 have RA6 := fun (V : World) (hV : Below w6.heap.size w6 V) => (O6.out.rd.below hV (zL _)).more hV.size
 have RB6 := fun (V : World) (hV : Below w6.heap.size w6 V) => (P6.out.rd.below hV (zL _)).more hV.size
 have QA6 := fun (V : World) (hV : Below w6.heap.size w6 V) => (HRW.out V (bTrans HB6.out hV)).1
 have QB6 := fun (V : World) (hV : Below w6.heap.size w6 V) => (HRW.out V (bTrans HB6.out hV)).2
 have la := HL1.out
 have lb := HL2.out
 have HPK := zz (fun (V : World) (hV : Below w6.heap.size w6 V) => pack_good s d x (H : Nat) A2 B2 cA cB L1 L2 V hs hHu HRT.out (by omega) (by omega) (by rw [la]; exact O6.out.cap) (by rw [lb]; exact P6.out.cap) (RA6 V hV) (RB6 V hV))
 have HRI := zz (fun (V : World) (hV : Below w6.heap.size w6 V) => right_tape s d x 0 (H : Nat) A2 B2 cA cB L1 L2 V (by omega) (by omega) (RA6 V hV) (RB6 V hV))
 have HVE := zz (fun (V : World) (hV : Below w6.heap.size w6 V) => verify_good s d x (H : Nat) A2 B2 cA cB L1 L2 V hs HRT.out (by omega) (by omega) (RA6 V hV) (RB6 V hV))
 have HRP := zz (fun (V : World) (hV : Below w6.heap.size w6 V) => rpack_any s d x (H : Nat) A B c c' L1 L2 V hs hHu HRT.out (by omega) (by omega) (QA6 V hV) (QB6 V hV))
 have HSM := zz (fun (V : World) (hV : Below w6.heap.size w6 V) => same28_yes s d x 0 (H : Nat) A2 B2 A B cA cB c c' L1 L2 V (by omega) (by omega) (RA6 V hV) (RB6 V hV) (QA6 V hV) (QB6 V hV))
 have HSU := zz (fun (A3 B3 : Option Addr) (c3 c4 : Nat) (V : World) (hV : Below w6.heap.size w6 V) (h3 : Rd V V.heap.size A3 (L1.flatMap btC)) (h4 : Rd V V.heap.size B3 (L2.flatMap btC)) => same28_yes s d x 0 (H : Nat) A3 B3 A B c3 c4 c c' L1 L2 V (by omega) (by omega) h3 h4 (QA6 V hV) (QB6 V hV))
 have hpl := packB_len s d x (H : Nat) L1 L2 hs hd8 ⟨by omega, hx2⟩ (by omega) (by omega)
 have hIT : IsTp ⟨(sealB (packB s d x (H : Nat) L1 L2)).toArray⟩ s d x (H : Nat) L1 L2 := ⟨hs, hHu, by omega, hqt, rfl⟩
 rw [HCUT.out, if_pos rfl] at HVE
 rw [HRT.out] at HRI
 rw [la, lb] at HPK HRI HVE HSM HRP
 obtain ⟨PS, hPS⟩ : ∃ PS : ByteArray, ⟨(sealB (packB s d x (H : Nat) L1 L2)).toArray⟩ = PS := ⟨_, rfl⟩
 have hPsz : PS.size ≤ 1000000 := by rw [← hPS]; exact hpl
 rw [hPS] at HPK HRP hIT
 rw [← HC1.out] at HPK HRI HVE HSM
 rw [← HC2.out] at HSM HRP
 have HUP := zz (fun V => unpack_any PS hPsz V)
 have HIT := zz hIT
 have HR7 : Hid (∀ V, Below w6.heap.size w6 V → V.rangeAt g7 0 C1.toList) := zz (fun V hV => Blk.range (by simpa using T6.out.on hV))
 have HRW2 : Hid (∀ V, Below w6.heap.size w6 V → V.rangeAt gw 0 C2.toList) := zz (fun V hV => Blk.range (by simpa using U6.out.on hV))
 clear hPS hIT hpl hPsz hqt hHu hd8 RA6 RB6 QA6 QB6 HRW T6 U6 O6 P6 HC1 HCUT HRT HY1
 go_upto_region 16 with (first
  | (refine wpList_load_mid rfl 76 (.tmp 7) rfl g7 0 rfl C1.toList _ (HR7.out _ (Below.refl _ _)) Tryz.underlying76 rfl (by rw [zK]; exact HYZ.out) ?_; rw [zJ])
  | (go_at_call 34; refine (HPK.out _ (Below.refl _ _)).mono ?_; rintro e w7 ⟨rfl, hb7⟩; have HB67 := zz hb7; clear hb7)
  | (go_at_call 43; refine (HUP.out _).mono ?_; rintro e w8 he; obtain ⟨C3, sd', d', x', m', a', b', A3, B3, c3, c4, er, rfl, hC3, hb8, hoa, hob, hf⟩ := he.form; obtain ⟨hz0, hz1, hz2, hz3, hz4, hz5, hz6⟩ := hf.of HIT.out; subst hz0 hz1 hz2 hz3 hz4 hz5 hz6; have HB68 := zz (bTrans HB67.out hb8); have O8 := zz hoa; have P8 := zz hob; have HC3 := zz hC3; have HZ7 : Hid (C3.size = 7) := zz (by rw [hC3]; rfl); have HZ1 : Hid (C3.all (·.oneCell') = true) := zz (by rw [hC3]; simp [Value.oneCell']); clear he hb8 hoa hob hf hC3)
  | (refine wpList_store_mid rfl 76 (.tmp 14) (.tmp 88) rfl w8.heap.size 0 C3 rfl rfl (there_new _ _ _ (by rw [HZ7.out]; rfl)) (by rw [HZ7.out]; kernel_rfl) HZ1.out ?_))
 refine named_put (F := fun W => Code.wp _ _ _ _ W) (by rw [zK, HZ7.out]; rfl) ?_
 intro w9 k9 hb9 hz9
 rw [zJ] at k9
 have HB69 := zz (bTrans HB68.out hb9)
 have O9 := zz (O8.out.below hb9)
 have P9 := zz (P8.out.below hb9)
 have HS9 := zz (fun (V : World) (hV : Below w9.heap.size w9 V) => HSU.out A3 B3 c3 c4 V (bTrans HB69.out hV) ((O9.out.rd.below hV (zL _)).more hV.size) ((P9.out.rd.below hV (zL _)).more hV.size))
 rw [← HC3.out] at HS9
 rw [HL1.out, HL2.out, ← HC2.out] at HS9
 have T9 := zz k9
 obtain ⟨gu, hgu⟩ : ∃ gu, w8.heap.size = gu := ⟨_, rfl⟩
 rw [hgu] at T9 ⊢
 have HR9 : Hid (∀ V, Below w9.heap.size w9 V → V.rangeAt gu 0 C3.toList) := zz (fun V hV => Blk.range (by simpa using T9.out.on hV))
 have HR79 : Hid (∀ V, Below w9.heap.size w9 V → V.rangeAt g7 0 C1.toList) := zz (fun V hV => HR7.out V (bTrans HB69.out hV))
 have HRW9 : Hid (∀ V, Below w9.heap.size w9 V → V.rangeAt gw 0 C2.toList) := zz (fun V hV => HRW2.out V (bTrans HB69.out hV))
 have HWZ : Hid ((Tryz.prog.info? 76).map (·.size) = some C3.size) := zz (by rw [HZ7.out]; kernel_rfl)
 have HB9 := zz (bTrans HB6.out HB69.out)
 have HSM9 := zz (fun (V : World) (hV : Below w9.heap.size w9 V) => HSM.out V (bTrans HB69.out hV))
 have HRI9 := zz (fun (V : World) (hV : Below w9.heap.size w9 V) => HRI.out V (bTrans HB69.out hV))
 have HVE9 := zz (fun (V : World) (hV : Below w9.heap.size w9 V) => HVE.out V (bTrans HB69.out hV))
 have HRP9 := zz (fun (V : World) (hV : Below w9.heap.size w9 V) => HRP.out V (bTrans HB69.out hV))
 clear k9 hb9 hz9 hgu T9 O9 P9 O8 P8 HSU HSM HRI HVE HRP HR7 HRW2 HB6 HB67 HB68 HB69 HPK HUP HIT HZ1 HC2 HC3 HL1 HL2
 go_wp2_with (first
  | (refine wpList_load_midG rfl 76 (.tmp 7) rfl g7 0 rfl C1.toList _ (HR79.out _ (by first | exact Below.refl _ _ | exact HB910.out | exact HB911.out | exact HB912.out | exact HB913.out)) Tryz.underlying76 rfl (by rw [zK]; exact HYZ.out) ?_; rw [zJ])
  | (refine wpList_load_midG rfl 76 (.tmp 11) rfl gw 0 rfl C2.toList _ (HRW9.out _ (by first | exact Below.refl _ _ | exact HB910.out | exact HB911.out | exact HB912.out | exact HB913.out)) Tryz.underlying76 rfl (by rw [zK]; exact HXZ.out) ?_; rw [zJ])
  | (refine wpList_load_midG rfl 76 (.tmp 14) rfl gu 0 rfl C3.toList _ (HR9.out _ (by first | exact Below.refl _ _ | exact HB910.out | exact HB911.out | exact HB912.out | exact HB913.out)) Tryz.underlying76 rfl (by rw [zK]; exact HWZ.out) ?_; rw [zJ])
  | (go_at_call 42; first
   | (refine (HS9.out _ HB913.out).mono ?_; rintro e w14 ⟨rfl, hb⟩; have HB914 := zz (bTrans HB913.out hb); clear hb)
   | (refine (HSM9.out _ (Below.refl _ _)).mono ?_; rintro e w10 ⟨rfl, hb⟩; have HB910 := zz hb; clear hb))
  | (go_at_call 35; refine (HRI9.out _ HB910.out).mono ?_; rintro e w11 ⟨rfl, hb⟩; have HB911 := zz (bTrans HB910.out hb); clear hb)
  | (go_at_call 33; refine (HVE9.out _ HB911.out).mono ?_; rintro e w12 ⟨rfl, hb⟩; have HB912 := zz (bTrans HB911.out hb); clear hb)
  | (go_at_call 37; refine (HRP9.out _ HB912.out).mono ?_; rintro e w13 ⟨rfl, hb⟩; have HB913 := zz (bTrans HB912.out hb); clear hb))
 go_ret
 exact ⟨rfl, bTrans HB9.out HB914.out⟩
end
end Go.Proofs.YtibeihcpehikoaaGreat
