/-
  The walks beneath: StEq, TapN.
-/
import Derived.Test.YtibeihcpehikoaaGreatNr36
import Derived.Test.YtibeihcpehikoaaGreatNr37
import Derived.Test.YtibeihcpehikoaaGreatNr16
import Derived.Test.YtibeihcpehikoaaGreatNs8
namespace Go.Proofs.YtibeihcpehikoaaGreat
section
open Go.RowKit
set_option maxRecDepth 100000
set_option linter.unusedSimpArgs false
set_option maxHeartbeats 400000 in
theorem frames_deck {w : World} {base g : Nat} {s d x m : Int} {a b : List Nat} {n ev F : Nat} {ks : List (Nat → Int)} (h : DkW w base g s d x m a b n ev F ks) : Calls Tryz.prog 38 #[.pointer (some ⟨g, 0, none⟩)] w fun e w' => e = .returned (.int .i64 F) ∧ w = w' := by
  obtain ⟨A, B, K, cA, cB, nK, cK, hk, -, -, -⟩ := h.blk
  have d8 := hk.cell 8
  have dl := hk.lt
  simp only [List.getElem?_toArray, List.getElem?_cons_zero, List.getElem?_cons_succ] at d8
  clear h hk
  go_enter Tryz.func38, Tryz.ntmps38
  go_wp2
  go_ret
  exact ⟨rfl, rfl⟩
theorem preT_same {inp inq : Nat → Nat × Nat} {S : Nat → Int} {N : Nat} (h : ∀ j, j < N → inp j = inq j) : preT inp S N = preT inq S N := by
  unfold preT
  refine List.map_congr_left fun k hk => ?_
  rw [List.mem_range] at hk
  exact rdT_same k (fun j hj => h j (by omega))
theorem hapG_cut (s d : Int) (a b : List Nat) (n : Nat) (hn : n = min a.length b.length) : hapG s d (a.take n) (b.take n) = hapG s d a b := by
  have e : min (a.take n).length (b.take n).length = min a.length b.length := by rw [List.length_take, List.length_take]; omega
  unfold hapG
  rw [e, preT_same (inq := inpT d.toNat a b) (fun j hj => inpT_cut (by omega))]
set_option maxHeartbeats 4000000 in
theorem awake28_any (w : World) : Calls Tryz.prog 29 #[] w fun e w' => e = .returned (.bool true) ∧ Below w.heap.size w w' := by
  have HRC := Lib.hid (fun (V : World) (A B : Option Addr) (ra : Rd V V.heap.size A ([1, 2, 3].flatMap btC)) (rb : Rd V V.heap.size B ([0, 0, 0, 0].flatMap btC)) => record_good 0 2 1 0 A B 3 4 [1, 2, 3] [0, 0, 0, 0] 3 rfl V (by unfold U32; omega) (by decide) (by decide) (by decide) (by decide) (by decide) (by decide) ra rb)
  go_enter Tryz.func29, Tryz.ntmps29
  go_upto_region 2 with (first
    | (refine wpList_built rfl 24 [(1, .const (.int .i64 2)), (2, .const (.int .i64 1))] rfl #[.int .u32 0, .int .i64 2, .int .i64 1, .int .i64 0] [(1, .int .i64 2), (2, .int .i64 1)] ?_ built_cfg28 ?_; (case' hv => rfl))
    | (go_at_call 30; go_loud (refine (HRC.out _ _ _ ?ra ?rb).mono ?_)))
  case ra => exact (((rd_new w #[.int .u8 1, .int .u8 2, .int .u8 3] 5 w.heap.size rfl (w.heap.size + 1) (Nat.lt_succ_self _)).below (bAlloc (Below.refl _ _) _) (by simp)).more (by simp))
  case rb => exact rd_new (w.alloc (.cells #[.int .u8 1, .int .u8 2, .int .u8 3] 5)) #[.int .u8 0, .int .u8 0, .int .u8 0, .int .u8 0] 5 (w.heap.size + 1) (by simp) _ (by simp)
  have hb0 : Below w.heap.size w ((w.alloc (.cells #[.int .u8 1, .int .u8 2, .int .u8 3] 5)).alloc (.cells #[.int .u8 0, .int .u8 0, .int .u8 0, .int .u8 0] 5)) := bAlloc (bAlloc (Below.refl _ _) _) _
  obtain ⟨w1, hw1⟩ : ∃ w1, ((w.alloc (.cells #[.int .u8 1, .int .u8 2, .int .u8 3] 5)).alloc (.cells #[.int .u8 0, .int .u8 0, .int .u8 0, .int .u8 0] 5)) = w1 := ⟨_, rfl⟩
  rw [hw1] at hb0 ⊢
  have hcut := hapG_cut 0 2 [1, 2, 3] [0, 0, 0, 0] 3 rfl
  rw [show ([1, 2, 3] : List Nat).take 3 = [1, 2, 3] from rfl, show ([0, 0, 0, 0] : List Nat).take 3 = [0, 0, 0] from rfl] at hcut ⊢
  have hop := fun (V : World) (A B : Option Addr) (c c' : Nat) (ra : Rd V V.heap.size A ([1, 2, 3].flatMap btC)) (rb : Rd V V.heap.size B ([0, 0, 0].flatMap btC)) => open_good 2 (by decide) 0 2 1 _ A B c c' [1, 2, 3] [0, 0, 0] V (by unfold U32; omega) (by decide) (congrArg Nat.cast hcut) (by decide) ra rb
  obtain ⟨H, hH⟩ : ∃ H, hapG 0 2 [1, 2, 3] [0, 0, 0, 0] = H := ⟨_, rfl⟩
  rw [hH] at hop ⊢
  have HOP := Lib.hid hop
  have HB0 := Lib.hid hb0
  clear hw1 hb0 hop hH hcut HRC
  rintro e w3 ⟨A', B', cA, cB, rfl, ho1, ho2, hb3⟩
  have HO1 := Lib.hid ho1
  have HO2 := Lib.hid ho2
  have HB3 := Lib.hid (bTrans HB0.out hb3)
  clear ho1 ho2 hb3 HB0
  go_upto_region 2 with fail
  refine named1 (F := fun W => Code.wp _ _ _ _ W) ?_
  intro w4 k4 hb4 hz4
  have K4 := Lib.hid k4
  have HB4 := Lib.hid (bTrans HB3.out hb4)
  have hra := (HO1.out.below hb4).rd
  have hrb := (HO2.out.below hb4).rd
  have HRA := Lib.hid hra
  have HRB := Lib.hid hrb
  have q7 := K4.out; have s0a := q7.cell 0; have s0b := q7.cell 1; have s0c := q7.cell 2; have s0d := q7.cell 3; have s0e := q7.cell 4; have s0f := q7.cell 5; have s0g := q7.cell 6; have s0l := q7.lt; simp only [List.getElem?_toArray, List.getElem?_cons_zero, List.getElem?_cons_succ] at s0a s0b s0c s0d s0e s0f s0g; clear q7
  clear k4 hb4 hz4 hra hrb HO1 HO2 HB3
  go_upto_region 3 with (first
    | (go_at_call 31; refine (HOP.out w4 A' B' cA cB HRA.out HRB.out).mono ?_; rintro e w5 ⟨g, rfl, hg, hdk, hb5⟩; have HDK := Lib.hid hdk; have HB5 := Lib.hid (bTrans HB4.out hb5); have K5 := Lib.hid (K4.out.on hb5); clear hdk hb5))
  have HFR := Lib.hid (frames_deck HDK.out)
  clear s0a s0b s0c s0d s0e s0f s0g s0l
  have q7 := K5.out; have s0a := q7.cell 0; have s0b := q7.cell 1; have s0c := q7.cell 2; have s0d := q7.cell 3; have s0e := q7.cell 4; have s0f := q7.cell 5; have s0g := q7.cell 6; have s0l := q7.lt; simp only [List.getElem?_toArray, List.getElem?_cons_zero, List.getElem?_cons_succ] at s0a s0b s0c s0d s0e s0f s0g; clear q7
  go_wp2_with (first | (go_at_call 38; refine HFR.out.mono ?_; rintro e w6 ⟨rfl, rfl⟩))
  go_ret
  exact ⟨rfl, HB5.out⟩
end
end Go.Proofs.YtibeihcpehikoaaGreat
