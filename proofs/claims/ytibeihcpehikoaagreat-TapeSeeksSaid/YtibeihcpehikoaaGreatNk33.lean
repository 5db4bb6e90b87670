/-
  The walk of a whole step.
-/
import Derived.Test.YtibeihcpehikoaaGreatNk29
import Derived.Test.YtibeihcpehikoaaGreatNk32
namespace Go.Proofs.YtibeihcpehikoaaGreat
open Go.RowKit
set_option maxRecDepth 100000
set_option maxHeartbeats 4000000
section
def NoR (L : List Ev) : Prop := ∀ e ∈ L, e.kind ≠ 7
theorem NoR.nil : NoR [] := fun _ h => absurd h (by simp)
theorem NoR.add {L : List Ev} (h : NoR L) (F : Int) (x : Ev) (hx : x.kind ≠ 7) : NoR (addE F L x) := fun e he => by
 rcases mem_insL.1 he with rfl | he
 ·exact hx
 ·exact h e he
theorem NoR.cnt {L : List Ev} (h : NoR L) : cntE L 0 7 = 0 := by
 unfold cntE
 rw [List.filter_eq_nil_iff.2]
 ·rfl
 ·intro e he
  unfold sameK
  rw [decide_eq_false (h e he)]
  simp
theorem NoR.fire {S : Nat → Int} {L : List Ev} (h : NoR L) (i : Nat) (F : Int) : NoR (fireS i F (S, L)).2 := by
 unfold fireS
 dsimp only
 split
 ·exact h
 ·split
  ·exact h.add F _ (by show (1 : Int) ≠ 7; decide)
  ·exact h
theorem NoR.play {S : Nat → Int} {L : List Ev} (h : NoR L) (i n : Nat) (F : Int) : NoR (playS i n F (S, L)).2 := by
 have h1 : ∀ q, NoR (lThrust i q n F L) := fun q => by
  unfold lThrust
  split
  ·exact h.add F _ (by show (8 : Int) ≠ 7; decide)
  ·exact h
 have h2 : ∀ p, NoR (steerL i p n F L) := fun p => by
  unfold steerL lDash
  split
  ·exact (h1 _).add F _ (by show (9 : Int) ≠ 7; decide)
  ·exact h1 _
 have h3 : ∀ p q, NoR (lMove i q F (steerL i p n F L)) := fun p q => by
  unfold lMove
  split
  ·exact h2 _
  ·exact (h2 _).add F _ (by show (3 : Int) ≠ 7; decide)
 unfold playS
 dsimp only
 split
 ·exact h
 ·split
  ·exact h.add F _ (by show (6 : Int) ≠ 7; decide)
  ·split
   ·exact (h3 _ _).fire i F
   ·exact h3 _ _
theorem NoR.clash {S : Nat → Int} {L : List Ev} (h : NoR L) (F : Int) : NoR (clashS F (S, L)).2 := by
 unfold clashS
 split
 ·exact h.add F _ (by show (4 : Int) ≠ 7; decide)
 ·exact h
theorem NoR.hit {S : Nat → Int} {L : List Ev} (h : NoR L) (i : Nat) (F : Int) : NoR (hitS i F (S, L)).2 := by
 unfold hitS
 dsimp only
 split
 ·exact h.add F _ (by show (2 : Int) ≠ 7; decide)
 ·exact (h.add F _ (by show (2 : Int) ≠ 7; decide)).add F _ (by show (5 : Int) ≠ 7; decide)
theorem NoR.flyT {S : Nat → Int} {L : List Ev} (h : NoR L) (k : Nat) (F : Int) : NoR (flyT k F (S, L)).2.2 := by
 unfold Go.Proofs.YtibeihcpehikoaaGreat.flyT
 dsimp only
 split
 ·exact h
 ·split
  ·exact h
  ·split
   ·exact h.hit _ F
   ·exact h
theorem NoR.fly {S : Nat → Int} {L : List Ev} (h : NoR L) (k : Nat) (F : Int) : NoR (flyS k F (S, L)).2 := by
 unfold flyS
 split
 ·exact h
 ·split
  ·exact h.flyT k F
  ·exact h.flyT k F
theorem NoR.flyTo {S : Nat → Int} {L : List Ev} (h : NoR L) (F : Int) : ∀ k, NoR (flyTo F (S, L) k).2
 | 0 => h
 | k + 1 => (NoR.flyTo h F k).fly (S := (Go.Proofs.YtibeihcpehikoaaGreat.flyTo F (S, L) k).1) k F
theorem stg4_nor (n0 n1 : Nat) (S : Nat → Int) (k : Nat) : NoR (stg4 n0 n1 S k).2 :=
 ((((NoR.nil.play (S := S) 0 n0 (S 0)).play (S := (stg1 n0 S).1) 1 n1 (S 0)).clash (S := (stg2 n0 n1 S).1) (S 0)).flyTo (S := (stg3 n0 n1 S).1) (S 0) k)
theorem u8_gt {n : Nat} (h : n < 64) : decide ((63 : Int) < (n : Int)) = false := decide_eq_false (by omega)
theorem Stg.open_ {w : World} {g gp base : Nat} {S : Nat → Int} {F : Int} (h : StBlk w g gp S) (hp : Blk w gp 265 #[.int .i64 F, .slice none 0 0]) (bg : base ≤ g) (bp : base ≤ gp) (bw : base ≤ w.heap.size) : Stg w g gp base S F [] :=
 ⟨h, ⟨none, 0, 0, hp, OwnL.nil, zL _, by decide⟩, PageOk.nil F, bg, bp, bw⟩
theorem built_stage (S : Nat → Int) (p : Option Addr) : Tryz.prog.built 201 [(0, .agg (stCells S).toArray), (1, .pointer p)] = some (stCells S ++ [Value.pointer p]).toArray := by
 have hu : ∃ z, (Tryz.prog.info? 201).bind (·.zero) = some z ∧ z.cells.size = 61 := by
  cases h : (Tryz.prog.info? 201).bind (·.zero) with
  | none =>
   have : ((Tryz.prog.info? 201).bind (·.zero)).isSome = true := by kernel_rfl
   rw [h] at this; cases this
  | some z =>
   have : ((Tryz.prog.info? 201).bind (·.zero)).map (·.cells.size) = some 61 := by kernel_rfl
   rw [h] at this
   exact ⟨z, rfl, by simpa using this⟩
 obtain ⟨z, hz, hs⟩ := hu
 rw [built_struct (places := [(0, 60), (60, 1)]) Tryz.underlying201 hz (by kernel_rfl)]
 exact fill_two _ _ (stCells S) [.pointer p] _ _ rfl rfl (by rw [stCells_length]; rfl) (by rw [stCells_length]; rfl) (by rw [hs, stCells_length]; rfl)
def stgN (n0 n1 : Nat) (S : Nat → Int) : Nat → StL
 | 0 => (S, [])
 | 1 => stg1 n0 S
 | _ => stg2 n0 n1 S
theorem roundS_fr (F : Int) (T : Nat → Int) (L : List Ev) : (roundS F (T, L)).1 0 = T 0 := by
 unfold roundS
 split
 ·rfl
 ·rfl
theorem StBlk.range {w : World} {g gp : Nat} {T : Nat → Int} (h : StBlk w g gp T) : w.rangeAt g 0 (stCells T) := fun j v hv => by
 have hj : j < 60 := by have := (List.getElem?_eq_some_iff.1 hv).1; rwa [stCells_length] at this
 rw [Nat.zero_add, h.cell j hj, ← hv]
 simp [stCells, rowOf, hj]
def zeros6 : List Value := [.int .i32 0, .int .i32 0, .int .i32 0, .int .i32 0, .int .i64 0, .int .i64 0]
theorem zeros6_one : ∀ v ∈ zeros6, v.oneCell' = true := fun v hv => by
 simp only [zeros6, List.mem_cons, List.not_mem_nil, or_false] at hv
 rcases hv with rfl | rfl | rfl | rfl | rfl | rfl <;> rfl
theorem Stg.zero6 {w : World} {g gp base : Nat} {T : Nat → Int} {F : Int} {L : List Ev} (h : Stg w g gp base T F L) {k : Nat} (hk : k < 6) : Stg (w.setCells g (24 + k * 6) zeros6) g gp base (putS T k zeroS) F L := by
 refine h.setRange (24 + k * 6) zeros6 _ (by show 24 + k * 6 + 6 ≤ 60; omega) (fun j hj => ?_) (fun j _ hj => ?_)
 ·have hj : j < 6 := hj
  rw [putS_at T k _ j hj, kdS_s k j hj]
  obtain rfl | rfl | rfl | rfl | rfl | rfl : j = 0 ∨ j = 1 ∨ j = 2 ∨ j = 3 ∨ j = 4 ∨ j = 5 := by omega
  all_goals rfl
 ·have : zeros6.length = 6 := rfl
  exact putS_other T k _ j (by omega)
section
variable {S : Nat → Int} {n0 n1 : Nat} {w : World}
theorem gStep_yes (hok : StOk S) (hF : S 0 < 1073741824) (h0 : n0 < 64) (h1 : n1 < 64) :
  Calls Tryz.prog 55 #[.agg (stCells S).toArray, .agg #[.int .u8 n0, .int .u8 n1]] w fun e w' => ∃ A c, e = .returned (.tuple #[.agg (stCells (stepS n0 n1 S).1).toArray, .slice A (stepS n0 n1 S).2.length c, .int .i64 0]) ∧ OwnL w' w.heap.size 62 9 (.slice A (stepS n0 n1 S).2.length c) Ev.cells (stepS n0 n1 S).2 ∧ Below w.heap.size w w' := by
 have HR := zz (fun W => (gRight_any S W).mono fun e w' ⟨he, hb⟩ => (⟨by rw [he, hok.right], hb⟩ : e = Ending.returned (.bool true) ∧ Below W.heap.size W w'))
 have hF0 := hok.m.fr.1
 have hne : (S 0 == 1073741824) = false := by simp; omega
 have g0 := u8_gt h0
 have g1 := u8_gt h1
 have HO := zz hok
 have HF := zz hF
 clear hok hF
 obtain ⟨TS, LS, hTS⟩ : ∃ T L, stepS n0 n1 S = (T, L) := ⟨_, _, rfl⟩
 rw [hTS]
 have HTSL := zz hTS
 clear hTS
 go_enter Tryz.func55, Tryz.ntmps55
 go_upto_region 1 with fail
 refine named3 (F := fun W => Code.wp _ _ _ _ W) ?_
 intro w1 k0 k1 k2 hb1 hz1
 have HK0 := zz k0
 have HK1 := zz k1
 have HK2 := zz k2
 have HB1 := zz hb1
 have HZ1 := zz hz1
 clear k0 k1 k2 hb1 hz1
 go_upto_region 3 with (first
  | (refine wpList_load_mid rfl 41 (.tmp 2) rfl w.heap.size 0 rfl (stCells S) _ (Blk.range HK0.out) Tryz.underlying41 rfl (by kernel_rfl) ?_)
  | (go_at_call 119; refine (HR.out _).mono ?_; rintro e w2 ⟨rfl, hb2⟩; have HB2 := zz hb2; have HK12 := (HK1.out.on hb2); have i0 := HK12.cell 0; have i1 := HK12.cell 1; simp only [zA, zB, zC] at i0 i1; clear HK12))
 have HK02 := zz (HK0.out.on HB2.out)
 have HK12 := zz (HK1.out.on HB2.out)
 have HK22 := zz (HK2.out.on HB2.out)
 have HBW2 := zz (bTrans HB1.out HB2.out)
 have e0 : w2.cell? ⟨w.heap.size, 0, none⟩ = some (.int .i64 (S 0)) := st_cell HK02.out 0 (by decide)
 have l2 := HK22.out.lt
 clear i0 i1
 go_upto_region 8 with (first
  | (refine (open_yes (S 0) _ hF0 (by have := HF.out; omega)).mono ?_; rintro e w3 ⟨rfl, hp3, hb3⟩))
 have HP3 := zz hp3
 have HB3 := zz hb3
 have HK03 := zz (HK02.out.on hb3)
 have HK13 := zz (HK12.out.on hb3)
 have HK23 := zz (HK22.out.on hb3)
 have HBW3 := zz (bTrans HBW2.out hb3)
 clear hp3 hb3 e0 l2
 obtain ⟨CS, hcs⟩ : ∃ CS : Array Value, (stCells S ++ [Value.pointer (some ⟨w2.heap.size, 0, none⟩)]).toArray = CS := ⟨_, rfl⟩
 have HCS := zz hcs
 have hbt := built_stage S (some ⟨w2.heap.size, 0, none⟩)
 rw [hcs] at hbt
 have HBT := zz hbt
 clear hcs hbt
 go_upto_region 9 with (first
  | (refine wpList_load_mid rfl 41 (.tmp 2) rfl w.heap.size 0 rfl (stCells S) _ (Blk.range HK03.out) Tryz.underlying41 rfl (by kernel_rfl) ?_)
  | (refine wpList_built rfl 201 [(0, .tmp 43), (1, .tmp 44)] rfl CS [(0, .agg (stCells S).toArray), (1, .pointer (some ⟨w2.heap.size, 0, none⟩))] rfl HBT.out ?_))
 refine named1 (F := fun W => Code.wp _ _ _ _ W) ?_
 intro w4 k4 hb4 hz4
 have hl3 := HB3.out.size
 have hpl := HP3.out.lt
 have HBW4 := zz (bTrans HBW3.out hb4)
 have hst : Stg w4 w3.heap.size w2.heap.size w2.heap.size S (S 0) [] := by
  refine Stg.open_ ?_ (HP3.out.on hb4) hl3 (zL _) (by omega)
  unfold StBlk
  rw [HCS.out]
  exact k4
 have HST := zz hst
 have HK14 := zz (HK13.out.on hb4)
 have HK24 := zz (HK23.out.on hb4)
 have hlo : w.heap.size + 1 + 1 < w2.heap.size := HK22.out.lt
 clear HR HK0 HK1 HK2 HB1 HZ1 HB2 HK02 HK12 HK22 HBW2 HB3 HK03 HK13 HK23 HBW3 k4 hb4 hz4 HP3 HCS HBT hst hne
 go_wp2_with fail
 have HP0 : Hid (∀ W, Stg W w3.heap.size w2.heap.size w2.heap.size S (S 0) [] → Calls Tryz.prog 121 #[.pointer (some ⟨w3.heap.size, 0, none⟩), .int .i64 0, .int .u8 n0] W fun e w' => e = .returned (.tuple #[]) ∧ Stg w' w3.heap.size w2.heap.size w2.heap.size (stgN n0 n1 S 1).1 (S 0) (stgN n0 n1 S 1).2 ∧ Below w2.heap.size W w') :=
  zz (fun W h => gplay_any (i := 0) h (by decide) HO.out h0 ⟨hF0, by have := HF.out; omega⟩ rfl (by simp))
 have hs1 := stg1_ok n0 HO.out
 have HP1 : Hid (∀ W, Stg W w3.heap.size w2.heap.size w2.heap.size (stgN n0 n1 S 1).1 (S 0) (stgN n0 n1 S 1).2 → Calls Tryz.prog 121 #[.pointer (some ⟨w3.heap.size, 0, none⟩), .int .i64 1, .int .u8 n1] W fun e w' => e = .returned (.tuple #[]) ∧ Stg w' w3.heap.size w2.heap.size w2.heap.size (stgN n0 n1 S 2).1 (S 0) (stgN n0 n1 S 2).2 ∧ Below w2.heap.size W w') :=
  zz (fun W h => gplay_any (i := 1) h (by decide) hs1.1 h1 ⟨hF0, by have := HF.out; omega⟩ hs1.2.2.fr (by have := hs1.2.1.len; show (stg1 n0 S).2.length ≤ 10; omega))
 clear hs1
 have HST0 : Hid (Stg w4 w3.heap.size w2.heap.size w2.heap.size (stgN n0 n1 S 0).1 (S 0) (stgN n0 n1 S 0).2) := HST
 clear HST
 go_loopw [47] (fun v wr => ∃ i : Nat, i ≤ 2 ∧ v = .int .i64 i ∧ Hid (Stg wr w3.heap.size w2.heap.size w2.heap.size (stgN n0 n1 S i).1 (S 0) (stgN n0 n1 S i).2) ∧ Hid (Below w2.heap.size w4 wr)) (fun v _ => 2 - (intOf v).toNat)
 case atStart => exact ⟨0, by decide, rfl, HST0, zz (Below.refl _ _)⟩
 case round =>
  obtain ⟨i, hi, rfl, HSI, HBI⟩ := hrel
  clear HST0
  by_cases hlt : i < 2
  ·have hk1 := HK14.out.below HBI.out (by omega)
   have i0 := hk1.cell 0
   have i1 := hk1.cell 1
   simp only [zA, zB, zC] at i0 i1
   clear hk1
   have hi2 : i = 0 ∨ i = 1 := by omega
   rcases hi2 with rfl | rfl
   ·go_wp2_with (first | (go_at_call 121; refine (HP0.out _ HSI.out).mono ?_; rintro e w5 ⟨rfl, h5, hb5⟩))
    have H5 := zz h5
    have HB5 := zz (HBI.out.trans hb5)
    clear h5 hb5 i0 i1
    go_wp2
    go_roundw
    case rel => exact ⟨1, by omega, rfl, H5, HB5⟩
    case measure => simp [intOf]
   ·go_wp2_with (first | (go_at_call 121; refine (HP1.out _ HSI.out).mono ?_; rintro e w5 ⟨rfl, h5, hb5⟩))
    have H5 := zz h5
    have HB5 := zz (HBI.out.trans hb5)
    clear h5 hb5 i0 i1
    go_wp2
    go_roundw
    case rel => exact ⟨2, by omega, rfl, H5, HB5⟩
    case measure => simp [intOf]
  ·obtain rfl : i = 2 := by omega
   go_wp2_with fail
   have hs2 := stg2_ok n0 n1 HO.out
   have hp0 := hs2.1.m.pl 0 (by decide)
   have hp1 := hs2.1.m.pl 1 (by decide)
   have hdn0 : 0 ≤ (stg2 n0 n1 S).1 12 ∧ (stg2 n0 n1 S).1 12 ≤ 30 := hp0.dn
   have hdn1 : 0 ≤ (stg2 n0 n1 S).1 22 ∧ (stg2 n0 n1 S).1 22 ≤ 30 := hp1.dn
   have hx0 : -3932160 ≤ (stg2 n0 n1 S).1 4 ∧ (stg2 n0 n1 S).1 4 ≤ 3932160 := hp0.ax
   have hy0 : -3932160 ≤ (stg2 n0 n1 S).1 5 ∧ (stg2 n0 n1 S).1 5 ≤ 3932160 := hp0.ay
   have hx1 : -3932160 ≤ (stg2 n0 n1 S).1 14 ∧ (stg2 n0 n1 S).1 14 ≤ 3932160 := hp1.ax
   have hy1 : -3932160 ≤ (stg2 n0 n1 S).1 15 ∧ (stg2 n0 n1 S).1 15 ≤ 3932160 := hp1.ay
   have hle2 := hs2.2.1.len
   have HF30 : Hid (0 ≤ S 0 ∧ S 0 ≤ 1073741824) := zz ⟨hF0, by have := HF.out; omega⟩
   refine (gclash_any (S := (stg2 n0 n1 S).1) (L := (stg2 n0 n1 S).2) HSI.out HF30.out hdn0.1 hdn1.1 (by unfold F32; omega) (by unfold F32; omega) (by unfold F32; omega) (by unfold F32; omega) (by omega)).mono ?_
   rintro e w6 ⟨rfl, h6, hb6⟩
   have H6 : Hid (Stg w6 w3.heap.size w2.heap.size w2.heap.size (stg4 n0 n1 S 0).1 (S 0) (stg4 n0 n1 S 0).2) := zz h6
   have HB6 := zz (HBI.out.trans hb6)
   clear h6 hb6 hs2 hp0 hp1 hdn0 hdn1 hx0 hy0 hx1 hy1 hle2 HSI HBI HP0 HP1
   go_wp2_with fail
   go_loopw [59] (fun v wr => ∃ k : Nat, k ≤ 6 ∧ v = .int .i64 k ∧ Hid (Stg wr w3.heap.size w2.heap.size w2.heap.size (stg4 n0 n1 S k).1 (S 0) (stg4 n0 n1 S k).2) ∧ Hid (Below w2.heap.size w4 wr)) (fun v _ => 6 - (intOf v).toNat)
   case atStart => exact ⟨0, by decide, rfl, H6, HB6⟩
   case round =>
    obtain ⟨k, hk, rfl, HSK, HBK⟩ := hrel
    clear H6 HB6
    by_cases hlt : k < 6
    ·obtain ⟨T, L, hTL⟩ : ∃ T L, stg4 n0 n1 S k = (T, L) := ⟨_, _, rfl⟩
     obtain ⟨hm, hev, -⟩ := stg4_ok n0 n1 HO.out k hk
     rw [hTL] at HSK hm hev
     have HM := zz hm
     have HEV := zz hev
     have HNX : Hid (stg4 n0 n1 S (k + 1) = flyS k (S 0) (T, L)) := zz (by rw [show stg4 n0 n1 S (k + 1) = flyS k (S 0) (stg4 n0 n1 S k) from rfl, hTL])
     clear hm hev hTL
     have hkI : (k : Int) < 6 := by omega
     have c4 : wr.cell? ⟨w3.heap.size, 24 + k * 6 + 4, none⟩ = some (.int .i64 (T (24 + k * 6 + 4))) := HSK.out.cellS hlt 4 (by decide) rfl
     have hgl := HSK.out.lt
     by_cases h4 : T (24 + k * 6 + 4) = 0
     ·have hz : (T (24 + k * 6 + 4) != 0) = false := by simpa using h4
      have HQ : Hid (stg4 n0 n1 S (k + 1) = (T, L)) := zz (HNX.out.trans (by unfold flyS; exact if_pos h4))
      clear h4
      go_wp2_with fail
      go_roundw
      case rel => exact ⟨k + 1, by omega, by go_num, zz (by rw [HQ.out]; exact HSK.out), HBK⟩
      case measure => simp [intOf]; omega
     ·have hz : (T (24 + k * 6 + 4) != 0) = true := by simpa using h4
      obtain ⟨b, T', L', hft⟩ : ∃ b T' L', flyT k (S 0) (T, L) = (b, (T', L')) := ⟨_, _, _, rfl⟩
      have HFL : Hid (∀ W, Stg W w3.heap.size w2.heap.size w2.heap.size T (S 0) L → Calls Tryz.prog 123 #[.pointer (some ⟨w3.heap.size, 0, none⟩), .pointer (some ⟨w3.heap.size, 24 + k * 6, none⟩)] W fun e w' => e = .returned (.bool b) ∧ Stg w' w3.heap.size w2.heap.size w2.heap.size T' (S 0) L' ∧ Below w2.heap.size W w') := zz (fun W h => by
       have := gfly_any h hlt HM.out h4 HF30.out HEV.out (by omega) (by omega)
       rw [hft] at this
       exact this)
      have HQ : Hid (stg4 n0 n1 S (k + 1) = if b then (T', L') else (putS T' k zeroS, L')) := zz (HNX.out.trans (by
       unfold flyS
       refine (if_neg h4).trans ?_
       rw [hft]))
      clear h4 hft HNX HM HEV
      cases b
      ·go_upto_region 20 with (first | (go_at_call 123; refine (HFL.out _ HSK.out).mono ?_; rintro e w7 ⟨rfl, h7, hb7⟩))
       have H7 := zz h7
       have HB7 := zz (HBK.out.trans hb7)
       have hgl7 := h7.lt
       have HTH := zz (h7.there (o := 24 + k * 6) (n := 6) (by omega))
       have HZ7 := zz (h7.zero6 hlt)
       have HBZ := zz (bSetC HB7.out (Nat.le_of_lt hpl) (24 + k * 6) zeros6)
       clear h7 hb7 c4 hz hgl
       go_upto_region 21 with (first | (refine wpList_store_mid rfl 38 (.tmp 81) (.tmp 80) rfl w3.heap.size (24 + k * 6) zeros6.toArray rfl rfl HTH.out (by kernel_rfl) (all_oneCell_toArray zeros6_one) ?_))
       obtain ⟨wz, hwz⟩ : ∃ wz, w7.setCells w3.heap.size (24 + k * 6) zeros6 = wz := ⟨_, rfl⟩
       rw [hwz] at HZ7 HBZ ⊢
       clear hwz HTH
       go_wp2_with fail
       go_roundw
       case rel => exact ⟨k + 1, by omega, by go_num, zz (by rw [HQ.out]; exact HZ7.out), HBZ⟩
       case measure => simp [intOf]; omega
      ·go_wp2_with (first | (go_at_call 123; refine (HFL.out _ HSK.out).mono ?_; rintro e w7 ⟨rfl, h7, hb7⟩))
       have H7 := zz h7
       have HB7 := zz (HBK.out.trans hb7)
       clear h7 hb7 c4 hz hgl
       go_wp2
       go_roundw
       case rel => exact ⟨k + 1, by omega, by go_num, zz (by rw [HQ.out]; exact H7.out), HB7⟩
       case measure => simp [intOf]; omega
    ·obtain rfl : k = 6 := by omega
     go_wp2_with fail
     obtain ⟨hm6, hev6, hhd6⟩ := stg4_ok n0 n1 HO.out 6 (zL _)
     have hnr := (stg4_nor n0 n1 S 6).cnt
     obtain ⟨T6, L6, hT6⟩ : ∃ T L, stg4 n0 n1 S 6 = (T, L) := ⟨_, _, rfl⟩
     have h56 : stg5 n0 n1 S = roundS (S 0) (T6, L6) := by unfold stg5; rw [hT6]
     rw [hT6] at HSK hm6 hev6 hhd6 hnr
     have hl6 : L6.length ≤ 21 := hev6.len
     have hfr : (stg5 n0 n1 S).1 0 = S 0 := by rw [h56]; exact (roundS_fr _ _ _).trans hhd6.fr
     have HG : Hid (∀ W, Stg W w3.heap.size w2.heap.size w2.heap.size T6 (S 0) L6 → Calls Tryz.prog 124 #[.pointer (some ⟨w3.heap.size, 0, none⟩)] W fun e w' => e = .returned (.tuple #[]) ∧ Stg w' w3.heap.size w2.heap.size w2.heap.size (stg5 n0 n1 S).1 (S 0) (stg5 n0 n1 S).2 ∧ Below w2.heap.size W w') := zz (fun W h => by
      rw [h56]
      exact ground_any h HF30.out hm6.rd hm6.lf (by omega) (by rw [hnr]; decide))
     have HSE : Hid ((TS, LS) = (upd (stg5 n0 n1 S).1 0 (S 0 + 1), (stg5 n0 n1 S).2)) := zz (HTSL.out.symm.trans (stepS_eq n0 n1 S))
     obtain ⟨T5, L5, hT5⟩ : ∃ T L, stg5 n0 n1 S = (T, L) := ⟨_, _, rfl⟩
     rw [hT5] at HG HSE hfr
     have HFR := zz hfr
     have HTS : Hid (TS = upd T5 0 (S 0 + 1)) := zz (congrArg Prod.fst HSE.out)
     have HLS : Hid (LS = L5) := zz (congrArg Prod.snd HSE.out)
     clear hm6 hev6 hhd6 hnr hT6 h56 hl6 hfr hT5 HSE
     refine (HG.out _ HSK.out).mono ?_
     rintro e w8 ⟨rfl, h8, hb8⟩
     have c0 : w8.cell? ⟨w3.heap.size, 0, none⟩ = some (.int .i64 (S 0)) := by rw [← HFR.out]; exact h8.st.cell 0 (by decide)
     have y0 := h8.st.frozen 0
     have hg8 := h8.lt
     have H9 : Hid (Stg (w8.setCell ⟨w3.heap.size, 0, none⟩ (.int .i64 (S 0 + 1))) w3.heap.size w2.heap.size w2.heap.size TS (S 0) LS) := zz (by rw [HTS.out, HLS.out]; exact h8.set 0 (by decide) (k := .i64) rfl (S 0 + 1))
     have HB9 := zz (bSetB (HBK.out.trans hb8) (Nat.le_of_lt hpl) 0 (.int .i64 (S 0 + 1)))
     clear h8 hb8 HSK HBK HG HFR
     have hF1 := HF.out
     go_upto_region 24 with fail
     obtain ⟨w9, hw9⟩ : ∃ w9, w8.setCell ⟨w3.heap.size, 0, none⟩ (.int .i64 (S 0 + 1)) = w9 := ⟨_, rfl⟩
     rw [hw9] at H9 HB9 ⊢
     have hl9 := H9.out.lt
     have hlen9 : LS.length ≤ 100000 := by
      have := (stg4_ok n0 n1 HO.out 6 (zL _)).2.1.len
      have h5 : (roundS (S 0) (stg4 n0 n1 S 6)).2.length ≤ (stg4 n0 n1 S 6).2.length + 1 := by
       unfold roundS
       split
       ·rw [addE_length]; exact zL _
       ·exact Nat.le_succ _
      have h6 : LS.length = (roundS (S 0) (stg4 n0 n1 S 6)).2.length := by rw [show LS = (stepS n0 n1 S).2 by rw [HTSL.out], stepS_eq]; rfl
      omega
     have HLE := zz hlen9
     have HK29 := zz (HK24.out.below HB9.out (by omega))
     clear hlen9 HK14 HK24
     refine wp_region_mix 5 rfl (fun v => ∃ A c, v = .slice A LS.length c) (fun v W => OwnL W w9.heap.size 62 9 v Ev.cells LS) (fun v W U h k => h.below k) (by kernel_rfl) (by kernel_rfl) ?_
     simp only [List.take_succ_cons, List.take_zero, List.drop_succ_cons, List.drop_zero]
     refine wpFx_plain rfl rfl (fun K hK => ?_)
     go_big_quiet_op
     refine hK _ ?_
     clear hK K
     refine wpFx_plain rfl rfl (fun K hK => ?_)
     go_big_quiet_op
     refine hK _ ?_
     clear hK K
     refine wpFx_plain rfl rfl (fun K hK => ?_)
     go_big_quiet_op
     refine hK _ ?_
     clear hK K
     refine wpFx_load rfl 41 (.tmp 96) rfl w3.heap.size 0 rfl (stCells TS) _ hl9 (StBlk.range H9.out.st) Tryz.underlying41 rfl (by kernel_rfl) ?_
     simp only [Act.put, zD, zE, zF]
     refine wpFx_plain rfl rfl (fun K hK => ?_)
     go_big_quiet_op
     refine hK _ ?_
     clear hK K
     refine ⟨rfl, ?_, ?_⟩
     ·intro W hW
      have hM : Calls Tryz.prog 125 #[.pointer (some ⟨w2.heap.size, 0, none⟩)] W fun e w'' => ∃ v, e = .returned v ∧ ((∃ A c, v = .slice A LS.length c) ∧ OwnL w'' w9.heap.size 62 9 v Ev.cells LS) ∧ Grown W w'' := by
       obtain ⟨A, n, c, hp, ho, -⟩ := H9.out.pg
       refine (list_any w2.heap.size (S 0) A n c LS w2.heap.size W (hp.on hW) (ho.below hW) HLE.out).mono ?_
       rintro e w'' ⟨A', c', rfl, h1, h2⟩
       exact ⟨_, rfl, ⟨⟨A', c', rfl⟩, h1.more (Below.size hW)⟩, h2⟩
      have HM := zz hM
      clear hM
      go_simp
      exact HM.out
     ·rintro v W ⟨A, c, rfl⟩ hO hW
      have HO9 := zz hO
      have HK3 := zz (HK29.out.on hW)
      have hW2 := Below.size hW
      have HBW := zz ((HBW4.out.trans (HB9.out.mono (by omega))).trans (Below.mono hW (by omega)))
      clear hO hW
      have HTH := zz (Blk.there HK3.out (o := 0) (n := 60) (by decide))
      have hrg := World.rangeAt_setCells_same W (w.heap.size + 1 + 1) 0 (stCells TS) (by rw [stCells_length]; exact HTH.out)
      have HOZ : Hid (OwnL (W.setCells (w.heap.size + 1 + 1) 0 (stCells TS)) w9.heap.size 62 9 (.slice A LS.length c) Ev.cells LS) := zz (OwnL.kept (row := some (w.heap.size + 1 + 1)) HO9.out (oSetCells (World.grownBy.refl W _) 0 _) (.inr (Blk.apart HK3.out HO9.out (by decide))))
      have HBZ := zz (bSetCells HBW.out (show w.heap.size ≤ w.heap.size + 1 + 1 by omega) 0 (stCells TS))
      have HRES := zz (run_loadVar_mid (P := Tryz.prog) _ _ _ 41 (stCells TS) _ hrg Tryz.underlying41 rfl (by kernel_rfl))
      have HTH' : Hid (W.there (w.heap.size + 1 + 1) 0 (stCells TS).toArray.size) := zz (by rw [show (stCells TS).toArray.size = 60 from by rw [zM, stCells_length]]; exact HTH.out)
      clear hrg HTH HO9 HK3
      simp only [zD, zE, zF]
      refine wpList_store_mid rfl 41 (.tmp 4) (.tmp 97) rfl (w.heap.size + 1 + 1) 0 (stCells TS).toArray rfl rfl HTH'.out (by kernel_rfl) (all_oneCell_toArray (int_one TS)) ?_
      obtain ⟨Wz, hWz⟩ : ∃ Wz, W.setCells (w.heap.size + 1 + 1) 0 (stCells TS) = Wz := ⟨_, rfl⟩
      rw [hWz] at HOZ HBZ HRES
      rw [show (stCells TS).toArray.toList = stCells TS from rfl, hWz]
      clear hWz HTH'
      go_wp2_with fail
      have hres := HRES.out
      refine bodyPost_ret (v := .tuple #[.agg (stCells TS).toArray, .slice A LS.length c, .int .i64 0]) (results_c2 (a := 4) (t := 41) (x := 5) (y := 6) rfl rfl hres) rfl ⟨A, c, rfl, HOZ.out.more (Nat.le_trans (Nat.le_trans (by omega : w.heap.size ≤ w2.heap.size) (Nat.le_of_lt hpl)) (Nat.le_of_lt hl9)), HBZ.out⟩
end
end
end Go.Proofs.YtibeihcpehikoaaGreat
