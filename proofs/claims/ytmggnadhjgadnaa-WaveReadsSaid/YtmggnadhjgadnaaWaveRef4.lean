/-
  The walk of the reference's Read.
-/
import Derived.Test.YtmggnadhjgadnaaWaveRef3
import Derived.Test.YtmggnadhjgadnaaWaveRead3
import Derived.Deep.RegionLaw
namespace Go.Proofs.Ytmggnadhjgadnaa
open Go.RowKit

theorem str_neq2 (l : List UInt8) (a : ByteArray) (w : World) : (binOp .neq 9 (str l) (.string a)).run Try.prog w = .ok (.bool (!decide (l = a.data.toList))) w := by
  unfold str
  simp [go_sem, ByteArray.toList_eq]
  exact Bool.beq_eq_decide_eq _ _

theorem str_guard (op : BinOp) (x y : Operand) (l : List UInt8) (v : Value) (w : World) : (eqGuard op 9 x y (str l) v).run Try.prog w = .ok () w := by
  unfold str
  simp [go_sem]

set_option maxRecDepth 100000 in
set_option maxHeartbeats 1000000 in
theorem rread_short (s : ByteArray) (w : World) (h : s.size < 44) : Calls Try.prog 14 #[.string s] w fun e w' => e = .returned (.tuple #[.slice none 0 0, .int .i64 0, .int .i64 3]) ∧ w = w' := by
  go_enter Try.func14, Try.ntmps14
  go_wp2
  go_ret3
  exact ⟨rfl, rfl⟩

def RR (s : ByteArray) (w : World) (e : Ending) (w' : World) : Prop :=
  (formB s.data.toList = false → e = .returned (.tuple #[.slice none 0 0, .int .i64 0, .int .i64 4])) ∧
  (formB s.data.toList = true → ∃ A c, e = .returned (.tuple #[.slice A (chunks (s.data.toList.drop 44)).length c, .int .i64 (rateOf s.data.toList : Nat), .int .i64 0]) ∧ OwnL w' w.heap.size 24 2 (.slice A (chunks (s.data.toList.drop 44)).length c) Pr.cells (chunks (s.data.toList.drop 44))) ∧ Below w.heap.size w w'

set_option maxRecDepth 100000 in
set_option maxHeartbeats 2000000 in
theorem rread_any (s : ByteArray) (w : World) (h : 44 ≤ s.size) (hm : s.size ≤ 100000) : Calls Try.prog 14 #[.string s] w fun e w' => RR s w e w' := by
  obtain ⟨i0, hi0, hz0, hz1, hz2⟩ := info_parts Try.infoPair
  obtain ⟨B, hB⟩ : ∃ B, s.data.toList.drop 44 = B := ⟨_, rfl⟩
  have hlen : B.length = s.size - 44 := by rw [← hB, List.length_drop, size_list]
  obtain ⟨n, hn⟩ : ∃ n, (s.size - 44) / 4 = n := ⟨_, rfl⟩
  have hcl : (chunks B).length = n := by rw [chunks_length _ _ (Nat.le_refl _)]; omega
  have HCL := Lib.hid hcl
  have HBB := Lib.hid hB
  have HLN := Lib.hid hlen
  have hn1 : 44 + 4 * n ≤ s.size := by omega
  have hn2 : s.size < 48 + 4 * n := by omega
  clear hB hlen hn hcl
  go_enter Try.func14, Try.ntmps14
  go_wp2
  go_loopw [5, 6] (fun v i wr => ∃ k q : Nat, k ≤ n ∧ q = 44 + 4 * k ∧ i = .int .i64 (q : Int) ∧ ∃ A' cp, v = .slice A' k cp ∧ OwnL wr w.heap.size 24 2 (.slice A' k cp) Pr.cells ((chunks B).take k) ∧ Below w.heap.size w wr) (fun _ i _ => s.size - (intOf i).toNat)
  case atStart => exact ⟨0, 44, Nat.zero_le _, rfl, rfl, some ⟨w.heap.size, 0, none⟩, 0, rfl, OwnL.lit (f := Pr.cells) [] #[] (Nat.le_refl _) (by simp) Pr.cells_length rfl rfl rfl, bAlloc (Below.refl _ _) _⟩
  case round =>
    obtain ⟨k, q, hk, hq, rfl, A', cp, rfl, hown, hb⟩ := hrel
    have HO := Lib.hid hown
    have HBS := Lib.hid hown.base_le
    clear hown
    obtain ⟨C, hC⟩ : ∃ C, B.drop (4 * k) = C := ⟨_, rfl⟩
    have hdl : C.length + (4 * k + 44) = s.size := by rw [← hC, List.length_drop, HLN.out]; omega
    by_cases hlt : k < n
    · have hct := chunks_take B k (by have := HLN.out; omega)
      rw [hC] at hct
      have HCT := Lib.hid hct
      have e1 : ∀ a b : Nat, (s.extract (q + a) (q + b)).data.toList = (C.take b).drop a := fun a b => by
        rw [extract_mid, ← hC, ← HBB.out, List.drop_drop, List.drop_take, List.drop_take, List.drop_drop]
        congr 1
        · omega
        · congr 1
          omega
      have hs1 : ∀ W, Calls Try.prog 25 #[.string (s.extract q (q + 2))] W fun e w' => e = .returned (.int .i64 (toldL (C.take 2) : Nat)) ∧ W = w' := fun W => by
        have e := e1 0 2
        rw [Nat.add_zero, List.drop_zero] at e
        have := at_any (s.extract q (q + 2)) W (by rw [e, List.length_take]; omega)
        rwa [e] at this
      have hs2 : ∀ W, Calls Try.prog 25 #[.string (s.extract (q + 2) (q + 4))] W fun e w' => e = .returned (.int .i64 (toldL ((C.take 4).drop 2) : Nat)) ∧ W = w' := fun W => by
        have e := e1 2 4
        have := at_any (s.extract (q + 2) (q + 4)) W (by rw [e, List.length_drop, List.length_take]; omega)
        rwa [e] at this
      have HS1 := Lib.hid hs1
      have HS2 := Lib.hid hs2
      have t1 := toldL_lt (C.take 2)
      have t2 := toldL_lt ((C.take 4).drop 2)
      rw [List.length_take, Nat.min_eq_left (by omega)] at t1
      rw [List.length_drop, List.length_take, Nat.min_eq_left (by omega)] at t2
      obtain ⟨T1, hT1⟩ : ∃ T, toldL (C.take 2) = T := ⟨_, rfl⟩
      obtain ⟨T2, hT2⟩ : ∃ T, toldL ((C.take 4).drop 2) = T := ⟨_, rfl⟩
      rw [hT1] at t1 HS1
      rw [hT2] at t2 HS2
      have HT1 := Lib.hid hT1
      have HT2 := Lib.hid hT2
      have HC := Lib.hid hC
      have HQ := Lib.hid hq
      have b1 : (q : Int) + 4 ≤ (s.size : Int) := by omega
      have b2 : (0 : Int) ≤ (q : Int) := by omega
      have b3 : (q : Int) ≤ (q : Int) + 2 := by omega
      have b4 : (0 : Int) ≤ (q : Int) + 2 := by omega
      have b5 : (q : Int) + 2 ≤ (q : Int) + 4 := by omega
      have b6 : (q : Int) + 2 ≤ (s.size : Int) := by omega
      have c1 : IntKind.i64.wrap ((q : Int) + 2) = (q : Int) + 2 := by rw [IntKind.wrap_i64]; omega
      have c2 : IntKind.i64.wrap ((q : Int) + 4) = (q : Int) + 4 := by rw [IntKind.wrap_i64]; omega
      have c3 : ((q : Int) + 2).toNat = q + 2 := by omega
      have c4 : ((q : Int) + 4).toNat = q + 4 := by omega
      clear e1 hs1 hs2 hT1 hT2 hC hq hct
      go_wp2
      go_region_law (first
        | (go_simp; go_at_call 25; (with_reducible refine (HS1.out _).mono ?_); rintro e w' ⟨rfl, rfl⟩)
        | (go_simp; go_at_call 25; (with_reducible refine (HS2.out _).mono ?_); rintro e w' ⟨rfl, rfl⟩))
      all_goals
        clear c1 c2 c3 c4 b2 b3 b4 b5 b6
        obtain ⟨wo, rfl⟩ : ∃ wo : World, wo = wr := ⟨_, rfl⟩
        have hz := hb.size
        go_wp2
        go_loopw [8] (fun j wr => ∃ i : Nat, i ≤ 2 ∧ j = .int .i64 i ∧ ∃ x y : Int, Hid (x = if 1 ≤ i then sg T1 else (T1 : Int)) ∧ Hid (y = if 2 ≤ i then sg T2 else (T2 : Int)) ∧ -70000 ≤ x ∧ x ≤ 70000 ∧ -70000 ≤ y ∧ y ≤ 70000 ∧ Blk wr wo.heap.size 24 #[.int .i64 x, .int .i64 y] ∧ Below wo.heap.size wo wr) (fun j _ => 2 - (intOf j).toNat)
        case atStart => exact ⟨0, by decide, rfl, T1, T2, Lib.hid rfl, Lib.hid rfl, by omega, by omega, by omega, by omega, (Blk.new wo _ _).drew, (bAlloc (Below.refl _ _) _).drew⟩
        case round =>
          obtain ⟨i, hi, rfl, x, y, hx, hy, x0, x1, y0, y1, hblk, hbq⟩ := hrel
          have d0 := hblk.cell 0
          have d1 := hblk.cell 1
          have f0 := hblk.frozen 0
          have f1 := hblk.frozen 1
          simp only [List.getElem?_toArray, List.getElem?_cons_zero, List.getElem?_cons_succ] at d0 d1
          have hlt' := hblk.lt
          have HK := Lib.hid hblk
          clear hblk
          match i, hi with
          | 0, _ =>
            have ex : x = T1 := by simpa using hx.out
            have ey : y = T2 := by simpa using hy.out
            subst ex ey
            go_wp2
            · go_roundw
              case rel => exact ⟨1, by decide, rfl, (T1 : Int) - 65536, T2, Lib.hid (by unfold sg; rw [if_pos (by omega), if_pos (by omega)]), Lib.hid rfl, by omega, by omega, by omega, by omega, HK.out.set 0 _, bSetG hbq (Nat.le_refl _) _ _⟩
              case measure => decide
            · go_roundw
              case rel => exact ⟨1, by decide, rfl, T1, T2, Lib.hid (by unfold sg; rw [if_pos (by omega), if_neg (by omega)]), Lib.hid rfl, by omega, by omega, by omega, by omega, HK.out, hbq⟩
              case measure => decide
          | 1, _ =>
            have ey : y = T2 := by simpa using hy.out
            subst ey
            have HX := Lib.hid (show x = sg T1 by simpa using hx.out)
            clear hx hy
            go_wp2
            · go_roundw
              case rel => exact ⟨2, by decide, rfl, x, (T2 : Int) - 65536, Lib.hid (by simpa using HX.out), Lib.hid (by unfold sg; rw [if_pos (by omega), if_pos (by omega)]), by omega, by omega, by omega, by omega, HK.out.set 1 _, bSetG hbq (Nat.le_refl _) _ _⟩
              case measure => decide
            · go_roundw
              case rel => exact ⟨2, by decide, rfl, x, T2, Lib.hid (by simpa using HX.out), Lib.hid (by unfold sg; rw [if_pos (by omega), if_neg (by omega)]), by omega, by omega, by omega, by omega, HK.out, hbq⟩
              case measure => decide
          | 2, _ =>
            have HX := Lib.hid (show x = sg T1 by simpa using hx.out)
            have HY := Lib.hid (show y = sg T2 by simpa using hy.out)
            clear hx hy
            have HOW : Hid (∀ o, (wr.alloc o).ownsRow w.heap.size 24 2 (.slice A' k cp) k (((chunks B).take k).flatMap Pr.cells)) := by
              have h := HO.out.below hbq
              unfold OwnL at h
              rw [List.length_take, HCL.out, Nat.min_eq_left hk] at h
              exact Lib.hid fun o => World.ownsRow.alloc h o
            go_wp2_with (at_builtin; refine wpList_append_own _ rfl (.tmp 49) (.tmp 51) 22 rfl w.heap.size 24 i0 _ 2 16 Try.underlying22 hi0 hz0 hz1 hz2 rfl (by decide) (.slice A' k cp) k (((chunks B).take k).flatMap Pr.cells) rfl ?c0 ⟨wr.heap.size, 0, none⟩ 1 1 [.int .i64 x, .int .i64 y] rfl rfl ?c1 ?c2 ?c3 ?c4 ?c5 ?_)
            case c0 => exact HOW.out _
            case c1 => exact cell_new_row wr #[.int .i64 x, .int .i64 y] 24 _ rfl
            case c2 => simp [Value.oneCell']
            case c3 => simp [maxLen]; omega
            case c4 => omega
            case c5 => have := hbq.size; simp; omega
            intro v' w' hown' hgr hnil
            have hb2 : Below w.heap.size w w' := Below.grown (bAlloc (bTrans hb hbq) _) hgr (by have := hbq.size; simp; omega) HBS.out
            have hw2 : OwnL w' w.heap.size 24 2 v' Pr.cells ((chunks B).take (k + 1)) := by
              unfold OwnL
              rw [HCT.out, List.length_append, List.length_take, HCL.out, Nat.min_eq_left hk, List.flatMap_append, HT1.out, HT2.out, ← HX.out, ← HY.out]
              simpa [Pr.cells] using hown'
            obtain ⟨A2, c2, hv2⟩ := hw2.shape
            rw [List.length_take, HCL.out, Nat.min_eq_left hlt] at hv2
            subst hv2
            have HW2 := Lib.hid hw2
            clear hown' hgr hnil hw2
            go_wp2
            go_roundw
            case rel => exact ⟨k + 1, q + 4, by omega, by have := HQ.out; omega, by go_num, A2, c2, by go_num, HW2.out, hb2⟩
            case measure => have := HQ.out; simp [intOf]; omega
    · obtain rfl : k = n := by omega
      have hkl : (chunks B).take k = chunks B := List.take_of_length_le (by rw [HCL.out]; exact Nat.le_refl _)
      rw [hkl] at HO
      have hrt : toldL (s.extract 24 28).data.toList = rateOf s.data.toList := by rw [extract_mid]; rfl
      have HRT := Lib.hid hrt
      have hbd := rateOf_lt s.data.toList
      obtain ⟨R, hR⟩ : ∃ R, rateOf s.data.toList = R := ⟨_, rfl⟩
      have HR := Lib.hid hR
      rw [hR] at hbd
      have hcnt : cntOf s.data.toList = k := by unfold cntOf; rw [size_list]; omega
      have hform := form_ref s.data.toList (by rw [size_list]; exact h) (by omega)
      rw [hR, HBB.out] at hform
      have HF := Lib.hid hform
      have HFT : Hid (fitB (chunks B) (R : Int) = rateB (R : Int)) := Lib.hid (by rw [fitB, chunks_samp _ _ (Nat.le_refl _), Bool.and_true])
      have HCS := Lib.hid (chunks_samp _ B (Nat.le_refl _))
      have hrd := HO.out.rd
      have HRD := Lib.hid hrd
      have hq4 : ¬ (q : Int) + 4 ≤ (s.size : Int) := by omega
      clear hkl hrt hR hcnt hform hC hdl hrd
      go_wp2_with fail
      refine (at_any _ _ (by rw [extract_mid, List.length_drop, List.length_take, size_list]; omega)).mono ?_
      rintro e w1 ⟨rfl, rfl⟩
      rw [HRT.out, HR.out]
      have hfc := fits_any A' cp (chunks B) (R : Int) wr (by rw [HCL.out]; omega) HRD.out
      rw [HCL.out, HFT.out] at hfc
      have HFC := Lib.hid hfc
      clear hfc
      go_wp2_with fail
      refine HFC.out.mono ?_
      rintro e w1 ⟨rfl, rfl⟩
      cases hrb : rateB (R : Int) with
      | false =>
        have hff : formB s.data.toList = false := by rw [HF.out, hrb, Bool.false_and]
        have HFF := Lib.hid hff
        clear hff hrb
        go_wp2
        go_ret3
        unfold RR
        refine ⟨fun _ => rfl, fun h => ?_, hb⟩
        rw [HFF.out] at h; cases h
      | true =>
        have hR2 : (R : Int) ≤ 1000000 := by
          have : 1 ≤ (R : Int) ∧ (R : Int) ≤ 192000 := by simpa [rateB] using hrb
          omega
        have HRB := Lib.hid hrb
        have hwc := rwrite_any A' cp (chunks B) (R : Int) wr (by rw [HCL.out]; omega) HRD.out (by omega) hR2 HCS.out
        rw [HCL.out] at hwc
        have HWC := Lib.hid hwc
        clear hwc hrb
        by_cases hw : fileL (chunks B) (R : Int) = s.data.toList
        · have hff : formB s.data.toList = true := by rw [HF.out, HRB.out, decide_eq_true hw]; rfl
          have HFF := Lib.hid hff
          have kq := fun W => (str_neq2 (fileL (chunks B) (R : Int)) s W).trans (by rw [decide_eq_true hw])
          have kg := fun W => str_guard .neq (.tmp 68) (.tmp 69) (fileL (chunks B) (R : Int)) (.string s) W
          clear hw hff
          go_wp2_with fail
          refine HWC.out.mono ?_
          rintro e w2 ⟨rfl, hb2⟩
          go_wp2
          go_ret3
          unfold RR
          refine ⟨fun h => ?_, fun _ => ⟨A', cp, ?_, ?_⟩, bTrans hb hb2⟩
          · rw [HFF.out] at h; cases h
          · rw [HBB.out, HCL.out, HR.out]; rfl
          · rw [HBB.out, HCL.out]
            exact HO.out.below hb2
        · have hff : formB s.data.toList = false := by rw [HF.out, HRB.out, decide_eq_false hw]; rfl
          have HFF := Lib.hid hff
          have kq := fun W => (str_neq2 (fileL (chunks B) (R : Int)) s W).trans (by rw [decide_eq_false hw])
          have kg := fun W => str_guard .neq (.tmp 68) (.tmp 69) (fileL (chunks B) (R : Int)) (.string s) W
          clear hw hff
          go_wp2_with fail
          refine HWC.out.mono ?_
          rintro e w2 ⟨rfl, hb2⟩
          go_wp2
          go_ret3
          unfold RR
          refine ⟨fun _ => rfl, fun h => ?_, bTrans hb hb2⟩
          rw [HFF.out] at h; cases h
end Go.Proofs.Ytmggnadhjgadnaa
