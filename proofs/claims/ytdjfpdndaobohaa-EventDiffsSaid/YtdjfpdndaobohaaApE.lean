/-
  The program's Apply.
-/
import Derived.Test.YtdjfpdndaobohaaApI
import Derived.Test.YtdjfpdndaobohaaSortE
namespace Go.Proofs.Ytdjfpdndaobohaa
open Go.RowKit
set_option maxRecDepth 100000
set_option linter.unusedSimpArgs false
theorem errA_bad {was : List Ev} {gone : List Key4} {fresh turned : List Ev} {z : Int} (h : (if argA was gone fresh turned = true then (if noneA was gone turned = true then 6 else if thereA was fresh = true then 7 else 0) else 1) = z) (hz : z ≠ 0) : errA was gone fresh turned = z ∧ resA was gone fresh turned = [] := by
  have e : errA was gone fresh turned = z := by
    unfold errA
    revert h
    split
    · split
      · exact id
      · split
        · exact id
        · intro h; exact absurd h.symm hz
    · exact id
  refine ⟨e, ?_⟩
  unfold resA
  rw [if_neg (by rw [e]; exact hz)]
theorem errA_good {was : List Ev} {gone : List Key4} {fresh turned : List Ev} (h : (if argA was gone fresh turned = true then (if noneA was gone turned = true then 6 else if thereA was fresh = true then 7 else 0) else 1) = (0 : Int)) :
    argA was gone fresh turned = true ∧ noneA was gone turned = false ∧ thereA was fresh = false := by
  revert h
  split
  · split
    · intro h; omega
    · split
      · intro h; omega
      · intro _; simp_all
  · intro h; omega
theorem argA_all {was : List Ev} {gone : List Key4} {fresh turned : List Ev} (h : argA was gone fresh turned = true) : orderedB was = true ∧ risingF key0 gone = true ∧ orderedB fresh = true ∧ orderedB turned = true := by
  unfold argA at h
  simpa [Bool.and_eq_true] using h
theorem errA_end {was : List Ev} {gone : List Key4} {fresh turned : List Ev} (h1 : argA was gone fresh turned = true) (h2 : noneA was gone turned = false) (h3 : thereA was fresh = false) :
    ((baseA was gone turned ++ fresh).length ≤ 64 → errA was gone fresh turned = 0 ∧ resA was gone fresh turned = outA was gone fresh turned) ∧ (¬ (baseA was gone turned ++ fresh).length ≤ 64 → errA was gone fresh turned = 5 ∧ resA was gone fresh turned = []) := by
  have e : errA was gone fresh turned = if (baseA was gone turned ++ fresh).length ≤ 64 then 0 else 5 := by
    unfold errA
    rw [if_pos h1, if_neg (by rw [h2]; decide), if_neg (by rw [h3]; decide)]
  refine ⟨fun h => ?_, fun h => ?_⟩
  · rw [if_pos h] at e
    exact ⟨e, by unfold resA; rw [if_pos e]⟩
  · rw [if_neg h] at e
    exact ⟨e, by unfold resA; rw [if_neg (by rw [e]; decide)]⟩
theorem there_none {was fresh : List Ev} (h : thereA was fresh = false) : ∀ e ∈ fresh, foundK was e.key = false := by
  unfold thereA at h
  intro e he
  rw [← Bool.not_eq_true, List.any_eq_true] at h
  cases hf : foundK was e.key
  · rfl
  · exact absurd ⟨e, he, hf⟩ h
set_option maxHeartbeats 16000000 in
theorem apply_any (A1 A2 A3 A4 : Option Addr) (c1 c2 c3 c4 : Nat) (was : List Ev) (gone : List Key4) (fresh turned : List Ev) (w : World) (h1 : was.length ≤ 100) (h2 : gone.length ≤ 100) (h3 : fresh.length ≤ 100) (h4 : turned.length ≤ 100)
    (r1 : Rd w w.heap.size A1 (was.flatMap Ev.cells)) (r2 : Rd w w.heap.size A2 (gone.flatMap Key4.cells)) (r3 : Rd w w.heap.size A3 (fresh.flatMap Ev.cells)) (r4 : Rd w w.heap.size A4 (turned.flatMap Ev.cells)) :
    Calls Try.prog 25 #[.slice A1 was.length c1, .agg #[.slice A2 gone.length c2, .slice A3 fresh.length c3, .slice A4 turned.length c4]] w fun e w' =>
      ∃ A' c' n', e = .returned (.tuple #[.slice A' n' c', .int .i64 (errA was gone fresh turned)]) ∧ OwnL w' w.heap.size 25 9 (.slice A' n' c') Ev.cells (resA was gone fresh turned) ∧ Below w.heap.size w w' := by
  obtain ⟨W, hW⟩ : ∃ W, W = w.alloc (.cells #[.slice A2 gone.length c2, .slice A3 fresh.length c3, .slice A4 turned.length c4] 51) := ⟨_, rfl⟩
  have HK2 : Hid (Blk W w.heap.size 51 #[.slice A2 gone.length c2, .slice A3 fresh.length c3, .slice A4 turned.length c4]) := Lib.hid (by rw [hW]; exact (by repeat (first | ((with_reducible refine blk_at ?_); first | rfl | (simp; done)) | (with_reducible refine Blk.alloc ?_ _) | (with_reducible refine Blk.drew ?_))))
  have hB0 : Below w.heap.size w W := by rw [hW]; exact bAlloc (Below.refl _ _) _
  have HT : Hid (∀ V, Below W.heap.size W V → Below w.heap.size w V) := Lib.hid (fun V hV => hB0.trans (hV.mono hB0.size))
  have HF := Lib.hid (fits_any A1 A2 A3 A4 c1 c2 c3 c4 was gone fresh turned W (by omega) (by omega) (by omega) (by omega) ((r1.below hB0 (Nat.le_refl _)).more hB0.size) ((r2.below hB0 (Nat.le_refl _)).more hB0.size) ((r3.below hB0 (Nat.le_refl _)).more hB0.size) ((r4.below hB0 (Nat.le_refl _)).more hB0.size))
  obtain ⟨z, hz⟩ : ∃ z : Int, (if argA was gone fresh turned = true then (if noneA was gone turned = true then 6 else if thereA was fresh = true then 7 else 0) else 1) = z := ⟨_, rfl⟩
  rw [hz] at HF
  obtain ⟨q1, q2, q3⟩ := Blk.three HK2.out
  have q5 := HK2.out.lt
  by_cases hz0 : z = 0
  · subst hz0
    obtain ⟨ha1, ha2, ha3⟩ := errA_good hz
    obtain ⟨o1, -, o3, o4⟩ := argA_all ha1
    have s1 := ordered_sorted o1
    have s3 := ordered_sorted o3
    have s4 := ordered_sorted o4
    have HEND := Lib.hid (errA_end ha1 ha2 ha3)
    have HONE := Lib.hid (fun (M : List Ev) hp hM => outA_one s1 gone s3 turned (there_none ha3) (M := M) hp hM)
    have HCO := Lib.hid (fun key V (hV : Below W.heap.size W V) => contains_any A2 c2 gone key V (by omega) ((r2.below (HT.out V hV) (Nat.le_refl _)).more (HT.out V hV).size))
    have HFI := Lib.hid (fun key V (hV : Below W.heap.size W V) => find_any A4 c4 turned key V (by omega) ((r4.below (HT.out V hV) (Nat.le_refl _)).more (HT.out V hV).size) s4)
    have HR1 := Lib.hid r1
    have HR3 := Lib.hid r3
    have HSN := Lib.hid (fun k hk => baseA_snoc was gone turned k hk)
    have HBL := Lib.hid (fun k => baseA_len gone turned (was.take k))
    obtain ⟨n1, hn1⟩ : ∃ n, was.length = n := ⟨_, rfl⟩
    obtain ⟨n2, hn2⟩ : ∃ n, gone.length = n := ⟨_, rfl⟩
    obtain ⟨n3, hn3⟩ : ∃ n, fresh.length = n := ⟨_, rfl⟩
    obtain ⟨n4, hn4⟩ : ∃ n, turned.length = n := ⟨_, rfl⟩
    obtain ⟨zz, hzz⟩ : ∃ z, errA was gone fresh turned = z := ⟨_, rfl⟩
    have HN1 := Lib.hid hn1
    have HN3 := Lib.hid hn3
    rw [hn1, hn2, hn3, hn4] at HF
    rw [hn1] at h1
    rw [hn2] at HCO
    rw [hn3] at h3
    rw [hn4] at HFI
    rw [hn2, hn3, hn4] at HK2 hW
    rw [hn2] at q1
    rw [hn3] at q2
    rw [hn4] at q3
    rw [hzz] at HEND
    rw [hn1, hn2, hn3, hn4, hzz]
    clear hn1 hn2 hn3 hn4 hzz r1 r2 r3 r4 hB0 o1 o3 o4 s1 s3 s4 ha1 ha2 ha3 hz h2 h4
    go_enter Try.func25, Try.ntmps25
    go_upto_region 1 with fail
    rw [← hW]
    clear hW
    go_upto_region 2 with (first | (go_at_call 50; refine HF.out.mono ?_; rintro e w1 ⟨rfl, hb1⟩; have HB1 := Lib.hid hb1; clear hb1))
    clear q1 q2 q3 q5 HF
    go_wp2_with fail
    go_loopw [7, 20] (fun u v wr => ∃ k : Nat, k ≤ n1 ∧ v = .int .i64 k ∧ ∃ A' c' n', u = .slice A' n' c' ∧ Hid (OwnL wr W.heap.size 25 9 (.slice A' n' c') Ev.cells (baseA (was.take k) gone turned)) ∧ Hid (Below W.heap.size W wr)) (fun _ v _ => n1 - (intOf v).toNat)
    case atStart => exact ⟨0, Nat.zero_le _, rfl, none, 0, 0, rfl, Lib.hid OwnL.nil, HB1⟩
    case round =>
      clear HB1
      obtain ⟨k, hk, rfl, A', c', n', rfl, HO, HB⟩ := hrel
      have hn' := HO.out.len
      have hbl := HBL.out k
      rw [List.length_take] at hbl
      by_cases hlt : k < n1
      · have hkL : k < was.length := by rw [HN1.out]; exact hlt
        have HBW := Lib.hid (HT.out _ HB.out)
        obtain ⟨b, off, rfl, hbl', x0, x1, x2, x3, x4, x5, x6, x7, x8⟩ := (HR1.out.below HBW.out (Nat.le_refl _)).ev hkL
        have hblw := Nat.lt_of_lt_of_le hbl' HBW.out.size
        have HST := Lib.hid (HSN.out k hkL)
        obtain ⟨x, hx⟩ : ∃ x, was[k] = x := ⟨_, rfl⟩
        rw [hx] at x0 x1 x2 x3 x4 x5 x6 x7 x8 HST
        obtain ⟨M, hM⟩ : ∃ M, baseA (was.take k) gone turned = M := ⟨_, rfl⟩
        rw [hM] at HO HST hn' hbl
        have hgw : W.heap.size ≤ wr.heap.size := HB.out.size
        clear hx hM hn'
        go_upto_region 8 with fail
        obtain ⟨w2, hw2⟩ : ∃ w2, w2 = wr.alloc (.cells #[.int .i64 x.frame, .int .i64 x.emitter, .int .i64 x.kind, .int .i64 x.ord, .int .i64 x.asset, .int .i64 x.gain, .int .i64 x.pan, .int .i64 x.prio, .int .i64 x.len] 25) := ⟨_, rfl⟩
        have HE : Hid (Blk w2 wr.heap.size 25 #[.int .i64 x.frame, .int .i64 x.emitter, .int .i64 x.kind, .int .i64 x.ord, .int .i64 x.asset, .int .i64 x.gain, .int .i64 x.pan, .int .i64 x.prio, .int .i64 x.len]) := Lib.hid (by rw [hw2]; exact Blk.new _ _ _)
        have HO2 : Hid (OwnL w2 W.heap.size 25 9 (.slice A' n' c') Ev.cells M) := Lib.hid (by rw [hw2]; exact HO.out.alloc _)
        have HB2 : Hid (Below W.heap.size W w2) := Lib.hid (by rw [hw2]; exact bAlloc HB.out _)
        have HFAR : Hid (∀ g, (Value.slice A' n' c').ownBlock = some g → g < wr.heap.size) := Lib.hid (fun g hg => HO.out.block_lt g hg)
        rw [← hw2]
        clear hw2 HO HB HBW x0 x1 x2 x3 x4 x5 x6 x7 x8
        obtain ⟨e0, e1, e2, e3, e4, e5, e6, e7, e8⟩ := Blk.ev HE.out
        have el := HE.out.lt
        obtain ⟨p1, p2, p3⟩ := Blk.three (HK2.out.on HB2.out)
        have p4 := (HK2.out.on HB2.out).lt
        have HC := Lib.hid (HCO.out x.key w2 HB2.out)
        unfold Key4.val at HC
        by_cases hin : x.key ∈ gone
        · rw [decide_eq_true hin] at HC
          have HNX : Hid (baseA (was.take (k + 1)) gone turned = M) := Lib.hid (by rw [HST.out]; unfold stepA; rw [if_pos hin, List.append_nil])
          clear hin
          go_wp2_with (first | (go_at_call 51; refine HC.out.mono ?_; rintro e w3 ⟨rfl, hb3⟩))
          go_roundw
          case rel => exact ⟨k + 1, by omega, by go_num, A', c', n', rfl, Lib.hid (by rw [HNX.out]; exact HO2.out.below hb3), Lib.hid (bTrans HB2.out hb3)⟩
          case measure => simp [intOf]; omega
        · rw [decide_eq_false hin] at HC
          have HNX : Hid (baseA (was.take (k + 1)) gone turned = M ++ [if foundK turned x.key = true then findE turned x.key else x]) := Lib.hid (by rw [HST.out]; unfold stepA; rw [if_neg hin])
          clear hin
          go_upto_region 9 with (first | (go_at_call 51; refine HC.out.mono ?_; rintro e w3 ⟨rfl, hb3⟩; have HB3 := Lib.hid (bTrans HB2.out hb3); have HE3 := Lib.hid (HE.out.on hb3); have HO3 := Lib.hid (HO2.out.below hb3); clear hb3))
          clear e0 e1 e2 e3 e4 e5 e6 e7 e8 p1 p2 p3 p4 HE HO2 HB2 HC el
          obtain ⟨e0, e1, e2, e3, e4, e5, e6, e7, e8⟩ := Blk.ev HE3.out
          have el := HE3.out.lt
          obtain ⟨p1, p2, p3⟩ := Blk.three (HK2.out.on HB3.out)
          have p4 := (HK2.out.on HB3.out).lt
          have HC := Lib.hid (HFI.out x.key w3 HB3.out)
          unfold Key4.val at HC
          obtain ⟨y, hy⟩ : ∃ y, findE turned x.key = y := ⟨_, rfl⟩
          rw [hy] at HC HNX
          unfold Ev.val at HC
          cases hfk : foundK turned x.key
          · rw [hfk] at HC HNX
            rw [if_neg (by decide)] at HNX
            clear hy hfk
            go_upto_region 10 with (first | (go_at_call 52; refine HC.out.mono ?_; rintro e w4 ⟨rfl, hb4⟩; have HB4 := Lib.hid (bTrans HB3.out hb4); have HE4 := Lib.hid (HE3.out.on hb4); have HO4 := Lib.hid (HO3.out.below hb4); clear hb4))
            clear e0 e1 e2 e3 e4 e5 e6 e7 e8 p1 p2 p3 p4 HE3 HO3 HB3 HC el
            obtain ⟨w5, hw5⟩ : ∃ w5, w5 = w4.alloc (.cells #[.int .i64 y.frame, .int .i64 y.emitter, .int .i64 y.kind, .int .i64 y.ord, .int .i64 y.asset, .int .i64 y.gain, .int .i64 y.pan, .int .i64 y.prio, .int .i64 y.len] 25) := ⟨_, rfl⟩
            have HE5 : Hid (Blk w5 wr.heap.size 25 #[.int .i64 x.frame, .int .i64 x.emitter, .int .i64 x.kind, .int .i64 x.ord, .int .i64 x.asset, .int .i64 x.gain, .int .i64 x.pan, .int .i64 x.prio, .int .i64 x.len]) := Lib.hid (by rw [hw5]; exact HE4.out.alloc _)
            have HO5 : Hid (OwnL w5 W.heap.size 25 9 (.slice A' n' c') Ev.cells M) := Lib.hid (by rw [hw5]; exact HO4.out.alloc _)
            have HB5 : Hid (Below W.heap.size W w5) := Lib.hid (by rw [hw5]; exact bAlloc HB4.out _)
            rw [← hw5]
            clear hw5 HE4 HO4 HB4
            obtain ⟨e0, e1, e2, e3, e4, e5, e6, e7, e8⟩ := Blk.ev HE5.out
            have el := HE5.out.lt
            go_wp2_with (first | (at_builtin; refine wpList_app_ev rfl (.tmp 39) (.tmp 41) rfl W.heap.size _ M [x] (HO5.out.alloc _) rfl _ _ 1 1 rfl rfl (rd_ev1 _ x) (by simp only [List.length_cons, List.length_nil]; omega) (by simp; omega) ?_; intro A6 c6 n6 w6 hn6 ho6 hg6))
            have HO6 : Hid (OwnL w6 W.heap.size 25 9 (.slice A6 n6 c6) Ev.cells (baseA (was.take (k + 1)) gone turned)) := Lib.hid (by rw [HNX.out]; exact ho6)
            have HB6 := Lib.hid (Below.grown (bAlloc HB5.out _) hg6 (by have := HB5.out.size; simp; omega) HO5.out.base_le)
            clear ho6 hg6
            go_wp2
            go_roundw
            case rel => exact ⟨k + 1, by omega, by go_num, A6, c6, n6, rfl, HO6, HB6⟩
            case measure => simp [intOf]; omega
          · rw [hfk] at HC HNX
            rw [if_pos rfl] at HNX
            clear hy hfk
            go_upto_region 10 with (first | (go_at_call 52; refine HC.out.mono ?_; rintro e w4 ⟨rfl, hb4⟩; have HB4 := Lib.hid (bTrans HB3.out hb4); have HE4 := Lib.hid (HE3.out.on hb4); have HO4 := Lib.hid (HO3.out.below hb4); clear hb4))
            clear e0 e1 e2 e3 e4 e5 e6 e7 e8 p1 p2 p3 p4 HE3 HO3 HB3 HC el
            obtain ⟨w5, hw5⟩ : ∃ w5, w5 = w4.alloc (.cells #[.int .i64 y.frame, .int .i64 y.emitter, .int .i64 y.kind, .int .i64 y.ord, .int .i64 y.asset, .int .i64 y.gain, .int .i64 y.pan, .int .i64 y.prio, .int .i64 y.len] 25) := ⟨_, rfl⟩
            have HY5 : Hid (Blk w5 w4.heap.size 25 #[.int .i64 y.frame, .int .i64 y.emitter, .int .i64 y.kind, .int .i64 y.ord, .int .i64 y.asset, .int .i64 y.gain, .int .i64 y.pan, .int .i64 y.prio, .int .i64 y.len]) := Lib.hid (by rw [hw5]; exact Blk.new _ _ _)
            have HE5 : Hid (Blk w5 wr.heap.size 25 #[.int .i64 x.frame, .int .i64 x.emitter, .int .i64 x.kind, .int .i64 x.ord, .int .i64 x.asset, .int .i64 x.gain, .int .i64 x.pan, .int .i64 x.prio, .int .i64 x.len]) := Lib.hid (by rw [hw5]; exact HE4.out.alloc _)
            have HO5 : Hid (OwnL w5 W.heap.size 25 9 (.slice A' n' c') Ev.cells M) := Lib.hid (by rw [hw5]; exact HO4.out.alloc _)
            have HB5 : Hid (Below W.heap.size W w5) := Lib.hid (by rw [hw5]; exact bAlloc HB4.out _)
            have hlt4 := HE4.out.lt
            rw [← hw5]
            clear hw5 HE4 HO4 HB4
            obtain ⟨e0, e1, e2, e3, e4, e5, e6, e7, e8⟩ := Blk.ev HE5.out
            obtain ⟨y0, y1, y2, y3, y4, y5, y6, y7, y8⟩ := Blk.ev HY5.out
            have yl := HY5.out.lt
            have el := HE5.out.lt
            have f0 := HE5.out.frozen 0
            have f1 := HE5.out.frozen 1
            have f2 := HE5.out.frozen 2
            have f3 := HE5.out.frozen 3
            have f4 := HE5.out.frozen 4
            have f5 := HE5.out.frozen 5
            have f6 := HE5.out.frozen 6
            have f7 := HE5.out.frozen 7
            have f8 := HE5.out.frozen 8
            go_upto_region 12 with fail
            obtain ⟨w7, hw7⟩ : ∃ w7, w7 = (((((((((w5.setCell ⟨wr.heap.size, 0, none⟩ (.int .i64 y.frame)).setCell ⟨wr.heap.size, 1, none⟩ (.int .i64 y.emitter)).setCell ⟨wr.heap.size, 2, none⟩ (.int .i64 y.kind)).setCell ⟨wr.heap.size, 3, none⟩ (.int .i64 y.ord)).setCell ⟨wr.heap.size, 4, none⟩ (.int .i64 y.asset)).setCell ⟨wr.heap.size, 5, none⟩ (.int .i64 y.gain)).setCell ⟨wr.heap.size, 6, none⟩ (.int .i64 y.pan)).setCell ⟨wr.heap.size, 7, none⟩ (.int .i64 y.prio)).setCell ⟨wr.heap.size, 8, none⟩ (.int .i64 y.len)) := ⟨_, rfl⟩
            have HE7 : Hid (Blk w7 wr.heap.size 25 #[.int .i64 y.frame, .int .i64 y.emitter, .int .i64 y.kind, .int .i64 y.ord, .int .i64 y.asset, .int .i64 y.gain, .int .i64 y.pan, .int .i64 y.prio, .int .i64 y.len]) := Lib.hid (by rw [hw7]; exact HE5.out.set9)
            have HO7 : Hid (OwnL w7 W.heap.size 25 9 (.slice A' n' c') Ev.cells M) := Lib.hid (by
              have hp : (Value.slice A' n' c').ownBlock ≠ some wr.heap.size := fun e => by have := HFAR.out _ e; omega
              rw [hw7]
              exact ((((((((HO5.out.farG hp _ _).farG hp _ _).farG hp _ _).farG hp _ _).farG hp _ _).farG hp _ _).farG hp _ _).farG hp _ _).farG hp _ _)
            have HB7 : Hid (Below W.heap.size W w7) := Lib.hid (by
              rw [hw7]
              exact bSetG (bSetG (bSetG (bSetG (bSetG (bSetG (bSetG (bSetG (bSetG HB5.out hgw _ _) hgw _ _) hgw _ _) hgw _ _) hgw _ _) hgw _ _) hgw _ _) hgw _ _) hgw _ _)
            rw [← hw7]
            clear hw7 e0 e1 e2 e3 e4 e5 e6 e7 e8 y0 y1 y2 y3 y4 y5 y6 y7 y8 f0 f1 f2 f3 f4 f5 f6 f7 f8 yl el HE5 HO5 HB5 HY5
            obtain ⟨e0, e1, e2, e3, e4, e5, e6, e7, e8⟩ := Blk.ev HE7.out
            have el := HE7.out.lt
            go_wp2_with (first | (at_builtin; refine wpList_app_ev rfl (.tmp 39) (.tmp 41) rfl W.heap.size _ M [y] (HO7.out.alloc _) rfl _ _ 1 1 rfl rfl (rd_ev1 _ y) (by simp only [List.length_cons, List.length_nil]; omega) (by simp; omega) ?_; intro A6 c6 n6 w6 hn6 ho6 hg6))
            have HO6 : Hid (OwnL w6 W.heap.size 25 9 (.slice A6 n6 c6) Ev.cells (baseA (was.take (k + 1)) gone turned)) := Lib.hid (by rw [HNX.out]; exact ho6)
            have HB6 := Lib.hid (Below.grown (bAlloc HB7.out _) hg6 (by have := HB7.out.size; simp; omega) HO7.out.base_le)
            clear ho6 hg6
            go_wp2
            go_roundw
            case rel => exact ⟨k + 1, by omega, by go_num, A6, c6, n6, rfl, HO6, HB6⟩
            case measure => simp [intOf]; omega
      · obtain rfl : k = n1 := by omega
        rw [List.take_of_length_le (by rw [HN1.out]; exact Nat.le_refl _)] at HO hn' hbl
        have HRF := Lib.hid ((HR3.out.below (HT.out _ HB.out) (Nat.le_refl _)).more (HT.out _ HB.out).size)
        obtain ⟨p1, p2, p3⟩ := Blk.three (HK2.out.on HB.out)
        have p4 := (HK2.out.on HB.out).lt
        have hgw : W.heap.size ≤ wr.heap.size := HB.out.size
        obtain ⟨M, hM⟩ : ∃ M, baseA was gone turned = M := ⟨_, rfl⟩
        rw [hM] at HO HEND hn' hbl HONE
        have HNM := Lib.hid hn'
        have hml : M.length ≤ 100 := by omega
        clear hM hn' hbl
        go_upto_region 15 with (first | (at_builtin; refine wpList_app_ev rfl (.tmp 44) (.tmp 46) rfl W.heap.size _ M fresh HO.out rfl _ _ n3 c3 HN3.out.symm rfl HRF.out (by rw [HN3.out]; omega) hgw ?_; intro A6 c6 n6 w6 hn6 ho6 hg6))
        have HO6 := Lib.hid ho6
        have HB6 := Lib.hid (Below.grown HB.out hg6 hgw HO.out.base_le)
        have hl6 : n6 = M.length + n3 := by rw [hn6.out, HN3.out]
        have hlen : (M ++ fresh).length = n6 := by rw [List.length_append, HN3.out, hl6]
        clear hn6 ho6 hg6 p1 p2 p3 p4
        by_cases h64 : n6 ≤ 64
        · obtain ⟨rfl, hl⟩ := HEND.out.1 (by rw [hlen]; exact h64)
          have HLL := Lib.hid hl
          have HSO := Lib.hid (sort_any W.heap.size A6 n6 c6 (M ++ fresh) w6 (by rw [hlen]; omega) HO6.out)
          clear hl hlen hl6
          go_wp2_with (first | (go_at_call 45; refine HSO.out.mono ?_; rintro e w8 ⟨rfl, L', hp, hsw, ho8, hb8⟩; have HO8 := Lib.hid ho8; have HB8 := Lib.hid (HB6.out.trans hb8); have HONE' := Lib.hid (HONE.out L' hp hsw); clear ho8 hb8 hp hsw))
          go_ret2
          refine ⟨A6, c6, n6, rfl, ?_, HT.out _ HB8.out⟩
          rw [HLL.out, ← HONE'.out]
          exact HO8.out.more (HT.out W (Below.refl _ _)).size
        · obtain ⟨rfl, hl⟩ := HEND.out.2 (by rw [hlen]; exact h64)
          have HLL := Lib.hid hl
          clear hl hlen hl6
          go_wp2
          go_ret2
          exact ⟨none, 0, 0, rfl, by rw [HLL.out]; exact OwnL.nil, HT.out _ HB6.out⟩
  · obtain ⟨hzz, hl⟩ := errA_bad hz hz0
    have HLL := Lib.hid hl
    rw [hzz]
    obtain ⟨n1, hn1⟩ : ∃ n, was.length = n := ⟨_, rfl⟩
    obtain ⟨n2, hn2⟩ : ∃ n, gone.length = n := ⟨_, rfl⟩
    obtain ⟨n3, hn3⟩ : ∃ n, fresh.length = n := ⟨_, rfl⟩
    obtain ⟨n4, hn4⟩ : ∃ n, turned.length = n := ⟨_, rfl⟩
    rw [hn1, hn2, hn3, hn4] at HF
    rw [hn2, hn3, hn4] at HK2 hW
    rw [hn2] at q1
    rw [hn3] at q2
    rw [hn4] at q3
    rw [hn1, hn2, hn3, hn4]
    have hzn : (z != 0) = true := by simpa using hz0
    clear hn1 hn2 hn3 hn4 hzz r1 r2 r3 r4 hB0 hz hl hz0 h1 h2 h3 h4
    go_enter Try.func25, Try.ntmps25
    go_upto_region 1 with fail
    rw [← hW]
    clear hW
    go_upto_region 2 with (first | (go_at_call 50; refine HF.out.mono ?_; rintro e w1 ⟨rfl, hb1⟩; have HB1 := Lib.hid hb1; clear hb1))
    clear q1 q2 q3 q5 HF
    go_wp2
    go_ret2
    exact ⟨none, 0, 0, rfl, by rw [HLL.out]; exact OwnL.nil, HT.out _ HB1.out⟩
end Go.Proofs.Ytdjfpdndaobohaa
