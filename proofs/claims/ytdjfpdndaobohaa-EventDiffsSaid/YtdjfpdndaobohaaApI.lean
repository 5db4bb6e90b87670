/-
  slices.Contains of keys; may a change be made: the walk of the program's fits.
-/
import Derived.Test.YtdjfpdndaobohaaApR
import Derived.Test.YtdjfpdndaobohaaRisV
import Derived.Deep.Cut
namespace Go.Proofs.Ytdjfpdndaobohaa
open Go.RowKit
set_option maxRecDepth 100000
set_option linter.unusedSimpArgs false
set_option maxHeartbeats 4000000 in
theorem idxKey_any (A : Option Addr) (c : Nat) (L : List Key4) (key : Key4) (w : World) (hL : L.length ≤ 1000) (hr : Rd w w.heap.size A (L.flatMap Key4.cells)) :
    Calls Try.prog 67 #[.slice A L.length c, key.val] w fun e w' => e = .returned (.int .i64 (idxP (fun x => decide (key = x)) 0 L)) ∧ Below w.heap.size w w' := by
  have HR := Lib.hid hr
  obtain ⟨p, hp⟩ : ∃ p : Key4 → Bool, (fun x => decide (key = x)) = p := ⟨_, rfl⟩
  have HP := Lib.hid hp
  rw [hp]
  unfold Key4.val
  clear hr hp
  go_enter Try.func67, Try.ntmps67
  go_upto_region 1 with fail
  obtain ⟨W, hW⟩ : ∃ W, W = w.alloc (.cells #[.int .i64 key.frame, .int .i64 key.emitter, .int .i64 key.kind, .int .i64 key.ord] 23) := ⟨_, rfl⟩
  have HK : Hid (Blk W w.heap.size 23 #[.int .i64 key.frame, .int .i64 key.emitter, .int .i64 key.kind, .int .i64 key.ord]) := Lib.hid (by rw [hW]; exact Blk.new _ _ _)
  have HB0 : Hid (Below w.heap.size w W) := Lib.hid (by rw [hW]; exact bAlloc (Below.refl _ _) _)
  rw [← hW]
  clear hW
  go_wp2_with fail
  go_loopw [8] (fun v wr => ∃ k : Nat, k ≤ L.length ∧ v = .int .i64 k ∧ Hid (idxP p 0 L = idxP p k (L.drop k)) ∧ Hid (Below W.heap.size W wr)) (fun v _ => L.length - (intOf v).toNat)
  case atStart => exact ⟨0, Nat.zero_le _, rfl, rfl, Lib.hid (Below.refl _ _)⟩
  case round =>
    obtain ⟨k, hk, rfl, hi, HQ⟩ := hrel
    have HB := Lib.hid (HB0.out.trans (HQ.out.mono HB0.out.size))
    by_cases hlt : k < L.length
    · obtain ⟨b, off, rfl, hbl, x0, x1, x2, x3⟩ := (HR.out.below HB.out (Nat.le_refl _)).key4 hlt
      have hblw := Nat.lt_of_lt_of_le hbl HB.out.size
      obtain ⟨y0, y1, y2, y3⟩ := Blk.key (HK.out.on HQ.out)
      have hlk := (HK.out.on HQ.out).lt
      have hst : idxP p k (L.drop k) = if p L[k] then (k : Int) else idxP p (k + 1) (L.drop (k + 1)) := by
        rw [List.drop_eq_getElem_cons hlt, idxP]
      have HS := Lib.hid hst
      obtain ⟨x, hx⟩ : ∃ x, L[k] = x := ⟨_, rfl⟩
      rw [hx] at x0 x1 x2 x3 HS
      clear hst hx
      have HDX : Hid (decide (key = x) = p x) := Lib.hid (by rw [← HP.out])
      cases hin : p x with
      | true =>
        rw [hin] at HDX
        have HI := Lib.hid hin
        clear hin
        go_wp2_with fail
        refine wp_region_mild (by kernel_rfl) (by kernel_rfl) ?_
        repeat (go_big_quiet_step (fail))
        refine wpQuiet_runs_mild (.bool true) rfl (fun W => by rw [← HDX.out]; exact runs_eql rfl rfl rfl (by kernel_rfl) (key_eql _ _) W) ?_
        simp only [Act.put, List.setIfInBounds_toArray, List.set_cons_zero, List.set_cons_succ]
        repeat (go_big_quiet_step (fail))
        refine wpQuiet_nil ?_
        intro w1 hw'
        obtain ⟨⟨wq, k1⟩, hw''⟩ := hw'
        subst hw''
        go_wp2
        go_ret
        exact ⟨ret_int (by rw [hi.out, HS.out, HI.out]; rfl), HB.out.trans (k1.mono HB.out.size)⟩
      | false =>
        rw [hin] at HDX
        have HI := Lib.hid hin
        clear hin
        go_wp2_with fail
        refine wp_region_mild (by kernel_rfl) (by kernel_rfl) ?_
        repeat (go_big_quiet_step (fail))
        refine wpQuiet_runs_mild (.bool false) rfl (fun W => by rw [← HDX.out]; exact runs_eql rfl rfl rfl (by kernel_rfl) (key_eql _ _) W) ?_
        simp only [Act.put, List.setIfInBounds_toArray, List.set_cons_zero, List.set_cons_succ]
        repeat (go_big_quiet_step (fail))
        refine wpQuiet_nil ?_
        intro w1 hw'
        obtain ⟨⟨wq, k1⟩, hw''⟩ := hw'
        subst hw''
        go_wp2
        go_roundw
        case rel => exact ⟨k + 1, by omega, by go_num, (show _ = _ by rw [hi.out, HS.out, HI.out]; rfl), Lib.hid (bTrans HQ.out k1)⟩
        case measure => simp [intOf]; omega
    · have e0 : idxP p 0 L = -1 := by rw [hi.out, List.drop_of_length_le (by omega), idxP]
      have E0 := Lib.hid e0
      clear e0
      go_wp2
      go_ret
      exact ⟨ret_int E0.out.symm, HB.out⟩
theorem any_mem (key : Key4) (L : List Key4) : (L.any fun x => decide (key = x)) = decide (key ∈ L) := by
  rw [Bool.eq_iff_iff, List.any_eq_true, decide_eq_true_eq]
  constructor
  · rintro ⟨x, hx, h⟩
    rw [decide_eq_true_eq] at h
    subst h
    exact hx
  · exact fun h => ⟨key, h, by simp⟩
set_option maxHeartbeats 1000000 in
theorem contains_any (A : Option Addr) (c : Nat) (L : List Key4) (key : Key4) (w : World) (hL : L.length ≤ 1000) (hr : Rd w w.heap.size A (L.flatMap Key4.cells)) :
    Calls Try.prog 51 #[.slice A L.length c, key.val] w fun e w' => e = .returned (.bool (decide (key ∈ L))) ∧ Below w.heap.size w w' := by
  have hb0 := bAlloc (Below.refl w.heap.size w) (.cells #[.int .i64 key.frame, .int .i64 key.emitter, .int .i64 key.kind, .int .i64 key.ord] 23)
  have HX := Lib.hid (idxKey_any A c L key _ hL ((hr.below hb0 (Nat.le_refl _)).more hb0.size))
  have hb := idxP_bd (fun x => decide (key = x)) L 0
  have hd := idxP_any (fun x => decide (key = x)) L 0
  rw [any_mem] at hd
  obtain ⟨x, hx⟩ : ∃ x, idxP (fun x => decide (key = x)) 0 L = x := ⟨_, rfl⟩
  rw [hx] at HX hb hd
  have HD := Lib.hid hd
  unfold Key4.val at HX ⊢
  clear hr hx hd
  go_enter Try.func51, Try.ntmps51
  go_wp2_with (first | (go_at_call 67; refine HX.out.mono ?_; rintro e w1 ⟨rfl, hb1⟩))
  go_ret
  exact ⟨ret_bool HD.out, bTrans hb0 hb1⟩
theorem Blk.one1 {w : World} {g : Nat} {E : TypeId} {v0 : Value} (h : Blk w g E #[v0]) : w.cell? ⟨g, 0, none⟩ = some v0 := h.cell 0
theorem Blk.three {w : World} {g : Nat} {E : TypeId} {v0 v1 v2 : Value} (h : Blk w g E #[v0, v1, v2]) : w.cell? ⟨g, 0, none⟩ = some v0 ∧ w.cell? ⟨g, 1, none⟩ = some v1 ∧ w.cell? ⟨g, 2, none⟩ = some v2 := ⟨h.cell 0, h.cell 1, h.cell 2⟩
set_option maxHeartbeats 16000000 in
theorem fits_any (A1 A2 A3 A4 : Option Addr) (c1 c2 c3 c4 : Nat) (was : List Ev) (gone : List Key4) (fresh turned : List Ev) (w : World) (h1 : was.length ≤ 1000) (h2 : gone.length ≤ 1000) (h3 : fresh.length ≤ 1000) (h4 : turned.length ≤ 1000)
    (r1 : Rd w w.heap.size A1 (was.flatMap Ev.cells)) (r2 : Rd w w.heap.size A2 (gone.flatMap Key4.cells)) (r3 : Rd w w.heap.size A3 (fresh.flatMap Ev.cells)) (r4 : Rd w w.heap.size A4 (turned.flatMap Ev.cells)) :
    Calls Try.prog 50 #[.slice A1 was.length c1, .agg #[.slice A2 gone.length c2, .slice A3 fresh.length c3, .slice A4 turned.length c4]] w fun e w' =>
      e = .returned (.int .i64 (if argA was gone fresh turned = true then (if noneA was gone turned = true then 6 else if thereA was fresh = true then 7 else 0) else 1)) ∧ Below w.heap.size w w' := by
  obtain ⟨W, hW⟩ : ∃ W, W = (w.alloc (.cells #[.slice A1 was.length c1] 31)).alloc (.cells #[.slice A2 gone.length c2, .slice A3 fresh.length c3, .slice A4 turned.length c4] 51) := ⟨_, rfl⟩
  have HK1 : Hid (Blk W w.heap.size 31 #[.slice A1 was.length c1]) := Lib.hid (by rw [hW]; exact (by repeat (first | ((with_reducible refine blk_at ?_); first | rfl | (simp; done)) | (with_reducible refine Blk.alloc ?_ _) | (with_reducible refine Blk.drew ?_))))
  have HK2 : Hid (Blk W (w.heap.size + 1) 51 #[.slice A2 gone.length c2, .slice A3 fresh.length c3, .slice A4 turned.length c4]) := Lib.hid (by rw [hW]; exact (by repeat (first | ((with_reducible refine blk_at ?_); first | rfl | (simp; done)) | (with_reducible refine Blk.alloc ?_ _) | (with_reducible refine Blk.drew ?_))))
  have hB0 : Below w.heap.size w W := by rw [hW]; exact bAlloc (bAlloc (Below.refl _ _) _) _
  have HT : Hid (∀ V, Below W.heap.size W V → Below w.heap.size w V) := Lib.hid (fun V hV => hB0.trans (hV.mono hB0.size))
  have HO1 := Lib.hid (fun V (hV : Below W.heap.size W V) => ordered_any A1 c1 was h1 V ((r1.below (HT.out V hV) (Nat.le_refl _)).more (HT.out V hV).size))
  have HO2 := Lib.hid (fun V (hV : Below W.heap.size W V) => ordered_any A3 c3 fresh h3 V ((r3.below (HT.out V hV) (Nat.le_refl _)).more (HT.out V hV).size))
  have HO3 := Lib.hid (fun V (hV : Below W.heap.size W V) => ordered_any A4 c4 turned h4 V ((r4.below (HT.out V hV) (Nat.le_refl _)).more (HT.out V hV).size))
  have HRS : Hid (∀ V, Below W.heap.size W V → Calls Try.prog 39 #[.func (.func 81) #[] #[.pointer (some ⟨V.heap.size, 0, none⟩)]] (V.alloc (.cells #[.slice A2 gone.length c2] 48)) fun e w' => e = .returned (.bool (risingF key0 gone)) ∧ Below V.heap.size V w') := Lib.hid (fun V hV => by
    have hb := bAlloc (Below.refl V.heap.size V) (.cells #[.slice A2 gone.length c2] 48)
    have hw := bAlloc (HT.out V hV) (.cells #[.slice A2 gone.length c2] 48)
    refine (risingK_any V.heap.size A2 c2 gone h2 _ (by simp [go_sem]) (by simp) ((r2.below hw (Nat.le_refl _)).more hw.size)).mono ?_
    rintro e w' ⟨rfl, h⟩
    exact ⟨rfl, bTrans hb h⟩)
  have HB : Hid (Below W.heap.size W W) := Lib.hid (Below.refl _ _)
  have q0 := Blk.one1 HK1.out
  obtain ⟨q1, q2, q3⟩ := Blk.three HK2.out
  have q4 := HK1.out.lt
  have q5 := HK2.out.lt
  have HARG := Lib.hid (show argA was gone fresh turned = (orderedB was && (risingF key0 gone && (orderedB fresh && orderedB turned))) from rfl)
  cases ho1 : orderedB was
  · rw [ho1] at HO1
    rw [show argA was gone fresh turned = false by rw [HARG.out, ho1]; rfl]
    obtain ⟨n1, hn1⟩ : ∃ n, was.length = n := ⟨_, rfl⟩
    rw [hn1] at HK1 HO1 hW q0 ⊢
    obtain ⟨n2, hn2⟩ : ∃ n, gone.length = n := ⟨_, rfl⟩
    obtain ⟨n3, hn3⟩ : ∃ n, fresh.length = n := ⟨_, rfl⟩
    obtain ⟨n4, hn4⟩ : ∃ n, turned.length = n := ⟨_, rfl⟩
    rw [hn2, hn3, hn4] at hW HK2 ⊢
    rw [hn2] at q1
    rw [hn3] at q2
    rw [hn4] at q3
    clear hn1 hn2 hn3 hn4 ho1 r1 r2 r3 r4 h1 h2 h3 h4 HRS HO2 HO3 HARG hB0
    go_enter Try.func50, Try.ntmps50
    go_upto_region 1 with fail
    rw [← hW]
    clear hW
    go_wp2_with (first | (go_at_call 15; (with_reducible refine (HO1.out _ HB.out).mono ?_); rintro e wx ⟨rfl, hbx⟩; have HB := Lib.hid (bTrans HB.out hbx); clear hbx; have q0 := Blk.one1 (HK1.out.on HB.out); have ⟨q1, q2, q3⟩ := Blk.three (HK2.out.on HB.out); have q4 := (HK1.out.on HB.out).lt; have q5 := (HK2.out.on HB.out).lt) | (go_at_call 15; (with_reducible refine (HO2.out _ HB.out).mono ?_); rintro e wx ⟨rfl, hbx⟩; have HB := Lib.hid (bTrans HB.out hbx); clear hbx; have q0 := Blk.one1 (HK1.out.on HB.out); have ⟨q1, q2, q3⟩ := Blk.three (HK2.out.on HB.out); have q4 := (HK1.out.on HB.out).lt; have q5 := (HK2.out.on HB.out).lt) | (go_at_call 15; (with_reducible refine (HO3.out _ HB.out).mono ?_); rintro e wx ⟨rfl, hbx⟩; have HB := Lib.hid (bTrans HB.out hbx); clear hbx; have q0 := Blk.one1 (HK1.out.on HB.out); have ⟨q1, q2, q3⟩ := Blk.three (HK2.out.on HB.out); have q4 := (HK1.out.on HB.out).lt; have q5 := (HK2.out.on HB.out).lt) | (go_at_call 65; refine (vals_any _ _ _ _).mono ?_; rintro e wx ⟨rfl, rfl⟩) | (go_at_call 39; refine (HRS.out _ HB.out).mono ?_; rintro e wx ⟨rfl, hbx⟩; have HB := Lib.hid (bTrans HB.out hbx); clear hbx; have q0 := Blk.one1 (HK1.out.on HB.out); have ⟨q1, q2, q3⟩ := Blk.three (HK2.out.on HB.out); have q4 := (HK1.out.on HB.out).lt; have q5 := (HK2.out.on HB.out).lt))
    go_ret
    exact ⟨rfl, HT.out _ HB.out⟩
  · have hs := ordered_sorted ho1
    have HC1 : Hid (∀ V, Below W.heap.size W V → Calls Try.prog 66 #[.slice A2 gone.length c2, .func (.func 62) #[] #[.pointer (some ⟨w.heap.size, 0, none⟩)]] V fun e w' => e = .returned (.bool (gone.any fun k => !foundK was k)) ∧ Below V.heap.size V w') := Lib.hid (fun V hV =>
      cfK_gen (enters_of Try.func62 (by kernel_rfl) rfl) A2 c2 gone (fun k => !foundK was k) V h2 ((r2.below (HT.out V hV) (Nat.le_refl _)).more (HT.out V hV).size) fun x U hU =>
        fits1_any (g := w.heap.size) (A := A1) (c := c1) (L := was) x U (HK1.out.on (bTrans hV hU)).lt (Blk.one1 (HK1.out.on (bTrans hV hU))) h1 ((r1.below (HT.out U (bTrans hV hU)) (Nat.le_refl _)).more (HT.out U (bTrans hV hU)).size) hs)
    have HC2 : Hid (∀ V, Below W.heap.size W V → Calls Try.prog 37 #[.slice A4 turned.length c4, .func (.func 63) #[] #[.pointer (some ⟨w.heap.size, 0, none⟩)]] V fun e w' => e = .returned (.bool (turned.any fun e => !foundK was e.key)) ∧ Below V.heap.size V w') := Lib.hid (fun V hV =>
      cfE_gen (enters_of Try.func63 (by kernel_rfl) rfl) A4 c4 turned (fun e => !foundK was e.key) V h4 ((r4.below (HT.out V hV) (Nat.le_refl _)).more (HT.out V hV).size) fun x U hU =>
        fits2_any (g := w.heap.size) (A := A1) (c := c1) (L := was) x U (HK1.out.on (bTrans hV hU)).lt (Blk.one1 (HK1.out.on (bTrans hV hU))) h1 ((r1.below (HT.out U (bTrans hV hU)) (Nat.le_refl _)).more (HT.out U (bTrans hV hU)).size) hs)
    have HC3 : Hid (∀ V, Below W.heap.size W V → Calls Try.prog 37 #[.slice A3 fresh.length c3, .func (.func 64) #[] #[.pointer (some ⟨w.heap.size, 0, none⟩)]] V fun e w' => e = .returned (.bool (thereA was fresh)) ∧ Below V.heap.size V w') := Lib.hid (fun V hV =>
      cfE_gen (enters_of Try.func64 (by kernel_rfl) rfl) A3 c3 fresh (fun e => foundK was e.key) V h3 ((r3.below (HT.out V hV) (Nat.le_refl _)).more (HT.out V hV).size) fun x U hU =>
        fits3_any (g := w.heap.size) (A := A1) (c := c1) (L := was) x U (HK1.out.on (bTrans hV hU)).lt (Blk.one1 (HK1.out.on (bTrans hV hU))) h1 ((r1.below (HT.out U (bTrans hV hU)) (Nat.le_refl _)).more (HT.out U (bTrans hV hU)).size) hs)
    rw [ho1] at HO1
    have hna : noneA was gone turned = ((gone.any fun k => !foundK was k) || (turned.any fun e => !foundK was e.key)) := rfl
    have harg : argA was gone fresh turned = (risingF key0 gone && (orderedB fresh && orderedB turned)) := by rw [HARG.out, ho1, Bool.true_and]
    rw [harg, hna]
    obtain ⟨n1, hn1⟩ : ∃ n, was.length = n := ⟨_, rfl⟩
    obtain ⟨n2, hn2⟩ : ∃ n, gone.length = n := ⟨_, rfl⟩
    obtain ⟨n3, hn3⟩ : ∃ n, fresh.length = n := ⟨_, rfl⟩
    obtain ⟨n4, hn4⟩ : ∃ n, turned.length = n := ⟨_, rfl⟩
    obtain ⟨b1, hb1⟩ : ∃ b, risingF key0 gone = b := ⟨_, rfl⟩
    obtain ⟨b2, hb2⟩ : ∃ b, orderedB fresh = b := ⟨_, rfl⟩
    obtain ⟨b3, hb3⟩ : ∃ b, orderedB turned = b := ⟨_, rfl⟩
    obtain ⟨b4, hb4⟩ : ∃ b, (gone.any fun k => !foundK was k) = b := ⟨_, rfl⟩
    obtain ⟨b5, hb5⟩ : ∃ b, (turned.any fun e => !foundK was e.key) = b := ⟨_, rfl⟩
    obtain ⟨b6, hb6⟩ : ∃ b, thereA was fresh = b := ⟨_, rfl⟩
    rw [hn1] at HK1 HO1 hW q0 ⊢
    rw [hn2, hn3, hn4] at hW HK2 ⊢
    rw [hn2] at q1 HRS HC1
    rw [hn3] at q2 HO2 HC3
    rw [hn4] at q3 HO3 HC2
    rw [hb1] at HRS
    rw [hb2] at HO2
    rw [hb3] at HO3
    rw [hb4] at HC1
    rw [hb5] at HC2
    rw [hb6] at HC3
    rw [hb1, hb2, hb3, hb4, hb5, hb6]
    clear hn1 hn2 hn3 hn4 ho1 hs r1 r2 r3 r4 h1 h2 h3 h4 HARG hB0 harg hna hb1 hb2 hb3 hb4 hb5 hb6
    cases b1
    case false =>
      go_enter Try.func50, Try.ntmps50
      go_upto_region 1 with fail
      rw [← hW]
      clear hW
      go_wp2_with (first | (go_at_call 15; (with_reducible refine (HO1.out _ HB.out).mono ?_); rintro e wx ⟨rfl, hbx⟩; have HB := Lib.hid (bTrans HB.out hbx); clear hbx; have q0 := Blk.one1 (HK1.out.on HB.out); have ⟨q1, q2, q3⟩ := Blk.three (HK2.out.on HB.out); have q4 := (HK1.out.on HB.out).lt; have q5 := (HK2.out.on HB.out).lt) | (go_at_call 15; (with_reducible refine (HO2.out _ HB.out).mono ?_); rintro e wx ⟨rfl, hbx⟩; have HB := Lib.hid (bTrans HB.out hbx); clear hbx; have q0 := Blk.one1 (HK1.out.on HB.out); have ⟨q1, q2, q3⟩ := Blk.three (HK2.out.on HB.out); have q4 := (HK1.out.on HB.out).lt; have q5 := (HK2.out.on HB.out).lt) | (go_at_call 15; (with_reducible refine (HO3.out _ HB.out).mono ?_); rintro e wx ⟨rfl, hbx⟩; have HB := Lib.hid (bTrans HB.out hbx); clear hbx; have q0 := Blk.one1 (HK1.out.on HB.out); have ⟨q1, q2, q3⟩ := Blk.three (HK2.out.on HB.out); have q4 := (HK1.out.on HB.out).lt; have q5 := (HK2.out.on HB.out).lt) | (go_at_call 65; refine (vals_any _ _ _ _).mono ?_; rintro e wx ⟨rfl, rfl⟩) | (go_at_call 39; refine (HRS.out _ HB.out).mono ?_; rintro e wx ⟨rfl, hbx⟩; have HB := Lib.hid (bTrans HB.out hbx); clear hbx; have q0 := Blk.one1 (HK1.out.on HB.out); have ⟨q1, q2, q3⟩ := Blk.three (HK2.out.on HB.out); have q4 := (HK1.out.on HB.out).lt; have q5 := (HK2.out.on HB.out).lt))
      go_ret
      exact ⟨rfl, HT.out _ HB.out⟩
    cases b2
    case false =>
      go_enter Try.func50, Try.ntmps50
      go_upto_region 1 with fail
      rw [← hW]
      clear hW
      go_wp2_with (first | (go_at_call 15; (with_reducible refine (HO1.out _ HB.out).mono ?_); rintro e wx ⟨rfl, hbx⟩; have HB := Lib.hid (bTrans HB.out hbx); clear hbx; have q0 := Blk.one1 (HK1.out.on HB.out); have ⟨q1, q2, q3⟩ := Blk.three (HK2.out.on HB.out); have q4 := (HK1.out.on HB.out).lt; have q5 := (HK2.out.on HB.out).lt) | (go_at_call 15; (with_reducible refine (HO2.out _ HB.out).mono ?_); rintro e wx ⟨rfl, hbx⟩; have HB := Lib.hid (bTrans HB.out hbx); clear hbx; have q0 := Blk.one1 (HK1.out.on HB.out); have ⟨q1, q2, q3⟩ := Blk.three (HK2.out.on HB.out); have q4 := (HK1.out.on HB.out).lt; have q5 := (HK2.out.on HB.out).lt) | (go_at_call 15; (with_reducible refine (HO3.out _ HB.out).mono ?_); rintro e wx ⟨rfl, hbx⟩; have HB := Lib.hid (bTrans HB.out hbx); clear hbx; have q0 := Blk.one1 (HK1.out.on HB.out); have ⟨q1, q2, q3⟩ := Blk.three (HK2.out.on HB.out); have q4 := (HK1.out.on HB.out).lt; have q5 := (HK2.out.on HB.out).lt) | (go_at_call 65; refine (vals_any _ _ _ _).mono ?_; rintro e wx ⟨rfl, rfl⟩) | (go_at_call 39; refine (HRS.out _ HB.out).mono ?_; rintro e wx ⟨rfl, hbx⟩; have HB := Lib.hid (bTrans HB.out hbx); clear hbx; have q0 := Blk.one1 (HK1.out.on HB.out); have ⟨q1, q2, q3⟩ := Blk.three (HK2.out.on HB.out); have q4 := (HK1.out.on HB.out).lt; have q5 := (HK2.out.on HB.out).lt))
      go_ret
      exact ⟨rfl, HT.out _ HB.out⟩
    cases b3
    case false =>
      go_enter Try.func50, Try.ntmps50
      go_upto_region 1 with fail
      rw [← hW]
      clear hW
      go_wp2_with (first | (go_at_call 15; (with_reducible refine (HO1.out _ HB.out).mono ?_); rintro e wx ⟨rfl, hbx⟩; have HB := Lib.hid (bTrans HB.out hbx); clear hbx; have q0 := Blk.one1 (HK1.out.on HB.out); have ⟨q1, q2, q3⟩ := Blk.three (HK2.out.on HB.out); have q4 := (HK1.out.on HB.out).lt; have q5 := (HK2.out.on HB.out).lt) | (go_at_call 15; (with_reducible refine (HO2.out _ HB.out).mono ?_); rintro e wx ⟨rfl, hbx⟩; have HB := Lib.hid (bTrans HB.out hbx); clear hbx; have q0 := Blk.one1 (HK1.out.on HB.out); have ⟨q1, q2, q3⟩ := Blk.three (HK2.out.on HB.out); have q4 := (HK1.out.on HB.out).lt; have q5 := (HK2.out.on HB.out).lt) | (go_at_call 15; (with_reducible refine (HO3.out _ HB.out).mono ?_); rintro e wx ⟨rfl, hbx⟩; have HB := Lib.hid (bTrans HB.out hbx); clear hbx; have q0 := Blk.one1 (HK1.out.on HB.out); have ⟨q1, q2, q3⟩ := Blk.three (HK2.out.on HB.out); have q4 := (HK1.out.on HB.out).lt; have q5 := (HK2.out.on HB.out).lt) | (go_at_call 65; refine (vals_any _ _ _ _).mono ?_; rintro e wx ⟨rfl, rfl⟩) | (go_at_call 39; refine (HRS.out _ HB.out).mono ?_; rintro e wx ⟨rfl, hbx⟩; have HB := Lib.hid (bTrans HB.out hbx); clear hbx; have q0 := Blk.one1 (HK1.out.on HB.out); have ⟨q1, q2, q3⟩ := Blk.three (HK2.out.on HB.out); have q4 := (HK1.out.on HB.out).lt; have q5 := (HK2.out.on HB.out).lt))
      go_ret
      exact ⟨rfl, HT.out _ HB.out⟩
    cases b4
    case true =>
      go_enter Try.func50, Try.ntmps50
      go_upto_region 1 with fail
      rw [← hW]
      clear hW
      go_wp2_with (first | (go_at_call 15; (with_reducible refine (HO1.out _ HB.out).mono ?_); rintro e wx ⟨rfl, hbx⟩; have HB := Lib.hid (bTrans HB.out hbx); clear hbx; have q0 := Blk.one1 (HK1.out.on HB.out); have ⟨q1, q2, q3⟩ := Blk.three (HK2.out.on HB.out); have q4 := (HK1.out.on HB.out).lt; have q5 := (HK2.out.on HB.out).lt) | (go_at_call 15; (with_reducible refine (HO2.out _ HB.out).mono ?_); rintro e wx ⟨rfl, hbx⟩; have HB := Lib.hid (bTrans HB.out hbx); clear hbx; have q0 := Blk.one1 (HK1.out.on HB.out); have ⟨q1, q2, q3⟩ := Blk.three (HK2.out.on HB.out); have q4 := (HK1.out.on HB.out).lt; have q5 := (HK2.out.on HB.out).lt) | (go_at_call 15; (with_reducible refine (HO3.out _ HB.out).mono ?_); rintro e wx ⟨rfl, hbx⟩; have HB := Lib.hid (bTrans HB.out hbx); clear hbx; have q0 := Blk.one1 (HK1.out.on HB.out); have ⟨q1, q2, q3⟩ := Blk.three (HK2.out.on HB.out); have q4 := (HK1.out.on HB.out).lt; have q5 := (HK2.out.on HB.out).lt) | (go_at_call 65; refine (vals_any _ _ _ _).mono ?_; rintro e wx ⟨rfl, rfl⟩) | (go_at_call 39; refine (HRS.out _ HB.out).mono ?_; rintro e wx ⟨rfl, hbx⟩; have HB := Lib.hid (bTrans HB.out hbx); clear hbx; have q0 := Blk.one1 (HK1.out.on HB.out); have ⟨q1, q2, q3⟩ := Blk.three (HK2.out.on HB.out); have q4 := (HK1.out.on HB.out).lt; have q5 := (HK2.out.on HB.out).lt) | (go_at_call 66; refine (HC1.out _ HB.out).mono ?_; rintro e wx ⟨rfl, hbx⟩; have HB := Lib.hid (bTrans HB.out hbx); clear hbx; have q0 := Blk.one1 (HK1.out.on HB.out); have ⟨q1, q2, q3⟩ := Blk.three (HK2.out.on HB.out); have q4 := (HK1.out.on HB.out).lt; have q5 := (HK2.out.on HB.out).lt))
      go_ret
      exact ⟨rfl, HT.out _ HB.out⟩
    cases b5
    case true =>
      go_enter Try.func50, Try.ntmps50
      go_upto_region 1 with fail
      rw [← hW]
      clear hW
      go_wp2_with (first | (go_at_call 15; (with_reducible refine (HO1.out _ HB.out).mono ?_); rintro e wx ⟨rfl, hbx⟩; have HB := Lib.hid (bTrans HB.out hbx); clear hbx; have q0 := Blk.one1 (HK1.out.on HB.out); have ⟨q1, q2, q3⟩ := Blk.three (HK2.out.on HB.out); have q4 := (HK1.out.on HB.out).lt; have q5 := (HK2.out.on HB.out).lt) | (go_at_call 15; (with_reducible refine (HO2.out _ HB.out).mono ?_); rintro e wx ⟨rfl, hbx⟩; have HB := Lib.hid (bTrans HB.out hbx); clear hbx; have q0 := Blk.one1 (HK1.out.on HB.out); have ⟨q1, q2, q3⟩ := Blk.three (HK2.out.on HB.out); have q4 := (HK1.out.on HB.out).lt; have q5 := (HK2.out.on HB.out).lt) | (go_at_call 15; (with_reducible refine (HO3.out _ HB.out).mono ?_); rintro e wx ⟨rfl, hbx⟩; have HB := Lib.hid (bTrans HB.out hbx); clear hbx; have q0 := Blk.one1 (HK1.out.on HB.out); have ⟨q1, q2, q3⟩ := Blk.three (HK2.out.on HB.out); have q4 := (HK1.out.on HB.out).lt; have q5 := (HK2.out.on HB.out).lt) | (go_at_call 65; refine (vals_any _ _ _ _).mono ?_; rintro e wx ⟨rfl, rfl⟩) | (go_at_call 39; refine (HRS.out _ HB.out).mono ?_; rintro e wx ⟨rfl, hbx⟩; have HB := Lib.hid (bTrans HB.out hbx); clear hbx; have q0 := Blk.one1 (HK1.out.on HB.out); have ⟨q1, q2, q3⟩ := Blk.three (HK2.out.on HB.out); have q4 := (HK1.out.on HB.out).lt; have q5 := (HK2.out.on HB.out).lt) | (go_at_call 66; refine (HC1.out _ HB.out).mono ?_; rintro e wx ⟨rfl, hbx⟩; have HB := Lib.hid (bTrans HB.out hbx); clear hbx; have q0 := Blk.one1 (HK1.out.on HB.out); have ⟨q1, q2, q3⟩ := Blk.three (HK2.out.on HB.out); have q4 := (HK1.out.on HB.out).lt; have q5 := (HK2.out.on HB.out).lt) | (go_at_call 37; refine (HC2.out _ HB.out).mono ?_; rintro e wx ⟨rfl, hbx⟩; have HB := Lib.hid (bTrans HB.out hbx); clear hbx; have q0 := Blk.one1 (HK1.out.on HB.out); have ⟨q1, q2, q3⟩ := Blk.three (HK2.out.on HB.out); have q4 := (HK1.out.on HB.out).lt; have q5 := (HK2.out.on HB.out).lt))
      go_ret
      exact ⟨rfl, HT.out _ HB.out⟩
    cases b6
    all_goals
      go_enter Try.func50, Try.ntmps50
      go_upto_region 1 with fail
      rw [← hW]
      clear hW
      go_wp2_with (first | (go_at_call 15; (with_reducible refine (HO1.out _ HB.out).mono ?_); rintro e wx ⟨rfl, hbx⟩; have HB := Lib.hid (bTrans HB.out hbx); clear hbx; have q0 := Blk.one1 (HK1.out.on HB.out); have ⟨q1, q2, q3⟩ := Blk.three (HK2.out.on HB.out); have q4 := (HK1.out.on HB.out).lt; have q5 := (HK2.out.on HB.out).lt) | (go_at_call 15; (with_reducible refine (HO2.out _ HB.out).mono ?_); rintro e wx ⟨rfl, hbx⟩; have HB := Lib.hid (bTrans HB.out hbx); clear hbx; have q0 := Blk.one1 (HK1.out.on HB.out); have ⟨q1, q2, q3⟩ := Blk.three (HK2.out.on HB.out); have q4 := (HK1.out.on HB.out).lt; have q5 := (HK2.out.on HB.out).lt) | (go_at_call 15; (with_reducible refine (HO3.out _ HB.out).mono ?_); rintro e wx ⟨rfl, hbx⟩; have HB := Lib.hid (bTrans HB.out hbx); clear hbx; have q0 := Blk.one1 (HK1.out.on HB.out); have ⟨q1, q2, q3⟩ := Blk.three (HK2.out.on HB.out); have q4 := (HK1.out.on HB.out).lt; have q5 := (HK2.out.on HB.out).lt) | (go_at_call 65; refine (vals_any _ _ _ _).mono ?_; rintro e wx ⟨rfl, rfl⟩) | (go_at_call 39; refine (HRS.out _ HB.out).mono ?_; rintro e wx ⟨rfl, hbx⟩; have HB := Lib.hid (bTrans HB.out hbx); clear hbx; have q0 := Blk.one1 (HK1.out.on HB.out); have ⟨q1, q2, q3⟩ := Blk.three (HK2.out.on HB.out); have q4 := (HK1.out.on HB.out).lt; have q5 := (HK2.out.on HB.out).lt) | (go_at_call 66; refine (HC1.out _ HB.out).mono ?_; rintro e wx ⟨rfl, hbx⟩; have HB := Lib.hid (bTrans HB.out hbx); clear hbx; have q0 := Blk.one1 (HK1.out.on HB.out); have ⟨q1, q2, q3⟩ := Blk.three (HK2.out.on HB.out); have q4 := (HK1.out.on HB.out).lt; have q5 := (HK2.out.on HB.out).lt) | (go_at_call 37; (with_reducible refine (HC2.out _ HB.out).mono ?_); rintro e wx ⟨rfl, hbx⟩; have HB := Lib.hid (bTrans HB.out hbx); clear hbx; have q0 := Blk.one1 (HK1.out.on HB.out); have ⟨q1, q2, q3⟩ := Blk.three (HK2.out.on HB.out); have q4 := (HK1.out.on HB.out).lt; have q5 := (HK2.out.on HB.out).lt) | (go_at_call 37; (with_reducible refine (HC3.out _ HB.out).mono ?_); rintro e wx ⟨rfl, hbx⟩; have HB := Lib.hid (bTrans HB.out hbx); clear hbx; have q0 := Blk.one1 (HK1.out.on HB.out); have ⟨q1, q2, q3⟩ := Blk.three (HK2.out.on HB.out); have q4 := (HK1.out.on HB.out).lt; have q5 := (HK2.out.on HB.out).lt))
      go_ret
      exact ⟨rfl, HT.out _ HB.out⟩
end Go.Proofs.Ytdjfpdndaobohaa
