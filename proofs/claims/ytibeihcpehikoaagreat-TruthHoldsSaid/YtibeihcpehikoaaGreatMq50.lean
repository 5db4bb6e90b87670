/-
  The walks beneath: THea, At, GoE, RHea.
-/
import Derived.Great.BuildSlice
import Derived.Deep.AppendSrc
import Derived.Deep.Upon
import Derived.Test.YtibeihcpehikoaaGreatMq48
import Derived.Test.YtibeihcpehikoaaGreatMq49
import Derived.Test.YtibeihcpehikoaaGreatMq47
import Derived.Test.YtibeihcpehikoaaGreatMq39
import Derived.Test.YtibeihcpehikoaaGreatMq37
import Derived.Test.YtibeihcpehikoaaGreatMq31
namespace Go.Proofs.YtibeihcpehikoaaGreat
open Go.RowKit Go.Sort
set_option maxRecDepth 100000
set_option linter.unusedSimpArgs false
def zeroH : Ev := ⟨0, 0, 0, 0, 0, 0, 0, 0, 0⟩
theorem zero_evH (W : World) : (zeroValue 62).run Tryz.prog W = .ok zeroH.val W := by kernel_rfl
theorem look_of {S : List Ev} (h : SortedE S) (k : Key4) : ∃ (z : Ev) (ok : Bool), ok = (findS S k).isSome ∧ ((∀ p ∈ prs S, p.1.val ≠ k.val) → z = zeroH ∧ ok = false) ∧ (∀ p ∈ prs S, p.1.val = k.val → z = p.2 ∧ ok = true) := by
  cases hf : findS S k with
  | none =>
    refine ⟨zeroH, false, rfl, fun _ => ⟨rfl, rfl⟩, fun p hp he => ?_⟩
    obtain ⟨h1, h2⟩ := mem_prs.1 hp
    exact absurd (by rw [← h2]; exact keyV_inj he) (findS_none.1 hf _ h1)
  | some z =>
    obtain ⟨h1, h2⟩ := findS_some hf
    refine ⟨z, true, rfl, fun hn => absurd (by rw [h2]) (hn (z.key, z) (mem_prs.2 ⟨h1, rfl⟩)), fun p hp he => ⟨?_, rfl⟩⟩
    obtain ⟨h3, h4⟩ := mem_prs.1 hp
    have h5 : p.2.key = k := by rw [← h4]; exact keyV_inj he
    have := findS_mem h h3
    rw [h5, hf] at this
    exact Option.some.inj this
set_option maxHeartbeats 1000000 in
theorem tHeardC_grown (x y : Ev) (w : World) : Calls Tryz.prog 79 #[x.val, y.val] w fun e w' => e = .returned (.int .i64 (cmpK x.key y.key)) ∧ ∃ q os', w' = grow (w.drewN q) os' := by
  unfold Ev.val
  go_enter Tryz.func79, Tryz.ntmps79
  go_wp2_with fail
  refine (compare_grown x.key y.key _).mono ?_
  rintro e w1 ⟨rfl, q, os', rfl⟩
  have HG : Hid (∀ o1 o2 : Obj, ∃ q' os'', grow (((w.alloc o1).alloc o2).drewN q) os' = grow (w.drewN q') os'') := Lib.hid (fun o1 o2 => ⟨q, #[o1] ++ #[o2] ++ os', by rw [alloc_eq_grow, alloc_eq_grow, grow_grow, ← grow_grow (w.drewN q)]; rfl⟩)
  go_wp2
  go_ret
  exact ⟨rfl, HG.out _ _⟩
set_option maxHeartbeats 8000000 in
theorem theard_any (As : Option Addr) (cs : Nat) (st : List Cm) (w : World) (hst : st.length ≤ 1000) (hwf : ∀ c ∈ st, c.e.key.Wf) (hs : Rd w w.heap.size As (st.flatMap Cm.cells)) :
    Calls Tryz.prog 25 #[.slice As st.length cs] w fun e w' => ∃ (A : Option Addr) (c : Nat), e = .returned (.slice A (heardL st).length c) ∧ OwnL w' w.heap.size 62 9 (.slice A (heardL st).length c) Ev.cells (heardL st) ∧ Below w.heap.size w w' := by
  have HS := Lib.hid hs
  have HWF := Lib.hid hwf
  obtain ⟨m, hm⟩ : ∃ m, st.length = m := ⟨_, rfl⟩
  have HM := Lib.hid hm
  obtain ⟨hx1, hx2⟩ := heardL_ok st [] List.Pairwise.nil
  obtain ⟨X, hX⟩ : ∃ X, heardL st = X := ⟨_, rfl⟩
  have HX := Lib.hid hX
  have HXS : Hid (SortedE X) := Lib.hid (by rw [← hX]; exact hx1)
  have hxl : X.length ≤ 1000 := by rw [← hX]; exact Nat.le_trans hx2 (by simpa using hst)
  rw [hm] at hst ⊢
  rw [hX]
  obtain ⟨w1, hw1⟩ : ∃ w1, w1 = w.alloc (.map #[] 0) := ⟨_, rfl⟩
  have HM1 : Hid (MapIs Key4.val Ev.val Tryz.prog 60 w1 w.heap.size (prs [])) := Lib.hid (by rw [hw1]; exact MapIs.made w)
  have HB1 : Hid (Below w.heap.size w w1) := Lib.hid (by rw [hw1]; exact bAlloc (Below.refl _ _) _)
  clear hs hwf hm hx1 hx2 hX
  have hmm := @run_makeMap Tryz.prog
  go_enter Tryz.func25, Tryz.ntmps25
  go_upto_region 2 with fail
  clear hmm
  rw [← hw1]
  clear hw1
  go_wp2_with fail
  go_loopw [11] (fun v wr => ∃ k : Nat, k ≤ m ∧ v = .int .i64 k ∧ Hid (MapIs Key4.val Ev.val Tryz.prog 60 wr w.heap.size (prs ((st.take k).foldl heardS []))) ∧ Hid (Below w.heap.size w wr)) (fun v _ => m - (intOf v).toNat)
  case atStart => exact ⟨0, Nat.zero_le _, rfl, HM1, HB1⟩
  case round =>
    obtain ⟨k, hk, rfl, HMK, HBK⟩ := hrel
    clear HM1 HB1
    by_cases hlt : k < m
    · have hks : k < st.length := by rw [HM.out]; exact hlt
      obtain ⟨b, off, rfl, hbl, y0, y1, y2, y3, y4, y5, y6, y7, y8, y9, y10, y11⟩ := (HS.out.below HBK.out (Nat.le_refl _)).cm hks
      have hbw : b < wr.heap.size := Nat.lt_of_lt_of_le hbl HBK.out.size
      have HSN := Lib.hid (foldl_snoc heardS [] st k hks)
      obtain ⟨so1, so2⟩ := heardL_ok (st.take k) [] List.Pairwise.nil
      have hsl : ((st.take k).foldl heardS []).length ≤ 1000 := by rw [List.length_take] at so2; simp at so2; omega
      obtain ⟨S, hS⟩ : ∃ S, (st.take k).foldl heardS [] = S := ⟨_, rfl⟩
      obtain ⟨kl, hkl⟩ := key_lit st[k].e.key (HWF.out _ (List.getElem_mem hks))
      obtain ⟨c, hc⟩ : ∃ c, st[k] = c := ⟨_, rfl⟩
      rw [hS] at HMK HSN so1 hsl
      rw [hc] at y0 y1 y2 y3 y4 y5 y6 y7 y8 y9 y10 y11 HSN hkl
      have HKL := Lib.hid hkl
      have HSO := Lib.hid so1
      obtain ⟨z, ok, hok, hno, hyes⟩ := look_of so1 c.e.key
      have HOK := Lib.hid hok
      have HNO := Lib.hid hno
      have HYES := Lib.hid hyes
      clear hS hc hkl so1 so2 hok hno hyes hks hbl
      go_upto_region 5 with fail
      obtain ⟨w2, hw2⟩ : ∃ w2, w2 = wr.alloc (.cells #[.int .i64 c.kind, .int .i64 c.e.frame, .int .i64 c.e.emitter, .int .i64 c.e.kind, .int .i64 c.e.ord, .int .i64 c.e.asset, .int .i64 c.e.gain, .int .i64 c.e.pan, .int .i64 c.e.prio, .int .i64 c.e.len, .int .i64 c.late, .bool c.played] 64) := ⟨_, rfl⟩
      have HC2 : Hid (Blk w2 wr.heap.size 64 #[.int .i64 c.kind, .int .i64 c.e.frame, .int .i64 c.e.emitter, .int .i64 c.e.kind, .int .i64 c.e.ord, .int .i64 c.e.asset, .int .i64 c.e.gain, .int .i64 c.e.pan, .int .i64 c.e.prio, .int .i64 c.e.len, .int .i64 c.late, .bool c.played]) := Lib.hid (by rw [hw2]; exact Blk.new _ _ _)
      have HM2 : Hid (MapIs Key4.val Ev.val Tryz.prog 60 w2 w.heap.size (prs S)) := Lib.hid (by rw [hw2]; exact HMK.out.same (Below.heap_alloc _ _ _ HMK.out.lt))
      have HB2 : Hid (Below w.heap.size w w2) := Lib.hid (by rw [hw2]; exact bAlloc HBK.out _)
      rw [← hw2]
      obtain ⟨g2, hg2⟩ : ∃ g2, wr.heap.size = g2 := ⟨_, rfl⟩
      rw [hg2] at HC2 ⊢
      clear hw2 hg2 HMK HBK y0 y1 y2 y3 y4 y5 y6 y7 y8 y9 y10 y11 hbw
      have c0 := HC2.out.cell 0; have c1 := HC2.out.cell 1; have c2 := HC2.out.cell 2; have c3 := HC2.out.cell 3; have c4 := HC2.out.cell 4
      have lc := HC2.out.lt
      simp only [List.getElem?_toArray, List.getElem?_cons_zero, List.getElem?_cons_succ] at c0 c1 c2 c3 c4
      go_upto_region 6 with (first
        | (refine wpList_mapW _ rfl (.tmp 16) (.tmp 19) 148 rfl 60 62 key_law Tryz.underlying148 (zero_evH _) w.heap.size (prs S) rfl HM2.out c.e.key kl rfl HKL.out (.tuple #[.agg #[.int .i64 z.frame, .int .i64 z.emitter, .int .i64 z.kind, .int .i64 z.ord, .int .i64 z.asset, .int .i64 z.gain, .int .i64 z.pan, .int .i64 z.prio, .int .i64 z.len], .bool ok]) ?_ ?_ ?_
           · intro hn
             obtain ⟨rfl, rfl⟩ := HNO.out hn
             rfl
           · intro p hp he
             obtain ⟨rfl, rfl⟩ := HYES.out p hp he
             rfl))
      obtain ⟨w3, hw3⟩ : ∃ w3, w3 = w2.alloc (.cells #[.int .i64 z.frame, .int .i64 z.emitter, .int .i64 z.kind, .int .i64 z.ord, .int .i64 z.asset, .int .i64 z.gain, .int .i64 z.pan, .int .i64 z.prio, .int .i64 z.len] 62) := ⟨_, rfl⟩
      have HC3 : Hid (Blk w3 g2 64 #[.int .i64 c.kind, .int .i64 c.e.frame, .int .i64 c.e.emitter, .int .i64 c.e.kind, .int .i64 c.e.ord, .int .i64 c.e.asset, .int .i64 c.e.gain, .int .i64 c.e.pan, .int .i64 c.e.prio, .int .i64 c.e.len, .int .i64 c.late, .bool c.played]) := Lib.hid (by rw [hw3]; exact HC2.out.alloc _)
      have HM3 : Hid (MapIs Key4.val Ev.val Tryz.prog 60 w3 w.heap.size (prs S)) := Lib.hid (by rw [hw3]; exact HM2.out.same (Below.heap_alloc _ _ _ HM2.out.lt))
      have HB3 : Hid (Below w.heap.size w w3) := Lib.hid (by rw [hw3]; exact bAlloc HB2.out _)
      rw [← hw3]
      obtain ⟨g3, hg3⟩ : ∃ g3, w2.heap.size = g3 := ⟨_, rfl⟩
      rw [hg3]
      clear hw3 hg3 HC2 HM2 HB2 c0 c1 c2 c3 c4 lc HNO HYES
      have c0 := HC3.out.cell 0; have c1 := HC3.out.cell 1; have c2 := HC3.out.cell 2; have c3 := HC3.out.cell 3; have c4 := HC3.out.cell 4; have c5 := HC3.out.cell 5; have c6 := HC3.out.cell 6; have c7 := HC3.out.cell 7; have c8 := HC3.out.cell 8; have c9 := HC3.out.cell 9
      have lc := HC3.out.lt
      simp only [List.getElem?_toArray, List.getElem?_cons_zero, List.getElem?_cons_succ] at c0 c1 c2 c3 c4 c5 c6 c7 c8 c9
      have HST := Lib.hid (store_put HSO.out c.e)
      have HSD := Lib.hid (sorted_keys (sorted_drop HSO.out c.e.key))
      have hw3s := HB3.out.size
      by_cases h1 : c.kind = 1
      · have q1 : (c.kind == 1) = true := by simp [h1]
        have HH : Hid (heardS S c = putE (dropK S c.e.key) c.e) := Lib.hid (by unfold heardS; rw [if_pos (.inl h1)])
        clear h1
        go_wp2_with (first | (refine wpList_storeM _ rfl (.tmp 33) (.tmp 36) (.tmp 38) 148 rfl 60 62 key_law Tryz.underlying148 w.heap.size (prs S) (prs (putE (dropK S c.e.key) c.e)) rfl HM3.out (by rw [prs_len]; unfold maxLen; omega) c.e.key c.e kl rfl rfl HKL.out HST.out.1 HST.out.2.1 HST.out.2.2.1 HST.out.2.2.2 ?_; intro w4 hm4 ht4; have HM4 := Lib.hid hm4; have HB4 := Lib.hid (HB3.out.grown ht4.grown hw3s (fun g e => by cases e; exact Nat.le_refl _)); clear hm4 ht4))
        go_roundw
        case rel => exact ⟨k + 1, by omega, by go_num, Lib.hid (by rw [HSN.out, HH.out]; exact HM4.out), HB4⟩
        case measure => simp [intOf]; omega
      · have q1 : (c.kind == 1) = false := by simp [h1]
        by_cases h2 : c.kind = 2
        · have q2 : (c.kind == 2) = true := by simp [h2]
          cases ok
          · have q3 : (c.kind == 3) = false := by simp [h2]
            have HH : Hid (heardS S c = S) := Lib.hid (by unfold heardS; rw [if_neg (by rintro (h | ⟨-, h⟩); exact h1 h; rw [← HOK.out] at h; cases h), if_neg (by rw [h2]; decide)])
            clear h1 h2
            go_wp2
            go_roundw
            case rel => exact ⟨k + 1, by omega, by go_num, Lib.hid (by rw [HSN.out, HH.out]; exact HM3.out), HB3⟩
            case measure => simp [intOf]; omega
          · have HH : Hid (heardS S c = putE (dropK S c.e.key) c.e) := Lib.hid (by unfold heardS; rw [if_pos (.inr ⟨h2, HOK.out.symm⟩)])
            clear h1 h2
            go_wp2_with (first | (refine wpList_storeM _ rfl (.tmp 33) (.tmp 36) (.tmp 38) 148 rfl 60 62 key_law Tryz.underlying148 w.heap.size (prs S) (prs (putE (dropK S c.e.key) c.e)) rfl HM3.out (by rw [prs_len]; unfold maxLen; omega) c.e.key c.e kl rfl rfl HKL.out HST.out.1 HST.out.2.1 HST.out.2.2.1 HST.out.2.2.2 ?_; intro w4 hm4 ht4; have HM4 := Lib.hid hm4; have HB4 := Lib.hid (HB3.out.grown ht4.grown hw3s (fun g e => by cases e; exact Nat.le_refl _)); clear hm4 ht4))
            go_roundw
            case rel => exact ⟨k + 1, by omega, by go_num, Lib.hid (by rw [HSN.out, HH.out]; exact HM4.out), HB4⟩
            case measure => simp [intOf]; omega
        · have q2 : (c.kind == 2) = false := by simp [h2]
          by_cases h3 : c.kind = 3
          · have q3 : (c.kind == 3) = true := by simp [h3]
            have HH : Hid (heardS S c = dropK S c.e.key) := Lib.hid (by unfold heardS; rw [if_neg (by rintro (h | ⟨h, -⟩); exact h1 h; exact h2 h), if_pos h3])
            clear h1 h2 h3
            go_wp2_with (first | (refine wpList_dropM _ rfl (.tmp 43) (.tmp 46) 148 60 rfl 62 key_law Tryz.underlying148 w.heap.size (prs S) (prs (dropK S c.e.key)) rfl HM3.out c.e.key kl rfl HKL.out prs_drop HSD.out ?_; intro w4 hm4 ht4; have HM4 := Lib.hid hm4; have HB4 := Lib.hid (HB3.out.grown ht4.grown hw3s (fun g e => by cases e; exact Nat.le_refl _)); clear hm4 ht4))
            go_roundw
            case rel => exact ⟨k + 1, by omega, by go_num, Lib.hid (by rw [HSN.out, HH.out]; exact HM4.out), HB4⟩
            case measure => simp [intOf]; omega
          · have q3 : (c.kind == 3) = false := by simp [h3]
            have HH : Hid (heardS S c = S) := Lib.hid (by unfold heardS; rw [if_neg (by rintro (h | ⟨h, -⟩); exact h1 h; exact h2 h), if_neg h3])
            clear h1 h2 h3
            go_wp2
            go_roundw
            case rel => exact ⟨k + 1, by omega, by go_num, Lib.hid (by rw [HSN.out, HH.out]; exact HM3.out), HB3⟩
            case measure => simp [intOf]; omega
    · obtain rfl : k = m := by omega
      have hXk : (st.take k).foldl heardS [] = X := by rw [List.take_of_length_le (by rw [HM.out]; exact Nat.le_refl _)]; exact HX.out
      rw [hXk] at HMK
      have HC := Lib.hid (fun W (hW : Below wr.heap.size wr W) (hm : W.cell? ⟨wr.heap.size, 0, none⟩ = some (.map (some w.heap.size))) => sortedG_any 79 (enters_of Tryz.func79 (by kernel_rfl) rfl) tHeardC_grown wr.heap.size w.heap.size (prs X) W (by rw [prs_len]; exact hxl) hm (HMK.out.same (hW.block _ HMK.out.lt)))
      clear hXk
      go_wp2_with (first
        | (go_at_call 78; refine (values_any _ _).mono ?_; rintro e w3 ⟨rfl, hw3⟩
           have hb3 : Below wr.heap.size wr w3 := by rw [hw3]; exact bAlloc (Below.refl _ _) _
           have hc3 : w3.cell? ⟨wr.heap.size, 0, none⟩ = some (.map (some w.heap.size)) := by rw [hw3]; simp
           have HC3 := Lib.hid (HC.out w3 hb3 hc3)
           have HB3 := Lib.hid hb3
           clear hw3 hb3 hc3)
        | (go_at_call 77; refine HC3.out.mono ?_; rintro e w4 ⟨A, c, M, rfl, p1, p2, p3, p4⟩
           have P1 := Lib.hid p1; have P2 := Lib.hid p2; have P3 := Lib.hid p3; have P4 := Lib.hid p4; clear p1 p2 p3 p4))
      go_ret
      have hM : X = M := sorts_one (by have := P1.out; rw [prs_snd] at this; exact this.symm) (sortedW_of HXS.out) P2.out HXS.out
      subst hM
      exact ⟨A, c, rfl, P3.out.more (Nat.le_trans HBK.out.size HB3.out.size), HBK.out.trans ((HB3.out.mono HBK.out.size).trans (P4.out.mono (Nat.le_trans HBK.out.size HB3.out.size)))⟩
end Go.Proofs.YtibeihcpehikoaaGreat

namespace Go.Proofs.YtibeihcpehikoaaGreat
open Go.RowKit
set_option maxRecDepth 100000
set_option linter.unusedSimpArgs false
theorem key_kindsA : kindsOf Tryz.prog 100 60 = some [.i64, .i64, .i64, .i64] := by kernel_rfl
theorem key_eql (a b : Key4) (W : World) : (binOp .eql 60 (.agg #[.int .i64 a.frame, .int .i64 a.emitter, .int .i64 a.kind, .int .i64 a.ord]) (.agg #[.int .i64 b.frame, .int .i64 b.emitter, .int .i64 b.kind, .int .i64 b.ord])).run Tryz.prog W = .ok (.bool (decide (a = b))) W := by
  have := eql_ints (P := Tryz.prog) key_kindsA (fun cs => by unfold valOf; rw [Tryz.underlying60]) (xs := [.int .i64 a.frame, .int .i64 a.emitter, .int .i64 a.kind, .int .i64 a.ord]) (ys := [.int .i64 b.frame, .int .i64 b.emitter, .int .i64 b.kind, .int .i64 b.ord]) (keyI a) (keyI b) rfl rfl rfl rfl W
  rw [keyI_dec] at this
  exact this
set_option maxHeartbeats 4000000 in
theorem rat_any (A : Option Addr) (c : Nat) (L : List Ev) (key : Key4) (w : World) (hL : L.length ≤ 1000) (hr : Rd w w.heap.size A (L.flatMap Ev.cells)) :
    Calls Tryz.prog 81 #[.slice A L.length c, key.val] w fun e w' => e = .returned (.int .i64 (atI L key)) ∧ Below w.heap.size w w' := by
  obtain ⟨n, hn⟩ : ∃ n, L.length = n := ⟨_, rfl⟩
  have HLE := Lib.hid (atN_le L key)
  have HAT : Hid (∀ (h : atN L key < L.length), (L[atN L key]'h).key = key) := Lib.hid (fun h => atN_key h)
  have HLT : Hid (∀ j (hj : j < L.length), j < atN L key → decide (L[j].key = key) = false) := Lib.hid (fun j hj h => decide_eq_false (atN_lt hj h))
  have HAI := Lib.hid (show atI L key = if atN L key < L.length then (atN L key : Int) else -1 from rfl)
  rw [hn] at hL ⊢
  have HN := Lib.hid hn
  have HR := Lib.hid hr
  obtain ⟨p, hp⟩ : ∃ p, atN L key = p := ⟨_, rfl⟩
  have HP := Lib.hid hp
  unfold Key4.val
  clear hr hn hp
  go_enter Tryz.func81, Tryz.ntmps81
  go_upto_region 1 with fail
  obtain ⟨W, hW⟩ : ∃ W, W = w.alloc (.cells #[.int .i64 key.frame, .int .i64 key.emitter, .int .i64 key.kind, .int .i64 key.ord] 60) := ⟨_, rfl⟩
  have HK : Hid (Blk W w.heap.size 60 #[.int .i64 key.frame, .int .i64 key.emitter, .int .i64 key.kind, .int .i64 key.ord]) := Lib.hid (by rw [hW]; exact Blk.new _ _ _)
  have HB0 : Hid (Below w.heap.size w W) := Lib.hid (by rw [hW]; exact bAlloc (Below.refl _ _) _)
  rw [← hW]
  clear hW
  go_wp2_with fail
  go_loopw [5] (fun v wr => ∃ k : Nat, k ≤ n ∧ k ≤ p ∧ v = .int .i64 k ∧ Hid (Below W.heap.size W wr)) (fun v _ => n - (intOf v).toNat)
  case atStart => exact ⟨0, Nat.zero_le _, Nat.zero_le _, rfl, Lib.hid (Below.refl _ _)⟩
  case round =>
    obtain ⟨k, hk, hkp, rfl, HQ⟩ := hrel
    have HB := Lib.hid (HB0.out.trans (HQ.out.mono HB0.out.size))
    by_cases hlt : k < n
    · have hkL : k < L.length := by rw [HN.out]; exact hlt
      obtain ⟨b, off, rfl, hbl, x0, x1, x2, x3, -⟩ := (HR.out.below HB.out (Nat.le_refl _)).ev hkL
      have hblw := Nat.lt_of_lt_of_le hbl HB.out.size
      obtain ⟨y0, y1, y2, y3⟩ := Blk.key (HK.out.on HQ.out)
      have hlk := (HK.out.on HQ.out).lt
      have HD : Hid (decide (L[k].key = key) = decide (k = p)) := Lib.hid (by
        rcases Nat.lt_or_ge k p with h | h
        · rw [HLT.out k hkL (by rw [HP.out]; exact h), decide_eq_false (by omega)]
        · obtain rfl : k = p := by omega
          have := HAT.out (by rw [HP.out]; exact hkL)
          simp only [HP.out] at this
          rw [decide_eq_true this, decide_eq_true rfl])
      obtain ⟨x, hx⟩ : ∃ x, L[k] = x := ⟨_, rfl⟩
      rw [hx] at x0 x1 x2 x3 HD
      have HDX : Hid (decide (x.key = key) = decide (k = p)) := HD
      clear hx HD
      by_cases hkp' : k = p
      · subst hkp'
        rw [decide_eq_true rfl] at HDX
        have HF : Hid (atI L key = k) := Lib.hid (by rw [HAI.out, HP.out, if_pos hkL])
        go_wp2_with fail
        refine wp_region_mild (by kernel_rfl) (by kernel_rfl) ?_
        repeat (go_big_quiet_step (fail))
        refine wpQuiet_runs_mild (.bool true) rfl (fun W => by rw [← HDX.out]; exact runs_eql rfl rfl rfl (by kernel_rfl) (key_eql _ _) W) ?_
        simp only [Act.put, List.setIfInBounds_toArray, List.set_cons_zero, List.set_cons_succ]
        repeat (go_big_quiet_step (fail))
        refine wpQuiet_nil ?_
        intro w1 hw'
        obtain ⟨⟨wq, k1⟩, hw''⟩ := hw'
        subst hw''
        go_wp2
        go_ret
        exact ⟨ret_int HF.out.symm, HB.out.trans (k1.mono HB.out.size)⟩
      · rw [decide_eq_false hkp'] at HDX
        go_wp2_with fail
        refine wp_region_mild (by kernel_rfl) (by kernel_rfl) ?_
        repeat (go_big_quiet_step (fail))
        refine wpQuiet_runs_mild (.bool false) rfl (fun W => by rw [← HDX.out]; exact runs_eql rfl rfl rfl (by kernel_rfl) (key_eql _ _) W) ?_
        simp only [Act.put, List.setIfInBounds_toArray, List.set_cons_zero, List.set_cons_succ]
        repeat (go_big_quiet_step (fail))
        refine wpQuiet_nil ?_
        intro w1 hw'
        obtain ⟨⟨wq, k1⟩, hw''⟩ := hw'
        subst hw''
        go_wp2
        go_roundw
        case rel => exact ⟨k + 1, by omega, by omega, by go_num, Lib.hid (bTrans HQ.out k1)⟩
        case measure => simp [intOf]; omega
    · obtain rfl : k = n := by omega
      have HF : Hid (atI L key = -1) := Lib.hid (by rw [HAI.out, HP.out, if_neg (by rw [HN.out]; omega)])
      go_wp2
      go_ret
      exact ⟨ret_int HF.out.symm, HB.out⟩
end Go.Proofs.YtibeihcpehikoaaGreat

namespace Go.Proofs.YtibeihcpehikoaaGreat
open Go.RowKit
set_option maxRecDepth 100000
set_option linter.unusedSimpArgs false
section
variable {P : Program} {a : Act} {o : Oper}
theorem gE_mono {W : World} {T T' : Value → World → Prop} (h : Oper.goes P o a W T) (ht : ∀ v w', T v w' → T' v w') : Oper.goes P o a W T' := by
  unfold Oper.goes at *
  generalize (execOp a.eval o).run P W = r at *
  cases r with
  | ok n w' =>
    cases n <;> simp only [Oper.goesUpon] at h ⊢
    case value u => exact ht _ _ h
    case skip => exact ht _ _ h
    case enter f args => exact h.mono fun e w'' ⟨v, he, hh⟩ => ⟨v, he, ht _ _ hh⟩
  | halt x w' => simp only [Oper.goesUpon] at h
/-- An append, wherever what is added lies. -/
theorem gE_app {W : World} (s x : Operand) (t : TypeId) (ho : o.op = .call { callee := .builtin .append, args := #[s, x], argTypes := #[t, t] })
    (base : Nat) (e : TypeId) (i : TypeInfo) (z : Value) (size bytes : Nat) (ht : P.underlying t = some (.slice e)) (hi : P.info? e = some i) (hz : i.zero = some z)
    (hsize : i.size = size) (hby : i.bytes = bytes) (hzs : z.cells.size = size) (hsz : 0 < size)
    (v : Value) (n : Nat) (xs : List Value) (hs : a.eval s = v) (hown : W.ownsRow base e size v n xs)
    (B : Nat) (A : Option Addr) (m c : Nat) (news : List Value) (hx : a.eval x = .slice A m c) (hl : news.length = m * size) (hr : Rd W B A news) (hA : A = none → m = 0) (h1 : ∀ u ∈ news, u.oneCell' = true)
    (h63 : n + m ≤ maxLen) (hbytes : (n + m) * bytes ≤ 140737488355328) (hbase : base ≤ W.heap.size) :
    Oper.goes P o a W (fun v' W' => W'.ownsRow base e size v' (n + m) (xs ++ news) ∧ W.grownBy W' v.ownBlock) := by
  obtain ⟨v', w', hrun, h2, h3, -⟩ := append_rd_run (P := P) W base t o.type e i z size bytes ht hi hz hsize hby hzs hsz v n xs hown B A m c news hl hr hA h1 h63 hbytes hbase
  have hr : (execOp a.eval o).run P W = .ok (.value v') w' := by
    unfold execOp
    simp only [ho, resolve, invoke, builtin, Sem.run_bind, Sem.run_pure, Result.andThen_ok, List.map_toArray, List.map_cons, List.map_nil, hs, hx, hrun]
  unfold Oper.goes
  rw [hr]
  exact ⟨h2, h3⟩
end
theorem gE_app_ev {W : World} {o : Oper} {a : Act} (s x : Operand) (ho : o.op = .call { callee := .builtin .append, args := #[s, x], argTypes := #[52, 52] }) (base : Nat) (u : Value) (L M : List Ev) (hown : OwnL W base 62 9 u Ev.cells L) (hs : a.eval s = u)
    (B : Nat) (A : Option Addr) (m c : Nat) (hm : m = M.length) (hx : a.eval x = .slice A m c) (hr : Rd W B A (M.flatMap Ev.cells)) (hn : L.length + M.length ≤ 1000000000) (hbase : base ≤ W.heap.size) :
    Oper.goes Tryz.prog o a W (fun v' W' => OwnL W' base 62 9 v' Ev.cells (L ++ M) ∧ W.grownBy W' u.ownBlock) := by
  subst hm
  obtain ⟨i0, hi0, hz0, hz1, hz2⟩ := info_parts Tryz.infoEv
  refine gE_mono (gE_app s x 52 ho base 62 i0 _ 9 72 Tryz.underlying52 hi0 hz0 hz1 hz2 rfl (by decide) u L.length (L.flatMap Ev.cells) hs hown B A M.length c (M.flatMap Ev.cells) hx (length_flatMap_const _ _ Ev.cells_length _) hr (rd_none Ev.cells_length (by decide) hr) (evs_oneCell M) (by unfold maxLen; omega) (by omega) hbase) ?_
  rintro v' W' ⟨h2, h3⟩
  exact ⟨OwnL.app rfl h2, h3⟩
theorem gE_bs0 {W : World} {o : Oper} {a : Act} (ho : o.op = .buildSlice 52 0 #[]) : Oper.goes Tryz.prog o a W (fun v W' => v = .slice (some ⟨W.heap.size, 0, none⟩) 0 0 ∧ W' = W.alloc (.cells #[] 62)) := by
  obtain ⟨i0, hi0, hz0, hz1, hz2⟩ := info_parts Tryz.infoEv
  unfold Oper.goes execOp
  simp [ho, go_sem]
end Go.Proofs.YtibeihcpehikoaaGreat

namespace Go.Proofs.YtibeihcpehikoaaGreat
open Go.RowKit
attribute [local irreducible] wpMixU
set_option maxRecDepth 100000
set_option linter.unusedSimpArgs false
theorem OwnL.capH {α : Type} {w : World} {base : Nat} {E : TypeId} {m : Nat} {f : α → List Value} {l : List α} {g n c : Nat} (h : OwnL w base E m (.slice (some ⟨g, 0, none⟩) n c) f l) : n ≤ c ∧ c ≤ 9223372036854775807 := by
  have hl := h.len
  obtain ⟨_, h | ⟨g', cap, cur, he, _, _, h1, h2, _⟩⟩ := h
  · exact absurd h.1 (by simp)
  · cases he
    simp [maxLen] at h2
    omega
theorem at_cases {S : List Ev} (h : SortedE S) (k : Key4) : (atI S k = -1 ∧ findS S k = none ∧ dropK S k = S) ∨ (∃ j, j < S.length ∧ atI S k = j ∧ (findS S k).isSome = true ∧ dropK S k = S.take j ++ S.drop (j + 1)) := by
  by_cases hj : atN S k < S.length
  · right
    refine ⟨atN S k, hj, by unfold atI; rw [if_pos hj], ?_, ?_⟩
    · cases hf : findS S k with
      | some z => rfl
      | none => exact absurd (atN_key hj) (findS_none.1 hf _ (List.getElem_mem hj))
    · have h1 : S = S.take (atN S k) ++ (S[atN S k] :: S.drop (atN S k + 1)) := by rw [← List.drop_eq_getElem_cons hj, List.take_append_drop]
      have h2 : dropK (S.take (atN S k)) k = S.take (atN S k) := dropK_none (fun x hx => by
        obtain ⟨i, hi, rfl⟩ := List.mem_iff_getElem.1 hx
        rw [List.length_take] at hi
        rw [List.getElem_take]
        exact atN_lt (by omega) (by omega))
      have h3 : dropK (S.drop (atN S k + 1)) k = S.drop (atN S k + 1) := dropK_none (fun x hx he => by
        obtain ⟨i, hi, rfl⟩ := List.mem_iff_getElem.1 hx
        rw [List.length_drop] at hi
        rw [List.getElem_drop] at he
        have := sorted_uniq h (i := atN S k + 1 + i) (j := atN S k) (by omega) hj (by rw [he, atN_key hj])
        omega)
      have h4 : dropK S k = dropK (S.take (atN S k)) k ++ dropK (S.drop (atN S k + 1)) k := by
        conv => lhs; rw [h1]
        unfold dropK
        rw [List.filter_append, List.filter_cons, if_neg (by simp [atN_key hj])]
      rw [h4, h2, h3]
  · left
    have hn : ∀ x ∈ S, x.key ≠ k := fun x hx => by
      obtain ⟨i, hi, rfl⟩ := List.mem_iff_getElem.1 hx
      exact atN_lt hi (by omega)
    exact ⟨by unfold atI; rw [if_neg hj], findS_none.2 hn, dropK_none hn⟩
set_option maxHeartbeats 8000000 in
theorem r26heard_any (As : Option Addr) (cs : Nat) (st : List Cm) (w : World) (hst : st.length ≤ 500) (hs : Rd w w.heap.size As (st.flatMap Cm.cells)) :
    Calls Tryz.prog 26 #[.slice As st.length cs] w fun e w' => ∃ (A : Option Addr) (n c : Nat), e = .returned (.slice A n c) ∧ OwnL w' w.heap.size 62 9 (.slice A n c) Ev.cells (heardL st) ∧ Below w.heap.size w w' := by
  have HS := Lib.hid hs
  obtain ⟨m, hm⟩ : ∃ m, st.length = m := ⟨_, rfl⟩
  have HM := Lib.hid hm
  obtain ⟨X, hX⟩ : ∃ X, heardL st = X := ⟨_, rfl⟩
  have HX := Lib.hid hX
  rw [hm] at hst ⊢
  rw [hX]
  obtain ⟨w1, hw1⟩ : ∃ w1, w1 = w.alloc (.cells #[] 62) := ⟨_, rfl⟩
  have HO1 : Hid (OwnL w1 w.heap.size 62 9 (.slice (some ⟨w.heap.size, 0, none⟩) 0 0) Ev.cells ([] : List Ev)) := Lib.hid (by
    rw [hw1]
    exact OwnL.lit (f := Ev.cells) (m := 9) (n := 0) (c := 0) [] #[] (Nat.le_refl _) (by simp [maxLen]) Ev.cells_length rfl rfl rfl)
  have HB1 : Hid (Below w.heap.size w w1) := Lib.hid (by rw [hw1]; exact bAlloc (Below.refl _ _) _)
  clear hs hm hX
  go_enter Tryz.func26, Tryz.ntmps26
  go_upto_region 2 with fail
  rw [← hw1]
  clear hw1
  go_wp2_with fail
  go_loopw [3, 4] (fun u v wr => ∃ k : Nat, k ≤ m ∧ v = .int .i64 k ∧ ∃ A n c, u = .slice A n c ∧ Hid (OwnL wr w.heap.size 62 9 (.slice A n c) Ev.cells ((st.take k).foldl heardS [])) ∧ Hid (Below w.heap.size w wr)) (fun _ v _ => m - (intOf v).toNat)
  case atStart => exact ⟨0, Nat.zero_le _, rfl, _, _, _, rfl, HO1, HB1⟩
  case round =>
    obtain ⟨k, hk, rfl, A, n, c, rfl, HO, HB⟩ := hrel
    clear HO1 HB1
    by_cases hlt : k < m
    · have hks : k < st.length := by rw [HM.out]; exact hlt
      obtain ⟨b, off, rfl, hbl, y0, y1, y2, y3, y4, y5, y6, y7, y8, y9, y10, y11⟩ := (HS.out.below HB.out (Nat.le_refl _)).cm hks
      have hbw : b < wr.heap.size := Nat.lt_of_lt_of_le hbl HB.out.size
      have HSN := Lib.hid (foldl_snoc heardS [] st k hks)
      obtain ⟨so1, so2⟩ := heardL_ok (st.take k) [] List.Pairwise.nil
      have hsl : ((st.take k).foldl heardS []).length ≤ 500 := by rw [List.length_take] at so2; simp at so2; omega
      obtain ⟨S, hS⟩ : ∃ S, (st.take k).foldl heardS [] = S := ⟨_, rfl⟩
      obtain ⟨x, hx⟩ : ∃ x, st[k] = x := ⟨_, rfl⟩
      rw [hS] at HO HSN so1 hsl
      rw [hx] at y0 y1 y2 y3 y4 y5 y6 y7 y8 y9 y10 y11 HSN
      have HSO := Lib.hid so1
      have HNL := Lib.hid HO.out.len
      have HAT : Hid (Calls Tryz.prog 81 #[.slice A n c, .agg #[.int .i64 x.e.frame, .int .i64 x.e.emitter, .int .i64 x.e.kind, .int .i64 x.e.ord]] wr fun e w' => e = .returned (.int .i64 (atI S x.e.key)) ∧ Below wr.heap.size wr w') := Lib.hid (by
        have h1 := HO.out.rd
        have h2 := HO.out.len
        rw [h2]
        exact rat_any A c S x.e.key wr (by omega) h1)
      have HYY : Hid (∀ W, Below wr.heap.size wr W → ∀ o, W.cell? ⟨b, o, none⟩ = wr.cell? ⟨b, o, none⟩) := Lib.hid (fun W hW o => hW.cell (p := ⟨b, o, none⟩) hbw)
      clear hS hx so1 so2 hks hbl
      go_upto_region 6 with (first
        | (go_at_call 81; refine HAT.out.mono ?_; rintro e w4 ⟨rfl, hb4⟩
           have hy := HYY.out w4 hb4
           have HO4 := Lib.hid (HO.out.below hb4)
           have HB4 := Lib.hid (HB.out.trans (hb4.mono HB.out.size))
           have hbw4 : b < w4.heap.size := Nat.lt_of_lt_of_le hbw hb4.size
           rw [← hy] at y0 y1 y2 y3 y4 y5 y6 y7 y8 y9
           clear hb4 hy))
      clear HAT HYY HO HB
      rcases at_cases HSO.out x.e.key with ⟨hat, hf, hd⟩ | ⟨j, hj, hat, hf, hd⟩
      · rw [hat]
        by_cases h1 : x.kind = 1
        · have HH : Hid (heardS S x = putE S x.e) := Lib.hid (by unfold heardS; rw [if_pos (.inl h1), hd])
          have q1 : (x.kind != 1) = false := by simp [h1]
          have q3 : (x.kind != 3) = true := by simp [h1]
          have ql : ¬ x.kind < 1 := by omega
          have qh : ¬ 3 < x.kind := by omega
          clear hat hf hd h1
          have HPU : Hid (Calls Tryz.prog 82 #[.slice A n c, .agg #[.int .i64 x.e.frame, .int .i64 x.e.emitter, .int .i64 x.e.kind, .int .i64 x.e.ord, .int .i64 x.e.asset, .int .i64 x.e.gain, .int .i64 x.e.pan, .int .i64 x.e.prio, .int .i64 x.e.len]] w4 fun r w' => ∃ A' c' n', r = .returned (.slice A' n' c') ∧ OwnL w' w4.heap.size 62 9 (.slice A' n' c') Ev.cells (putE S x.e) ∧ Below w4.heap.size w4 w') := Lib.hid (by
            have h1 := HO4.out.rd
            have h2 := HO4.out.len
            rw [h2]
            exact r11Put_any A c S x.e w4 (by omega) h1)
          go_wp2_with (first | (go_at_call 82; refine HPU.out.mono ?_; rintro e w7 ⟨A7, c7, n7, rfl, ho7, hb7⟩; have HO7 := Lib.hid ho7; have HB7 := Lib.hid hb7; clear ho7 hb7))
          go_roundw
          case rel => exact ⟨k + 1, by omega, by go_num, A7, n7, c7, rfl, Lib.hid (by rw [HSN.out, HH.out]; exact HO7.out.more HB4.out.size), Lib.hid (HB4.out.trans (HB7.out.mono HB4.out.size))⟩
          case measure => simp [intOf]; omega
        · have q1 : (x.kind != 1) = true := by simp [h1]
          have HH : Hid (heardS S x = S) := Lib.hid (by
            unfold heardS
            rw [if_neg (by rintro (h | ⟨-, h⟩); exact h1 h; rw [hf] at h; cases h)]
            split
            · exact hd
            · rfl)
          clear hat hf hd h1
          by_cases ql : x.kind < 1
          · skip
            go_wp2
            go_roundw
            case rel => exact ⟨k + 1, by omega, by go_num, A, n, c, rfl, Lib.hid (by rw [HSN.out, HH.out]; exact HO4.out), HB4⟩
            case measure => simp [intOf]; omega
          · by_cases qh : 3 < x.kind
            · skip
              go_wp2
              go_roundw
              case rel => exact ⟨k + 1, by omega, by go_num, A, n, c, rfl, Lib.hid (by rw [HSN.out, HH.out]; exact HO4.out), HB4⟩
              case measure => simp [intOf]; omega
            · skip
              go_wp2
              go_roundw
              case rel => exact ⟨k + 1, by omega, by go_num, A, n, c, rfl, Lib.hid (by rw [HSN.out, HH.out]; exact HO4.out), HB4⟩
              case measure => simp [intOf]; omega
      · rw [hat]
        obtain ⟨gA, rfl, hnS, -, hgl⟩ := HO4.out.formA (by omega)
        obtain ⟨hcap1, hcap2⟩ := HO4.out.capH
        have hjn : j < n := by omega
        have hn5 : n ≤ 500 := by omega
        have HR1 : Hid (∀ W, Below w4.heap.size w4 W → Rd W W.heap.size (some ⟨gA, 0, none⟩) ((S.take j).flatMap Ev.cells)) := Lib.hid (fun W hW => by
          have := Rd.sub Ev.cells_length (HO4.out.below hW).rd (k := 0) (i := j) (Nat.zero_le _) (by omega)
          simpa using this)
        have HR2 : Hid (∀ W, Below w4.heap.size w4 W → Rd W W.heap.size (if c = j + 1 then some ⟨gA, 0, none⟩ else some ⟨gA, (j + 1) * 9, none⟩) ((S.drop (j + 1)).flatMap Ev.cells)) := Lib.hid (fun W hW => by
          by_cases hcj : c = j + 1
          · rw [List.drop_eq_nil_of_le (by omega)]
            exact fun hn => absurd rfl hn
          · rw [if_neg hcj]
            have := Rd.sub Ev.cells_length (HO4.out.below hW).rd (k := j + 1) (i := S.length) (by omega) (Nat.le_refl _)
            simpa using this)
        have HNS := Lib.hid hnS
        have HYY : Hid (∀ W, Below w4.heap.size w4 W → ∀ o, W.cell? ⟨b, o, none⟩ = w4.cell? ⟨b, o, none⟩) := Lib.hid (fun W hW o => hW.cell (p := ⟨b, o, none⟩) hbw4)
        have hdl := dropK_le S x.e.key
        have HD := Lib.hid hd
        by_cases h1 : x.kind < 1
        · have HH : Hid (heardS S x = S) := Lib.hid (by unfold heardS; rw [if_neg (by rintro (h | ⟨h, -⟩) <;> omega), if_neg (by omega)])
          clear hat hf hd hnS
          go_wp2
          go_roundw
          case rel => exact ⟨k + 1, by omega, by go_num, some ⟨gA, 0, none⟩, n, c, rfl, Lib.hid (by rw [HSN.out, HH.out]; exact HO4.out), HB4⟩
          case measure => simp [intOf]; omega
        · by_cases h3 : 3 < x.kind
          · have HH : Hid (heardS S x = S) := Lib.hid (by unfold heardS; rw [if_neg (by rintro (h | ⟨h, -⟩) <;> omega), if_neg (by omega)])
            clear hat hf hd hnS
            go_wp2
            go_roundw
            case rel => exact ⟨k + 1, by omega, by go_num, some ⟨gA, 0, none⟩, n, c, rfl, Lib.hid (by rw [HSN.out, HH.out]; exact HO4.out), HB4⟩
            case measure => simp [intOf]; omega
          · by_cases hk3 : x.kind = 3
            · have HH : Hid (heardS S x = dropK S x.e.key) := Lib.hid (by unfold heardS; rw [if_neg (by rintro (h | ⟨h, -⟩) <;> omega), if_pos hk3])
              have q1 : (x.kind != 1) = true := by simp [hk3]
              have q3 : (x.kind != 3) = false := by simp [hk3]
              have hj0 : ¬ ((j : Int) < 0) := by omega
              clear hat hf hd hnS
              go_upto_region 8 with fail
              refine wp_region_mixedU [.make, .pure, .pure, .pure, .tail, .pure, .pure, .pure, .pure, .tail, .pure] (by kernel_rfl) (by kernel_rfl) ?_
              refine mixU_act rfl rfl (fun _ h => h) (fun v => ∃ g, v = .slice (some ⟨g, 0, none⟩) 0 0) (fun v W => OwnL W w4.heap.size 62 9 v Ev.cells []) (fun W hW => gE_mono (gE_bs0 rfl) (by
                rintro v W' ⟨rfl, rfl⟩
                exact ⟨⟨⟨_, rfl⟩, OwnL.lit (f := Ev.cells) (m := 9) (n := 0) (c := 0) [] #[] hW.size (by simp [maxLen]) Ev.cells_length rfl rfl rfl⟩, bAlloc (Below.refl _ _) _⟩)) ?_
              rintro v ⟨g5, rfl⟩
              simp only [Act.put, List.setIfInBounds_toArray, List.set_cons_zero, List.set_cons_succ]
              repeat (refine mixU_pure rfl rfl rfl (fun K hK => ?_); go_big_quiet_op; refine hK _ ?_; clear hK K)
              refine mixU_write rfl rfl (fun v W' => OwnL W' w4.heap.size 62 9 v Ev.cells (S.take j) ∧ Below w4.heap.size w4 W') (fun W hW => gE_mono (gE_app_ev (.tmp 49) (.tmp 52) rfl w4.heap.size (.slice (some ⟨g5, 0, none⟩) 0 0) [] (S.take j) hW.1 rfl W.heap.size (some ⟨gA, 0, none⟩) j c (by rw [List.length_take]; omega) rfl (HR1.out W hW.2) (by rw [List.length_take]; simp; omega) hW.2.size) (by
                rintro v W' ⟨h1, h2⟩
                exact ⟨by simpa using h1, Below.grown hW.2 h2 hW.2.size (fun k e => hW.1.base_le k e)⟩)) ?_
              rintro v5 W5 ⟨ho5, hb5⟩
              obtain ⟨A5, c5, rfl⟩ := ho5.shape
              have HO5 := Lib.hid ho5
              have HB5 := Lib.hid hb5
              clear ho5 hb5
              simp only [Act.put, List.setIfInBounds_toArray, List.set_cons_zero, List.set_cons_succ]
              repeat (refine mixU_pure rfl rfl rfl (fun K hK => ?_); go_big_quiet_op; refine hK _ ?_; clear hK K)
              refine mixU_write rfl rfl (fun v W' => OwnL W' w4.heap.size 62 9 v Ev.cells (S.take j ++ S.drop (j + 1)) ∧ Below w4.heap.size w4 W') (fun W hW => gE_mono (gE_app_ev (.tmp 53) (.tmp 57) rfl w4.heap.size (.slice A5 (S.take j).length c5) (S.take j) (S.drop (j + 1)) (HO5.out.below hW) rfl W.heap.size (if c = j + 1 then some ⟨gA, 0, none⟩ else some ⟨gA, (j + 1) * 9, none⟩) (n - (j + 1)) (c - (j + 1)) (by rw [List.length_drop, HNS.out]) rfl (HR2.out W (HB5.out.trans (Below.mono hW HB5.out.size))) (by rw [List.length_take, List.length_drop]; omega) (Nat.le_trans HB5.out.size hW.size)) (by
                rintro v W' ⟨h1, h2⟩
                exact ⟨h1, Below.grown (HB5.out.trans (Below.mono hW HB5.out.size)) h2 (Nat.le_trans HB5.out.size hW.size) (fun k e => (HO5.out.below hW).base_le k e)⟩)) ?_
              rintro v6 W6 ⟨ho6, hb6⟩
              obtain ⟨A6, c6, rfl⟩ := ho6.shape
              have HO6 := Lib.hid ho6
              have HB6 := Lib.hid hb6
              clear ho6 hb6
              simp only [Act.put, List.setIfInBounds_toArray, List.set_cons_zero, List.set_cons_succ]
              repeat (refine mixU_pure rfl rfl rfl (fun K hK => ?_); go_big_quiet_op; refine hK _ ?_; clear hK K)
              refine mixU_nil ?_
              rintro W7 hg7
              have HB7 : Hid (Below w4.heap.size w4 W7) := Lib.hid (HB6.out.trans (Below.mono hg7 HB6.out.size))
              have HO7 : Hid (OwnL W7 w4.heap.size 62 9 (.slice A6 (S.take j ++ S.drop (j + 1)).length c6) Ev.cells (dropK S x.e.key)) := Lib.hid (by rw [HD.out]; exact HO6.out.below hg7)
              have hy7 := HYY.out W7 HB7.out
              have hbw7 : b < W7.heap.size := Nat.lt_of_lt_of_le hbw4 HB7.out.size
              rw [← hy7] at y0 y1 y2 y3 y4 y5 y6 y7 y8 y9
              obtain ⟨n6, hn6⟩ : ∃ n6, (S.take j ++ S.drop (j + 1)).length = n6 := ⟨_, rfl⟩
              rw [hn6] at HO7 ⊢
              clear hy7 hn6 hg7 HO5 HB5 HO6 HB6 HR1 HR2
              go_wp2
              go_roundw
              case rel => exact ⟨k + 1, by omega, by go_num, A6, n6, c6, rfl, Lib.hid (by rw [HSN.out, HH.out]; exact HO7.out.more HB4.out.size), Lib.hid (HB4.out.trans (HB7.out.mono HB4.out.size))⟩
              case measure => simp [intOf]; omega
            · have HH : Hid (heardS S x = putE (dropK S x.e.key) x.e) := Lib.hid (by
                unfold heardS
                rw [if_pos]
                by_cases hk1 : x.kind = 1
                · exact .inl hk1
                · exact .inr ⟨by omega, hf⟩)
              have q3 : (x.kind != 3) = true := by simp [hk3]
              have hj0 : ¬ ((j : Int) < 0) := by omega
              by_cases hk1 : x.kind = 1
              · have q1 : (x.kind != 1) = false := by simp [hk1]
                clear hat hf hd hnS
                go_upto_region 8 with fail
                refine wp_region_mixedU [.make, .pure, .pure, .pure, .tail, .pure, .pure, .pure, .pure, .tail, .pure] (by kernel_rfl) (by kernel_rfl) ?_
                refine mixU_act rfl rfl (fun _ h => h) (fun v => ∃ g, v = .slice (some ⟨g, 0, none⟩) 0 0) (fun v W => OwnL W w4.heap.size 62 9 v Ev.cells []) (fun W hW => gE_mono (gE_bs0 rfl) (by
                  rintro v W' ⟨rfl, rfl⟩
                  exact ⟨⟨⟨_, rfl⟩, OwnL.lit (f := Ev.cells) (m := 9) (n := 0) (c := 0) [] #[] hW.size (by simp [maxLen]) Ev.cells_length rfl rfl rfl⟩, bAlloc (Below.refl _ _) _⟩)) ?_
                rintro v ⟨g5, rfl⟩
                simp only [Act.put, List.setIfInBounds_toArray, List.set_cons_zero, List.set_cons_succ]
                repeat (refine mixU_pure rfl rfl rfl (fun K hK => ?_); go_big_quiet_op; refine hK _ ?_; clear hK K)
                refine mixU_write rfl rfl (fun v W' => OwnL W' w4.heap.size 62 9 v Ev.cells (S.take j) ∧ Below w4.heap.size w4 W') (fun W hW => gE_mono (gE_app_ev (.tmp 49) (.tmp 52) rfl w4.heap.size (.slice (some ⟨g5, 0, none⟩) 0 0) [] (S.take j) hW.1 rfl W.heap.size (some ⟨gA, 0, none⟩) j c (by rw [List.length_take]; omega) rfl (HR1.out W hW.2) (by rw [List.length_take]; simp; omega) hW.2.size) (by
                  rintro v W' ⟨h1, h2⟩
                  exact ⟨by simpa using h1, Below.grown hW.2 h2 hW.2.size (fun k e => hW.1.base_le k e)⟩)) ?_
                rintro v5 W5 ⟨ho5, hb5⟩
                obtain ⟨A5, c5, rfl⟩ := ho5.shape
                have HO5 := Lib.hid ho5
                have HB5 := Lib.hid hb5
                clear ho5 hb5
                simp only [Act.put, List.setIfInBounds_toArray, List.set_cons_zero, List.set_cons_succ]
                repeat (refine mixU_pure rfl rfl rfl (fun K hK => ?_); go_big_quiet_op; refine hK _ ?_; clear hK K)
                refine mixU_write rfl rfl (fun v W' => OwnL W' w4.heap.size 62 9 v Ev.cells (S.take j ++ S.drop (j + 1)) ∧ Below w4.heap.size w4 W') (fun W hW => gE_mono (gE_app_ev (.tmp 53) (.tmp 57) rfl w4.heap.size (.slice A5 (S.take j).length c5) (S.take j) (S.drop (j + 1)) (HO5.out.below hW) rfl W.heap.size (if c = j + 1 then some ⟨gA, 0, none⟩ else some ⟨gA, (j + 1) * 9, none⟩) (n - (j + 1)) (c - (j + 1)) (by rw [List.length_drop, HNS.out]) rfl (HR2.out W (HB5.out.trans (Below.mono hW HB5.out.size))) (by rw [List.length_take, List.length_drop]; omega) (Nat.le_trans HB5.out.size hW.size)) (by
                  rintro v W' ⟨h1, h2⟩
                  exact ⟨h1, Below.grown (HB5.out.trans (Below.mono hW HB5.out.size)) h2 (Nat.le_trans HB5.out.size hW.size) (fun k e => (HO5.out.below hW).base_le k e)⟩)) ?_
                rintro v6 W6 ⟨ho6, hb6⟩
                obtain ⟨A6, c6, rfl⟩ := ho6.shape
                have HO6 := Lib.hid ho6
                have HB6 := Lib.hid hb6
                clear ho6 hb6
                simp only [Act.put, List.setIfInBounds_toArray, List.set_cons_zero, List.set_cons_succ]
                repeat (refine mixU_pure rfl rfl rfl (fun K hK => ?_); go_big_quiet_op; refine hK _ ?_; clear hK K)
                refine mixU_nil ?_
                rintro W7 hg7
                have HB7 : Hid (Below w4.heap.size w4 W7) := Lib.hid (HB6.out.trans (Below.mono hg7 HB6.out.size))
                have HO7 : Hid (OwnL W7 w4.heap.size 62 9 (.slice A6 (S.take j ++ S.drop (j + 1)).length c6) Ev.cells (dropK S x.e.key)) := Lib.hid (by rw [HD.out]; exact HO6.out.below hg7)
                have hy7 := HYY.out W7 HB7.out
                have hbw7 : b < W7.heap.size := Nat.lt_of_lt_of_le hbw4 HB7.out.size
                rw [← hy7] at y0 y1 y2 y3 y4 y5 y6 y7 y8 y9
                obtain ⟨n6, hn6⟩ : ∃ n6, (S.take j ++ S.drop (j + 1)).length = n6 := ⟨_, rfl⟩
                rw [hn6] at HO7 ⊢
                clear hy7 hn6 hg7 HO5 HB5 HO6 HB6 HR1 HR2
                have HPU : Hid (Calls Tryz.prog 82 #[.slice A6 n6 c6, .agg #[.int .i64 x.e.frame, .int .i64 x.e.emitter, .int .i64 x.e.kind, .int .i64 x.e.ord, .int .i64 x.e.asset, .int .i64 x.e.gain, .int .i64 x.e.pan, .int .i64 x.e.prio, .int .i64 x.e.len]] W7 fun r w' => ∃ A' c' n', r = .returned (.slice A' n' c') ∧ OwnL w' W7.heap.size 62 9 (.slice A' n' c') Ev.cells (putE (dropK S x.e.key) x.e) ∧ Below W7.heap.size W7 w') := Lib.hid (by
                  have h1 := HO7.out.rd
                  have h2 := HO7.out.len
                  rw [h2]
                  exact r11Put_any A6 c6 (dropK S x.e.key) x.e W7 (by omega) h1)
                go_wp2_with (first | (go_at_call 82; refine HPU.out.mono ?_; rintro e w8 ⟨A8, c8, n8, rfl, ho8, hb8⟩; have HO8 := Lib.hid ho8; have HB8 := Lib.hid hb8; clear ho8 hb8))
                go_roundw
                case rel => exact ⟨k + 1, by omega, by go_num, A8, n8, c8, rfl, Lib.hid (by rw [HSN.out, HH.out]; exact HO8.out.more (Nat.le_trans HB4.out.size HB7.out.size)), Lib.hid (HB4.out.trans ((HB7.out.mono HB4.out.size).trans (HB8.out.mono (Nat.le_trans HB4.out.size HB7.out.size))))⟩
                case measure => simp [intOf]; omega
              · have q1 : (x.kind != 1) = true := by simp [hk1]
                clear hat hf hd hnS
                go_upto_region 8 with fail
                refine wp_region_mixedU [.make, .pure, .pure, .pure, .tail, .pure, .pure, .pure, .pure, .tail, .pure] (by kernel_rfl) (by kernel_rfl) ?_
                refine mixU_act rfl rfl (fun _ h => h) (fun v => ∃ g, v = .slice (some ⟨g, 0, none⟩) 0 0) (fun v W => OwnL W w4.heap.size 62 9 v Ev.cells []) (fun W hW => gE_mono (gE_bs0 rfl) (by
                  rintro v W' ⟨rfl, rfl⟩
                  exact ⟨⟨⟨_, rfl⟩, OwnL.lit (f := Ev.cells) (m := 9) (n := 0) (c := 0) [] #[] hW.size (by simp [maxLen]) Ev.cells_length rfl rfl rfl⟩, bAlloc (Below.refl _ _) _⟩)) ?_
                rintro v ⟨g5, rfl⟩
                simp only [Act.put, List.setIfInBounds_toArray, List.set_cons_zero, List.set_cons_succ]
                repeat (refine mixU_pure rfl rfl rfl (fun K hK => ?_); go_big_quiet_op; refine hK _ ?_; clear hK K)
                refine mixU_write rfl rfl (fun v W' => OwnL W' w4.heap.size 62 9 v Ev.cells (S.take j) ∧ Below w4.heap.size w4 W') (fun W hW => gE_mono (gE_app_ev (.tmp 49) (.tmp 52) rfl w4.heap.size (.slice (some ⟨g5, 0, none⟩) 0 0) [] (S.take j) hW.1 rfl W.heap.size (some ⟨gA, 0, none⟩) j c (by rw [List.length_take]; omega) rfl (HR1.out W hW.2) (by rw [List.length_take]; simp; omega) hW.2.size) (by
                  rintro v W' ⟨h1, h2⟩
                  exact ⟨by simpa using h1, Below.grown hW.2 h2 hW.2.size (fun k e => hW.1.base_le k e)⟩)) ?_
                rintro v5 W5 ⟨ho5, hb5⟩
                obtain ⟨A5, c5, rfl⟩ := ho5.shape
                have HO5 := Lib.hid ho5
                have HB5 := Lib.hid hb5
                clear ho5 hb5
                simp only [Act.put, List.setIfInBounds_toArray, List.set_cons_zero, List.set_cons_succ]
                repeat (refine mixU_pure rfl rfl rfl (fun K hK => ?_); go_big_quiet_op; refine hK _ ?_; clear hK K)
                refine mixU_write rfl rfl (fun v W' => OwnL W' w4.heap.size 62 9 v Ev.cells (S.take j ++ S.drop (j + 1)) ∧ Below w4.heap.size w4 W') (fun W hW => gE_mono (gE_app_ev (.tmp 53) (.tmp 57) rfl w4.heap.size (.slice A5 (S.take j).length c5) (S.take j) (S.drop (j + 1)) (HO5.out.below hW) rfl W.heap.size (if c = j + 1 then some ⟨gA, 0, none⟩ else some ⟨gA, (j + 1) * 9, none⟩) (n - (j + 1)) (c - (j + 1)) (by rw [List.length_drop, HNS.out]) rfl (HR2.out W (HB5.out.trans (Below.mono hW HB5.out.size))) (by rw [List.length_take, List.length_drop]; omega) (Nat.le_trans HB5.out.size hW.size)) (by
                  rintro v W' ⟨h1, h2⟩
                  exact ⟨h1, Below.grown (HB5.out.trans (Below.mono hW HB5.out.size)) h2 (Nat.le_trans HB5.out.size hW.size) (fun k e => (HO5.out.below hW).base_le k e)⟩)) ?_
                rintro v6 W6 ⟨ho6, hb6⟩
                obtain ⟨A6, c6, rfl⟩ := ho6.shape
                have HO6 := Lib.hid ho6
                have HB6 := Lib.hid hb6
                clear ho6 hb6
                simp only [Act.put, List.setIfInBounds_toArray, List.set_cons_zero, List.set_cons_succ]
                repeat (refine mixU_pure rfl rfl rfl (fun K hK => ?_); go_big_quiet_op; refine hK _ ?_; clear hK K)
                refine mixU_nil ?_
                rintro W7 hg7
                have HB7 : Hid (Below w4.heap.size w4 W7) := Lib.hid (HB6.out.trans (Below.mono hg7 HB6.out.size))
                have HO7 : Hid (OwnL W7 w4.heap.size 62 9 (.slice A6 (S.take j ++ S.drop (j + 1)).length c6) Ev.cells (dropK S x.e.key)) := Lib.hid (by rw [HD.out]; exact HO6.out.below hg7)
                have hy7 := HYY.out W7 HB7.out
                have hbw7 : b < W7.heap.size := Nat.lt_of_lt_of_le hbw4 HB7.out.size
                rw [← hy7] at y0 y1 y2 y3 y4 y5 y6 y7 y8 y9
                obtain ⟨n6, hn6⟩ : ∃ n6, (S.take j ++ S.drop (j + 1)).length = n6 := ⟨_, rfl⟩
                rw [hn6] at HO7 ⊢
                clear hy7 hn6 hg7 HO5 HB5 HO6 HB6 HR1 HR2
                have HPU : Hid (Calls Tryz.prog 82 #[.slice A6 n6 c6, .agg #[.int .i64 x.e.frame, .int .i64 x.e.emitter, .int .i64 x.e.kind, .int .i64 x.e.ord, .int .i64 x.e.asset, .int .i64 x.e.gain, .int .i64 x.e.pan, .int .i64 x.e.prio, .int .i64 x.e.len]] W7 fun r w' => ∃ A' c' n', r = .returned (.slice A' n' c') ∧ OwnL w' W7.heap.size 62 9 (.slice A' n' c') Ev.cells (putE (dropK S x.e.key) x.e) ∧ Below W7.heap.size W7 w') := Lib.hid (by
                  have h1 := HO7.out.rd
                  have h2 := HO7.out.len
                  rw [h2]
                  exact r11Put_any A6 c6 (dropK S x.e.key) x.e W7 (by omega) h1)
                go_wp2_with (first | (go_at_call 82; refine HPU.out.mono ?_; rintro e w8 ⟨A8, c8, n8, rfl, ho8, hb8⟩; have HO8 := Lib.hid ho8; have HB8 := Lib.hid hb8; clear ho8 hb8))
                go_roundw
                case rel => exact ⟨k + 1, by omega, by go_num, A8, n8, c8, rfl, Lib.hid (by rw [HSN.out, HH.out]; exact HO8.out.more (Nat.le_trans HB4.out.size HB7.out.size)), Lib.hid (HB4.out.trans ((HB7.out.mono HB4.out.size).trans (HB8.out.mono (Nat.le_trans HB4.out.size HB7.out.size))))⟩
                case measure => simp [intOf]; omega
    · obtain rfl : k = m := by omega
      have hXk : (st.take k).foldl heardS [] = X := by rw [List.take_of_length_le (by rw [HM.out]; exact Nat.le_refl _)]; exact HX.out
      rw [hXk] at HO
      go_wp2
      go_ret
      exact ⟨A, n, c, rfl, HO.out, HB.out⟩
end Go.Proofs.YtibeihcpehikoaaGreat
