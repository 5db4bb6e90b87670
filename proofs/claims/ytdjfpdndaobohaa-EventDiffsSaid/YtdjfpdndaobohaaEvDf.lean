/-
  The walk of EventDiffs: the difference makes one of the other.
-/
import Derived.Test.YtdjfpdndaobohaaDfB
import Derived.Test.YtdjfpdndaobohaaDfR
import Derived.Test.YtdjfpdndaobohaaAw11
namespace Go.Proofs.Ytdjfpdndaobohaa
open Go.RowKit
set_option maxRecDepth 100000
set_option linter.unusedSimpArgs false
set_option maxHeartbeats 2000000 in
theorem evdiffs_long (A1 A2 : Option Addr) (c1 c2 n1 n2 : Nat) (w : World) (h1 : n1 ≤ 9223372036854775807) (h2 : n2 ≤ 9223372036854775807) (h : 100 < n1 ∨ (n1 ≤ 100 ∧ 100 < n2)) :
    Calls Try.prog 8 #[.slice A1 n1 c1, .slice A2 n2 c2] w fun e w' => e = .returned (.bool true) ∧ Below w.heap.size w w' := by
  rcases h with h | ⟨g1, h⟩
  all_goals
    go_enter Try.func8, Try.ntmps8
    go_wp2_with (first | (go_at_call 9; refine (awake_any _).mono ?_; rintro e w2 ⟨rfl, hb2⟩))
    go_ret
    exact ⟨rfl, hb2⟩
set_option maxHeartbeats 8000000 in
theorem evdiffs_bad (A1 A2 : Option Addr) (c1 c2 : Nat) (was now : List Ev) (w : World) (h1 : was.length ≤ 100) (h2 : now.length ≤ 100) (r1 : Rd w w.heap.size A1 (was.flatMap Ev.cells)) (r2 : Rd w w.heap.size A2 (now.flatMap Ev.cells)) (hb : (orderedB was && orderedB now) = false) :
    Calls Try.prog 8 #[.slice A1 was.length c1, .slice A2 now.length c2] w fun e w' => e = .returned (.bool true) ∧ Below w.heap.size w w' := by
  have HD := Lib.hid (fun V (hV : Below w.heap.size w V) => diff_bad A1 A2 c1 c2 was now V (by omega) (by omega) ((r1.below hV (Nat.le_refl _)).more hV.size) ((r2.below hV (Nat.le_refl _)).more hV.size) hb)
  have HO1 := Lib.hid (fun V (hV : Below w.heap.size w V) => rordered_any A1 c1 was (by omega) V ((r1.below hV (Nat.le_refl _)).more hV.size))
  have HO2 := Lib.hid (fun V (hV : Below w.heap.size w V) => rordered_any A2 c2 now (by omega) V ((r2.below hV (Nat.le_refl _)).more hV.size))
  obtain ⟨n1, hn1⟩ : ∃ n, was.length = n := ⟨_, rfl⟩
  obtain ⟨n2, hn2⟩ : ∃ n, now.length = n := ⟨_, rfl⟩
  obtain ⟨b1, hb1⟩ : ∃ b, orderedB was = b := ⟨_, rfl⟩
  obtain ⟨b2, hb2⟩ : ∃ b, orderedB now = b := ⟨_, rfl⟩
  rw [hn1, hn2] at HD
  rw [hn1, hb1] at HO1
  rw [hn2, hb2] at HO2
  rw [hb1, hb2] at hb
  rw [hn1] at h1
  rw [hn2] at h2
  rw [hn1, hn2]
  clear hn1 hn2 hb1 hb2 r1 r2
  cases b1
  case false =>
    go_enter Try.func8, Try.ntmps8
    go_upto_region 5 with (first | (go_at_call 9; refine (awake_any _).mono ?_; rintro e w2 ⟨rfl, hb2⟩; have HB2 := Lib.hid hb2; clear hb2))
    go_upto_region 6 with (first | (go_at_call 27; refine (HD.out _ HB2.out).mono ?_; rintro e w3 ⟨rfl, hb3⟩; have HB3 := Lib.hid (bTrans HB2.out hb3); clear hb3))
    obtain ⟨W, hW⟩ : ∃ W, W = w3.alloc (.cells #[.slice none 0 0, .slice none 0 0, .slice none 0 0] 51) := ⟨_, rfl⟩
    have HK : Hid (Blk W w3.heap.size 51 #[.slice none 0 0, .slice none 0 0, .slice none 0 0]) := Lib.hid (by rw [hW]; exact Blk.new _ _ _)
    have HT : Hid (∀ V, Below W.heap.size W V → Below w.heap.size w V) := Lib.hid (fun V hV => by
      have h0 : Below w.heap.size w W := by rw [hW]; exact bAlloc HB3.out _
      exact h0.trans (hV.mono h0.size))
    have HB : Hid (Below W.heap.size W W) := Lib.hid (Below.refl _ _)
    rw [← hW]
    clear hW HB2
    obtain ⟨q1, q2, q3⟩ := Blk.three HK.out
    have ql := HK.out.lt
    go_wp2_with (first | (go_at_call 17; (with_reducible refine (HO1.out _ (HT.out _ HB.out)).mono ?_); rintro e wx ⟨rfl, hbx⟩; have HB := Lib.hid (bTrans HB.out hbx); clear hbx; have ⟨q1, q2, q3⟩ := Blk.three (HK.out.on HB.out); have ql := (HK.out.on HB.out).lt) | (go_at_call 17; (with_reducible refine (HO2.out _ (HT.out _ HB.out)).mono ?_); rintro e wy ⟨rfl, hbx⟩; have HB := Lib.hid (bTrans HB.out hbx); clear hbx; have ⟨p1, p2, p3⟩ := Blk.three (HK.out.on HB.out); have pl := (HK.out.on HB.out).lt))
    go_ret
    exact ⟨rfl, HT.out _ HB.out⟩
  cases b2
  case true => cases hb
  go_enter Try.func8, Try.ntmps8
  go_upto_region 5 with (first | (go_at_call 9; refine (awake_any _).mono ?_; rintro e w2 ⟨rfl, hb2⟩; have HB2 := Lib.hid hb2; clear hb2))
  go_upto_region 6 with (first | (go_at_call 27; refine (HD.out _ HB2.out).mono ?_; rintro e w3 ⟨rfl, hb3⟩; have HB3 := Lib.hid (bTrans HB2.out hb3); clear hb3))
  obtain ⟨W, hW⟩ : ∃ W, W = w3.alloc (.cells #[.slice none 0 0, .slice none 0 0, .slice none 0 0] 51) := ⟨_, rfl⟩
  have HK : Hid (Blk W w3.heap.size 51 #[.slice none 0 0, .slice none 0 0, .slice none 0 0]) := Lib.hid (by rw [hW]; exact Blk.new _ _ _)
  have HT : Hid (∀ V, Below W.heap.size W V → Below w.heap.size w V) := Lib.hid (fun V hV => by
    have h0 : Below w.heap.size w W := by rw [hW]; exact bAlloc HB3.out _
    exact h0.trans (hV.mono h0.size))
  have HB : Hid (Below W.heap.size W W) := Lib.hid (Below.refl _ _)
  rw [← hW]
  clear hW HB2
  obtain ⟨q1, q2, q3⟩ := Blk.three HK.out
  have ql := HK.out.lt
  go_wp2_with (first | (go_at_call 17; (with_reducible refine (HO1.out _ (HT.out _ HB.out)).mono ?_); rintro e wx ⟨rfl, hbx⟩; have HB := Lib.hid (bTrans HB.out hbx); clear hbx; have ⟨q1, q2, q3⟩ := Blk.three (HK.out.on HB.out); have ql := (HK.out.on HB.out).lt) | (go_at_call 17; (with_reducible refine (HO2.out _ (HT.out _ HB.out)).mono ?_); rintro e wy ⟨rfl, hbx⟩; have HB := Lib.hid (bTrans HB.out hbx); clear hbx; have ⟨p1, p2, p3⟩ := Blk.three (HK.out.on HB.out); have pl := (HK.out.on HB.out).lt))
  go_ret
  exact ⟨rfl, HT.out _ HB.out⟩
set_option maxHeartbeats 16000000 in
theorem evdiffs_good (A1 A2 : Option Addr) (c1 c2 : Nat) (was now : List Ev) (w : World) (h1 : was.length ≤ 100) (h2 : now.length ≤ 100) (r1 : Rd w w.heap.size A1 (was.flatMap Ev.cells)) (r2 : Rd w w.heap.size A2 (now.flatMap Ev.cells)) (o1 : orderedB was = true) (o2 : orderedB now = true) :
    Calls Try.prog 8 #[.slice A1 was.length c1, .slice A2 now.length c2] w fun e w' => e = .returned (.bool true) ∧ Below w.heap.size w w' := by
  have HD := Lib.hid (fun V (hV : Below w.heap.size w V) => diff_good A1 A2 c1 c2 was now V (by omega) (by omega) ((r1.below hV (Nat.le_refl _)).more hV.size) ((r2.below hV (Nat.le_refl _)).more hV.size) o1 o2)
  have HRD := Lib.hid (fun V (hV : Below w.heap.size w V) => rdiff_any A1 A2 c1 c2 was now V (by omega) (by omega) ((r1.below hV (Nat.le_refl _)).more hV.size) ((r2.below hV (Nat.le_refl _)).more hV.size) o1 o2)
  have HO1 := Lib.hid (fun V (hV : Below w.heap.size w V) => rordered_any A1 c1 was (by omega) V ((r1.below hV (Nat.le_refl _)).more hV.size))
  have HO2 := Lib.hid (fun V (hV : Below w.heap.size w V) => rordered_any A2 c2 now (by omega) V ((r2.below hV (Nat.le_refl _)).more hV.size))
  rw [o1] at HO1
  rw [o2] at HO2
  have hG : (goneL was now).length ≤ 100 := by unfold goneL; rw [List.length_map]; exact Nat.le_trans (List.length_filter_le _ _) h1
  have hF : (freshL was now).length ≤ 100 := by unfold freshL; exact Nat.le_trans (List.length_filter_le _ _) h2
  have hTl : (turnedL was now).length ≤ 100 := by unfold turnedL; exact Nat.le_trans (List.length_filter_le _ _) h2
  obtain ⟨he, hr⟩ := diff_makes o1 o2
  have HAP : Hid (∀ V, Below w.heap.size w V → ∀ Ag cg Af cf At ct, Rd V V.heap.size Ag ((goneL was now).flatMap Key4.cells) → Rd V V.heap.size Af ((freshL was now).flatMap Ev.cells) → Rd V V.heap.size At ((turnedL was now).flatMap Ev.cells) →
      Calls Try.prog 25 #[.slice A1 was.length c1, .agg #[.slice Ag (goneL was now).length cg, .slice Af (freshL was now).length cf, .slice At (turnedL was now).length ct]] V fun e w' =>
        ∃ A' c' n', e = .returned (.tuple #[.slice A' n' c', .int .i64 0]) ∧ OwnL w' V.heap.size 25 9 (.slice A' n' c') Ev.cells now ∧ Below V.heap.size V w') := Lib.hid (fun V hV Ag cg Af cf At ct g1 g2 g3 => by
    have := apply_any A1 Ag Af At c1 cg cf ct was (goneL was now) (freshL was now) (turnedL was now) V h1 hG hF hTl ((r1.below hV (Nat.le_refl _)).more hV.size) g1 g2 g3
    rw [he, hr] at this
    exact this)
  have HSN : Hid (∀ V, Below w.heap.size w V → ∀ A' c' n', Rd V V.heap.size A' (now.flatMap Ev.cells) → n' = now.length → Calls Try.prog 14 #[.slice A' n' c', .slice A2 now.length c2] V fun e w' => e = .returned (.bool true) ∧ Below V.heap.size V w') := Lib.hid (fun V hV A' c' n' g1 hn => by
    subst hn
    refine (same_any A' A2 c' c2 now now V (by omega) g1 ((r2.below hV (Nat.le_refl _)).more hV.size)).mono ?_
    rintro e w' ⟨rfl, hb⟩
    exact ⟨by simp, hb⟩)
  obtain ⟨n1, hn1⟩ : ∃ n, was.length = n := ⟨_, rfl⟩
  obtain ⟨n2, hn2⟩ : ∃ n, now.length = n := ⟨_, rfl⟩
  obtain ⟨G, hGe⟩ : ∃ G, goneL was now = G := ⟨_, rfl⟩
  obtain ⟨F, hFe⟩ : ∃ F, freshL was now = F := ⟨_, rfl⟩
  obtain ⟨T, hTe⟩ : ∃ T, turnedL was now = T := ⟨_, rfl⟩
  rw [hn1, hn2, hGe, hFe, hTe] at HD HRD
  rw [hn1, hGe, hFe, hTe] at HAP
  rw [hn1] at HO1 h1
  have HN2 := Lib.hid hn2
  rw [hn2] at HO2 HSN h2
  rw [hn1, hn2]
  rw [hGe] at hG
  rw [hFe] at hF
  rw [hTe] at hTl
  clear hn1 hn2 hGe hFe hTe r1 r2 he hr o1 o2
  go_enter Try.func8, Try.ntmps8
  go_upto_region 5 with (first | (go_at_call 9; refine (awake_any _).mono ?_; rintro e w2 ⟨rfl, hb2⟩; have HB2 := Lib.hid hb2; clear hb2))
  go_upto_region 6 with (first | (go_at_call 27; refine (HD.out _ HB2.out).mono ?_; rintro e w3 ⟨Ag, ng, cg, Af, nf, cf, At, nt, ct, rfl, hg3, hf3, ht3, hb3⟩; have HG3 := Lib.hid hg3; have HF3 := Lib.hid hf3; have HT3 := Lib.hid ht3; have HB3 := Lib.hid (bTrans HB2.out hb3); clear hb3 hg3 hf3 ht3))
  obtain ⟨W, hW⟩ : ∃ W, W = w3.alloc (.cells #[.slice Ag ng cg, .slice Af nf cf, .slice At nt ct] 51) := ⟨_, rfl⟩
  have HK : Hid (Blk W w3.heap.size 51 #[.slice Ag ng cg, .slice Af nf cf, .slice At nt ct]) := Lib.hid (by rw [hW]; exact Blk.new _ _ _)
  have HGW : Hid (OwnL W w2.heap.size 23 4 (.slice Ag ng cg) Key4.cells G) := Lib.hid (by rw [hW]; exact HG3.out.alloc _)
  have HFW : Hid (OwnL W w2.heap.size 25 9 (.slice Af nf cf) Ev.cells F) := Lib.hid (by rw [hW]; exact HF3.out.alloc _)
  have HTW : Hid (OwnL W w2.heap.size 25 9 (.slice At nt ct) Ev.cells T) := Lib.hid (by rw [hW]; exact HT3.out.alloc _)
  have HT : Hid (∀ V, Below W.heap.size W V → Below w.heap.size w V) := Lib.hid (fun V hV => by
    have h0 : Below w.heap.size w W := by rw [hW]; exact bAlloc HB3.out _
    exact h0.trans (hV.mono h0.size))
  have HB : Hid (Below W.heap.size W W) := Lib.hid (Below.refl _ _)
  rw [← hW]
  clear hW HB2 HG3 HF3 HT3
  obtain ⟨q1, q2, q3⟩ := Blk.three HK.out
  have ql := HK.out.lt
  go_upto_region 8 with (first | (go_at_call 17; (with_reducible refine (HO1.out _ (HT.out _ HB.out)).mono ?_); rintro e wx ⟨rfl, hbx⟩; have HB := Lib.hid (bTrans HB.out hbx); clear hbx; have ⟨q1, q2, q3⟩ := Blk.three (HK.out.on HB.out); have ql := (HK.out.on HB.out).lt) | (go_at_call 17; (with_reducible refine (HO2.out _ (HT.out _ HB.out)).mono ?_); rintro e wy ⟨rfl, hbx⟩; have HB := Lib.hid (bTrans HB.out hbx); clear hbx; have ⟨p1, p2, p3⟩ := Blk.three (HK.out.on HB.out); have pl := (HK.out.on HB.out).lt))
  go_upto_region 9 with (first | (go_at_call 28; refine (HRD.out _ (HT.out _ HB.out)).mono ?_; rintro e w5 ⟨Ag', ng', cg', Af', nf', cf', At', nt', ct', rfl, hg5, hf5, ht5, hb5⟩; have HG5 := Lib.hid hg5; have HF5 := Lib.hid hf5; have HT5 := Lib.hid ht5; have HB5 := Lib.hid (bTrans HB.out hb5); clear hb5 hg5 hf5 ht5))
  obtain ⟨r1, r2, r3⟩ := Blk.three (HK.out.on HB5.out)
  have rl := (HK.out.on HB5.out).lt
  have HAC : Hid (∃ D : Prop, D) := Lib.hid ⟨True, trivial⟩
  have HAPC := Lib.hid (HAP.out w5 (HT.out _ HB5.out) Ag cg Af cf At ct (HGW.out.below HB5.out).rd (HFW.out.below HB5.out).rd (HTW.out.below HB5.out).rd)
  rw [← HGW.out.len, ← HFW.out.len, ← HTW.out.len] at HAPC
  go_upto_region 10 with (first | (go_at_call 25; refine HAPC.out.mono ?_; rintro e w6 ⟨A6, c6, n6, rfl, ho6, hb6⟩; have HO6 := Lib.hid ho6; have H56 := Lib.hid hb6; have HB6 := Lib.hid (bTrans HB5.out hb6); clear hb6 ho6))
  clear q1 q2 q3 ql p1 p2 p3 pl r1 r2 r3 rl HAPC
  have HKS : Hid (∀ V, Below w6.heap.size w6 V → Calls Try.prog 29 #[.slice Ag ng cg, .slice Ag' ng' cg'] V fun e w' => e = .returned (.bool true) ∧ Below V.heap.size V w') := Lib.hid (fun V hV => by
    have g1 := (HGW.out.below (bTrans HB6.out hV)).rd
    have g2 := (HG5.out.below (bTrans H56.out hV)).rd
    rw [HGW.out.len, HG5.out.len]
    exact rkeys_same Ag Ag' cg cg' G V (by omega) g1 g2)
  have HFS : Hid (∀ V, Below w6.heap.size w6 V → Calls Try.prog 14 #[.slice Af nf cf, .slice Af' nf' cf'] V fun e w' => e = .returned (.bool true) ∧ Below V.heap.size V w') := Lib.hid (fun V hV => by
    have g1 := (HFW.out.below (bTrans HB6.out hV)).rd
    have g2 := (HF5.out.below (bTrans H56.out hV)).rd
    rw [HFW.out.len, HF5.out.len]
    refine (same_any Af Af' cf cf' F F V (by omega) g1 g2).mono ?_
    rintro e w' ⟨rfl, hb⟩
    exact ⟨by simp, hb⟩)
  have HTS : Hid (∀ V, Below w6.heap.size w6 V → Calls Try.prog 14 #[.slice At nt ct, .slice At' nt' ct'] V fun e w' => e = .returned (.bool true) ∧ Below V.heap.size V w') := Lib.hid (fun V hV => by
    have g1 := (HTW.out.below (bTrans HB6.out hV)).rd
    have g2 := (HT5.out.below (bTrans H56.out hV)).rd
    rw [HTW.out.len, HT5.out.len]
    refine (same_any At At' ct ct' T T V (by omega) g1 g2).mono ?_
    rintro e w' ⟨rfl, hb⟩
    exact ⟨by simp, hb⟩)
  have HNS : Hid (∀ V, Below w6.heap.size w6 V → Calls Try.prog 14 #[.slice A6 n6 c6, .slice A2 n2 c2] V fun e w' => e = .returned (.bool true) ∧ Below V.heap.size V w') := Lib.hid (fun V hV =>
    HSN.out V (HT.out _ (bTrans HB6.out hV)) A6 c6 n6 (HO6.out.below hV).rd (HO6.out.len.trans HN2.out))
  have HKW := Lib.hid (HK.out.on HB6.out)
  have HTT : Hid (∀ V, Below w6.heap.size w6 V → Below w.heap.size w V) := Lib.hid (fun V hV => HT.out _ (bTrans HB6.out hV))
  clear HGW HFW HTW HO6 HG5 HF5 HT5 HB5 H56 HB6 HK HB HT HAP HSN HO1 HO2 HRD HD HB3 HAC
  have HK := HKW
  have HB : Hid (Below w6.heap.size w6 w6) := Lib.hid (Below.refl _ _)
  obtain ⟨q1, q2, q3⟩ := Blk.three HK.out
  have ql := HK.out.lt
  go_wp2_with (first
    | (go_at_call 29; refine (HKS.out _ HB.out).mono ?_; rintro e wx ⟨rfl, hbx⟩; have HB := Lib.hid (bTrans HB.out hbx); clear hbx; have ⟨q1, q2, q3⟩ := Blk.three (HK.out.on HB.out); have ql := (HK.out.on HB.out).lt)
    | (go_at_call 14; (with_reducible refine (HFS.out _ HB.out).mono ?_); rintro e wx ⟨rfl, hbx⟩; have HB := Lib.hid (bTrans HB.out hbx); clear hbx; have ⟨q1, q2, q3⟩ := Blk.three (HK.out.on HB.out); have ql := (HK.out.on HB.out).lt)
    | (go_at_call 14; (with_reducible refine (HTS.out _ HB.out).mono ?_); rintro e wx ⟨rfl, hbx⟩; have HB := Lib.hid (bTrans HB.out hbx); clear hbx; have ⟨q1, q2, q3⟩ := Blk.three (HK.out.on HB.out); have ql := (HK.out.on HB.out).lt)
    | (go_at_call 14; (with_reducible refine (HNS.out _ HB.out).mono ?_); rintro e wx ⟨rfl, hbx⟩; have HB := Lib.hid (bTrans HB.out hbx); clear hbx; have ⟨q1, q2, q3⟩ := Blk.three (HK.out.on HB.out); have ql := (HK.out.on HB.out).lt))
  go_ret
  exact ⟨rfl, HTT.out _ HB.out⟩
end Go.Proofs.Ytdjfpdndaobohaa
