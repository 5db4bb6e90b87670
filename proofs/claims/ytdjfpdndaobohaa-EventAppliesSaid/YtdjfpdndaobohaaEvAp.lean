/-
  The walk of EventApplies: any change is made to any list, or it is told why not.
-/
import Derived.Test.YtdjfpdndaobohaaApQ
import Derived.Test.YtdjfpdndaobohaaSame
import Derived.Test.YtdjfpdndaobohaaAw11
import Derived.Deep.Cut
namespace Go.Proofs.Ytdjfpdndaobohaa
open Go.RowKit
set_option maxRecDepth 100000
set_option linter.unusedSimpArgs false
set_option maxHeartbeats 2000000 in
theorem evapplies_long (A1 A2 A3 A4 : Option Addr) (c1 c2 c3 c4 n1 n2 n3 n4 : Nat) (w : World) (h1 : n1 ≤ 9223372036854775807) (h2 : n2 ≤ 9223372036854775807) (h3 : n3 ≤ 9223372036854775807) (h4 : n4 ≤ 9223372036854775807) (h : 100 < n1 ∨ (n1 ≤ 100 ∧ 100 < n2) ∨ (n1 ≤ 100 ∧ n2 ≤ 100 ∧ 100 < n3) ∨ (n1 ≤ 100 ∧ n2 ≤ 100 ∧ n3 ≤ 100 ∧ 100 < n4)) :
    Calls Try.prog 7 #[.slice A1 n1 c1, .slice A2 n2 c2, .slice A3 n3 c3, .slice A4 n4 c4] w fun e w' => e = .returned (.bool true) ∧ Below w.heap.size w w' := by
  rcases h with h | ⟨g1, h⟩ | ⟨g1, g2, h⟩ | ⟨g1, g2, g3, h⟩
  all_goals
    go_enter Try.func7, Try.ntmps7
    go_wp2_with (first | (go_at_call 9; refine (awake_any _).mono ?_; rintro e w2 ⟨rfl, hb2⟩))
    go_ret
    exact ⟨rfl, hb2⟩
set_option maxHeartbeats 8000000 in
theorem evapplies_any (A1 A2 A3 A4 : Option Addr) (c1 c2 c3 c4 : Nat) (was : List Ev) (gone : List Key4) (fresh turned : List Ev) (w : World) (h1 : was.length ≤ 100) (h2 : gone.length ≤ 100) (h3 : fresh.length ≤ 100) (h4 : turned.length ≤ 100)
    (r1 : Rd w w.heap.size A1 (was.flatMap Ev.cells)) (r2 : Rd w w.heap.size A2 (gone.flatMap Key4.cells)) (r3 : Rd w w.heap.size A3 (fresh.flatMap Ev.cells)) (r4 : Rd w w.heap.size A4 (turned.flatMap Ev.cells)) :
    Calls Try.prog 7 #[.slice A1 was.length c1, .slice A2 gone.length c2, .slice A3 fresh.length c3, .slice A4 turned.length c4] w fun e w' => e = .returned (.bool true) ∧ Below w.heap.size w w' := by
  have HAP := Lib.hid (fun V (hV : Below w.heap.size w V) => apply_any A1 A2 A3 A4 c1 c2 c3 c4 was gone fresh turned V h1 h2 h3 h4 ((r1.below hV (Nat.le_refl _)).more hV.size) ((r2.below hV (Nat.le_refl _)).more hV.size) ((r3.below hV (Nat.le_refl _)).more hV.size) ((r4.below hV (Nat.le_refl _)).more hV.size))
  have HRA := Lib.hid (fun V (hV : Below w.heap.size w V) => rapply_any (c1 := c1) (c2 := c2) (c3 := c3) (c4 := c4) h1 h2 h3 h4 ((r1.below hV (Nat.le_refl _)).more hV.size) ((r2.below hV (Nat.le_refl _)).more hV.size) ((r3.below hV (Nat.le_refl _)).more hV.size) ((r4.below hV (Nat.le_refl _)).more hV.size))
  have hsl : (resA was gone fresh turned).length ≤ 1000 := by
    unfold resA
    split
    · rename_i he
      have hz : orderedB was = true ∧ True := by
        unfold errA at he
        split at he
        · exact ⟨(argA_all (by assumption)).1, trivial⟩
        · omega
      rw [(outA_perm was (ordered_sorted hz.1) gone fresh turned).2.length_eq, List.length_append]
      have := baseA_len gone turned was
      omega
    · simp
  obtain ⟨n1, hn1⟩ : ∃ n, was.length = n := ⟨_, rfl⟩
  obtain ⟨n2, hn2⟩ : ∃ n, gone.length = n := ⟨_, rfl⟩
  obtain ⟨n3, hn3⟩ : ∃ n, fresh.length = n := ⟨_, rfl⟩
  obtain ⟨n4, hn4⟩ : ∃ n, turned.length = n := ⟨_, rfl⟩
  obtain ⟨z, hz⟩ : ∃ z, errA was gone fresh turned = z := ⟨_, rfl⟩
  obtain ⟨M, hM⟩ : ∃ M, resA was gone fresh turned = M := ⟨_, rfl⟩
  rw [hn1, hn2, hn3, hn4, hz, hM] at HAP HRA
  rw [hM] at hsl
  rw [hn1] at h1
  rw [hn2] at h2
  rw [hn3] at h3
  rw [hn4] at h4
  rw [hn1, hn2, hn3, hn4]
  have hzz : (z == z) = true := by simp
  clear hn1 hn2 hn3 hn4 hz hM r1 r2 r3 r4
  go_enter Try.func7, Try.ntmps7
  go_upto_region 5 with (first | (go_at_call 9; refine (awake_any _).mono ?_; rintro e w2 ⟨rfl, hb2⟩; have HB2 := Lib.hid hb2; clear hb2))
  go_upto_region 6 with (first | (go_at_call 25; refine (HAP.out _ HB2.out).mono ?_; rintro e w3 ⟨A5, c5, n5, rfl, ho3, hb3⟩; have HO3 := Lib.hid ho3; have HB3 := Lib.hid (bTrans HB2.out hb3); clear ho3 hb3))
  go_upto_region 7 with (first | (go_at_call 26; refine (HRA.out _ HB3.out).mono ?_; rintro e w4 ⟨A6, c6, n6, rfl, ho4, hb4⟩; have HO4 := Lib.hid ho4; have HB34 := Lib.hid hb4; have HB4 := Lib.hid (bTrans HB3.out hb4); clear ho4 hb4))
  have HSM : Hid (Calls Try.prog 14 #[.slice A5 n5 c5, .slice A6 n6 c6] w4 fun e w' => e = .returned (.bool true) ∧ Below w4.heap.size w4 w') := Lib.hid (by
    have h3 := HO3.out.len
    have h4 := HO4.out.len
    have ho3 := HO3.out.below HB34.out
    have ho4 := HO4.out
    rw [h3] at ho3 ⊢
    rw [h4] at ho4 ⊢
    refine (same_any A5 A6 c5 c6 M M w4 (by omega) ho3.rd ho4.rd).mono ?_
    rintro e w' ⟨rfl, hb⟩
    exact ⟨by simp, hb⟩)
  clear HO3 HO4 HB2 HB3 HB34
  go_wp2_with (first | (go_at_call 14; refine HSM.out.mono ?_; rintro e w5 ⟨rfl, hb5⟩))
  go_ret
  exact ⟨rfl, bTrans HB4.out hb5⟩
end Go.Proofs.Ytdjfpdndaobohaa
