/-
  The walk of EventBytes: unlike events have unlike bytes.
-/
import Derived.Test.YtdjfpdndaobohaaEvByR
import Derived.Test.YtdjfpdndaobohaaROrd
import Derived.Test.YtdjfpdndaobohaaSame
import Derived.Test.YtdjfpdndaobohaaAw11
import Derived.Deep.Cut
namespace Go.Proofs.Ytdjfpdndaobohaa
open Go.RowKit
set_option maxRecDepth 100000
set_option linter.unusedSimpArgs false
/-- The answer of Bytes, whatever the list. -/
theorem bytes_all (A : Option Addr) (c : Nat) (L : List Ev) (hL : L.length ≤ 1000) (w : World) (hr : Rd w w.heap.size A (L.flatMap Ev.cells)) :
    Calls Try.prog 16 #[.slice A L.length c] w fun e w' => e = .returned (.tuple #[.string ⟨(if orderedB L = true then bytesB L else []).toArray⟩, .int .i64 (if orderedB L = true then 0 else 1)]) ∧ Below w.heap.size w w' := by
  cases h : orderedB L
  · exact ebytes_bad A c L hL w hr h
  · exact ebytes_any A c L hL w hr h
set_option maxHeartbeats 4000000 in
theorem evbytes_any (A B : Option Addr) (c d : Nat) (L M : List Ev) (w : World) (hr : Rd w w.heap.size A (L.flatMap Ev.cells)) (hs : Rd w w.heap.size B (M.flatMap Ev.cells)) (hLm : L.length ≤ maxLen) (hMm : M.length ≤ maxLen) :
    Calls Try.prog 5 #[.slice A L.length c, .slice B M.length d] w fun e w' => e = .returned (.bool true) ∧ Below w.heap.size w w' := by
  have hml : maxLen = 9223372036854775807 := rfl
  by_cases hlong : 100 < L.length ∨ 100 < M.length
  · obtain ⟨n, hn⟩ : ∃ n, L.length = n := ⟨_, rfl⟩
    obtain ⟨m, hm⟩ : ∃ m, M.length = m := ⟨_, rfl⟩
    rw [hn, hm] at hlong ⊢
    rw [hn] at hLm
    rw [hm] at hMm
    clear hr hs hn hm
    by_cases h1 : 100 < n
    · go_enter Try.func5, Try.ntmps5
      go_wp2_with (first | (go_at_call 9; refine (awake_any _).mono ?_; rintro e w2 ⟨rfl, hb2⟩))
      go_ret
      exact ⟨rfl, hb2⟩
    · have h2 : 100 < m := by omega
      go_enter Try.func5, Try.ntmps5
      go_wp2_with (first | (go_at_call 9; refine (awake_any _).mono ?_; rintro e w2 ⟨rfl, hb2⟩))
      go_ret
      exact ⟨rfl, hb2⟩
  · have HBA := Lib.hid (fun V (hV : Below w.heap.size w V) => bytes_all A c L (by omega) V ((hr.below hV (Nat.le_refl _)).more hV.size))
    have HBB := Lib.hid (fun V (hV : Below w.heap.size w V) => bytes_all B d M (by omega) V ((hs.below hV (Nat.le_refl _)).more hV.size))
    have HOA := Lib.hid (fun V (hV : Below w.heap.size w V) => rordered_any A c L (by omega) V ((hr.below hV (Nat.le_refl _)).more hV.size))
    have HSM := Lib.hid (fun V (hV : Below w.heap.size w V) => same_any A B c d L M V (by omega) ((hr.below hV (Nat.le_refl _)).more hV.size) ((hs.below hV (Nat.le_refl _)).more hV.size))
    cases hoL : orderedB L
    · rw [hoL] at HBA HOA
      simp only [Bool.false_eq_true, if_false] at HBA
      cases hoM : orderedB M
      all_goals
        rw [hoM] at HBB
        simp only [Bool.false_eq_true, if_false, if_true] at HBB
        obtain ⟨n, hn⟩ : ∃ n, L.length = n := ⟨_, rfl⟩
        obtain ⟨m, hm⟩ : ∃ m, M.length = m := ⟨_, rfl⟩
        rw [hn] at HBA HOA
        rw [hm] at HBB
        rw [hn, hm] at hlong ⊢
        obtain ⟨z, hz⟩ : ∃ z, bytesB M = z := ⟨_, rfl⟩
        try rw [hz] at HBB
        have h1 : n ≤ 100 := by omega
        have h2 : m ≤ 100 := by omega
        clear hr hs hn hm hoL hoM hlong HSM hz
        go_enter Try.func5, Try.ntmps5
        go_wp2_with (first
          | (go_at_call 9; refine (awake_any _).mono ?_; rintro e w2 ⟨rfl, hb2⟩)
          | (go_at_call 16; (with_reducible refine (HBA.out _ hb2).mono ?_); rintro e w3 ⟨rfl, hb3⟩)
          | (go_at_call 16; (with_reducible refine (HBB.out _ (bTrans hb2 hb3)).mono ?_); rintro e w4 ⟨rfl, hb4⟩)
          | (go_at_call 17; refine (HOA.out _ (bTrans (bTrans hb2 hb3) hb4)).mono ?_; rintro e w5 ⟨rfl, hb5⟩))
        go_ret
        exact ⟨rfl, bTrans (bTrans (bTrans hb2 hb3) hb4) hb5⟩
    · have HRB := Lib.hid (fun V (hV : Below w.heap.size w V) => rbytes_any A c L (by omega) V ((hr.below hV (Nat.le_refl _)).more hV.size) hoL)
      have hinj : orderedB M = true → decide (bytesB L = bytesB M) = decide (L = M) := fun hoM => decide_eq_decide.2 (bytesB_inj (ordered_ok hoL).2 (ordered_ok hoM).2)
      rw [hoL] at HBA HOA
      simp only [if_true] at HBA
      cases hoM : orderedB M
      · rw [hoM] at HBB
        simp only [Bool.false_eq_true, if_false] at HBB
        obtain ⟨n, hn⟩ : ∃ n, L.length = n := ⟨_, rfl⟩
        obtain ⟨m, hm⟩ : ∃ m, M.length = m := ⟨_, rfl⟩
        obtain ⟨y, hy⟩ : ∃ y, bytesB L = y := ⟨_, rfl⟩
        rw [hn] at HBA HOA HRB
        rw [hy] at HBA HRB
        rw [hm] at HBB
        rw [hn, hm] at hlong ⊢
        have h1 : n ≤ 100 := by omega
        have h2 : m ≤ 100 := by omega
        clear hr hs hn hm hoL hoM hlong HSM hy hinj
        go_enter Try.func5, Try.ntmps5
        go_wp2_with (first
          | (go_at_call 9; refine (awake_any _).mono ?_; rintro e w2 ⟨rfl, hb2⟩)
          | (go_at_call 16; (with_reducible refine (HBA.out _ hb2).mono ?_); rintro e w3 ⟨rfl, hb3⟩)
          | (go_at_call 16; (with_reducible refine (HBB.out _ (bTrans hb2 hb3)).mono ?_); rintro e w4 ⟨rfl, hb4⟩)
          | (go_at_call 17; refine (HOA.out _ (bTrans (bTrans hb2 hb3) hb4)).mono ?_; rintro e w5 ⟨rfl, hb5⟩)
          | (go_at_call 18; refine (HRB.out _ (bTrans (bTrans (bTrans hb2 hb3) hb4) hb5)).mono ?_; rintro e w6 ⟨rfl, hb6⟩))
        go_ret
        exact ⟨rfl, bTrans (bTrans (bTrans (bTrans hb2 hb3) hb4) hb5) hb6⟩
      · have hij := hinj hoM
        rw [hoM] at HBB
        simp only [if_true] at HBB
        obtain ⟨n, hn⟩ : ∃ n, L.length = n := ⟨_, rfl⟩
        obtain ⟨m, hm⟩ : ∃ m, M.length = m := ⟨_, rfl⟩
        obtain ⟨y, hy⟩ : ∃ y, bytesB L = y := ⟨_, rfl⟩
        obtain ⟨z, hz⟩ : ∃ z, bytesB M = z := ⟨_, rfl⟩
        obtain ⟨q, hq⟩ : ∃ q, decide (L = M) = q := ⟨_, rfl⟩
        rw [hn] at HBA HOA HRB
        rw [hy] at HBA HRB
        rw [hm, hz] at HBB
        rw [hn, hm, hq] at HSM
        rw [hn, hm] at hlong ⊢
        rw [hy, hz, hq] at hij
        have heq : (y == z) = q := by
          rw [← hij]
          by_cases h : y = z
          · subst h; simp
          · rw [decide_eq_false h, beq_eq_false_iff_ne]; exact h
        have h1 : n ≤ 100 := by omega
        have h2 : m ≤ 100 := by omega
        clear hr hs hn hm hoL hoM hlong hy hz hq hinj hij
        cases q
        all_goals
          go_enter Try.func5, Try.ntmps5
          go_wp2_with (first
            | (go_at_call 9; refine (awake_any _).mono ?_; rintro e w2 ⟨rfl, hb2⟩)
            | (go_at_call 16; (with_reducible refine (HBA.out _ hb2).mono ?_); rintro e w3 ⟨rfl, hb3⟩)
            | (go_at_call 16; (with_reducible refine (HBB.out _ (bTrans hb2 hb3)).mono ?_); rintro e w4 ⟨rfl, hb4⟩)
            | (go_at_call 17; refine (HOA.out _ (bTrans (bTrans hb2 hb3) hb4)).mono ?_; rintro e w5 ⟨rfl, hb5⟩)
            | (go_at_call 18; refine (HRB.out _ (bTrans (bTrans (bTrans hb2 hb3) hb4) hb5)).mono ?_; rintro e w6 ⟨rfl, hb6⟩)
            | (go_at_call 14; refine (HSM.out _ (bTrans (bTrans (bTrans (bTrans hb2 hb3) hb4) hb5) hb6)).mono ?_; rintro e w7 ⟨rfl, hb7⟩))
          go_ret
          exact ⟨rfl, bTrans (bTrans (bTrans (bTrans (bTrans hb2 hb3) hb4) hb5) hb6) hb7⟩
end Go.Proofs.Ytdjfpdndaobohaa
