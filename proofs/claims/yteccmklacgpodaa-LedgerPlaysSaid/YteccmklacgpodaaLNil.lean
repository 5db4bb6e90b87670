/-
  The ledger's functions at no ledger; far.
-/
import Derived.Test.YteccmklacgpodaaLNew
namespace Go.Proofs.Yteccmklacgpodaa
open Go.RowKit
set_option maxRecDepth 100000
set_option linter.unusedSimpArgs false
theorem tell_nil (f now : Int) (A : Option Addr) (n c : Nat) (w : World) : Calls Try.prog 14 #[.pointer none, .agg #[.int .i64 f, .slice A n c], .int .i64 now] w fun e w' => e = .returned (.tuple #[.slice none 0 0, .int .i64 2]) ∧ Below w.heap.size w w' := by
  go_enter Try.func14, Try.ntmps14
  go_wp2
  go_ret2
  exact ⟨rfl, bAlloc (Below.refl _ _) _⟩
theorem commit_nil (f : Int) (w : World) : Calls Try.prog 11 #[.pointer none, .int .i64 f] w fun e w' => e = .returned (.tuple #[.slice none 0 0, .int .i64 2]) ∧ w = w' := by
  go_enter Try.func11, Try.ntmps11
  go_wp2
  go_ret2
  exact ⟨rfl, rfl⟩
theorem halt_nil (w : World) : Calls Try.prog 23 #[.pointer none] w fun e w' => e = .returned (.slice none 0 0) ∧ w = w' := by
  go_enter Try.func23, Try.ntmps23
  go_wp2
  go_ret
  exact ⟨rfl, rfl⟩
theorem committed_nil (w : World) : Calls Try.prog 12 #[.pointer none] w fun e w' => e = .returned (.int .i64 (-1)) ∧ w = w' := by
  go_enter Try.func12, Try.ntmps12
  go_wp2
  go_ret
  exact ⟨rfl, rfl⟩
theorem told_nil (f : Int) (w : World) : Calls Try.prog 21 #[.pointer none, .int .i64 f] w fun e w' => e = .returned (.slice none 0 0) ∧ w = w' := by
  go_enter Try.func21, Try.ntmps21
  go_wp2
  go_ret
  exact ⟨rfl, rfl⟩
theorem halted_nil (w : World) : Calls Try.prog 20 #[.pointer none] w fun e w' => e = .returned (.bool true) ∧ w = w' := by
  go_enter Try.func20, Try.ntmps20
  go_wp2
  go_ret
  exact ⟨rfl, rfl⟩
/-- Is an act more than is gone through? -/
def farA (frame by_ : Int) (n : Nat) : Prop := 80 < n ∨ 1099511627776 < by_ ∨ by_ < -1099511627776 ∨ 1099511627776 < frame ∨ frame < -1099511627776
instance (frame by_ : Int) (n : Nat) : Decidable (farA frame by_ n) := by unfold farA; infer_instance
set_option maxHeartbeats 1000000 in
theorem far_any (kind frame by_ : Int) (A : Option Addr) (n c : Nat) (w : World) : Calls Try.prog 10 #[.agg #[.int .i64 kind, .int .i64 frame, .slice A n c, .int .i64 by_]] w fun e w' => e = .returned (.bool (decide (farA frame by_ n))) ∧ Below w.heap.size w w' := by
  have hd : decide (farA frame by_ n) = (decide (80 < (n : Int)) || decide (1099511627776 < by_) || decide (by_ < -1099511627776) || decide (1099511627776 < frame) || decide (frame < -1099511627776)) := by
    rw [Bool.eq_iff_iff]
    simp only [decide_eq_true_eq, Bool.or_eq_true]
    unfold farA
    omega
  rw [hd]
  have HD := Lib.hid hd
  clear hd
  go_enter Try.func10, Try.ntmps10
  by_cases h1 : 80 < (n : Int)
  · go_wp2
    go_ret
    exact ⟨by simp [h1], bAlloc (Below.refl _ _) _⟩
  · by_cases h2 : 1099511627776 < by_
    · go_wp2
      go_ret
      exact ⟨by simp [h2], bAlloc (Below.refl _ _) _⟩
    · by_cases h3 : by_ < -1099511627776
      · go_wp2
        go_ret
        exact ⟨by simp [h3], bAlloc (Below.refl _ _) _⟩
      · by_cases h4 : 1099511627776 < frame
        · go_wp2
          go_ret
          exact ⟨by simp [h4], bAlloc (Below.refl _ _) _⟩
        · by_cases h5 : frame < -1099511627776
          · go_wp2
            go_ret
            exact ⟨by simp [h5], bAlloc (Below.refl _ _) _⟩
          · go_wp2
            go_ret
            exact ⟨by simp [h1, h2, h3, h4, h5], bAlloc (Below.refl _ _) _⟩
end Go.Proofs.Yteccmklacgpodaa
