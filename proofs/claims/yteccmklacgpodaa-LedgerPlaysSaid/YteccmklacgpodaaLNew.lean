/-
  The ledger's New.
-/
import Derived.Test.YteccmklacgpodaaLive
namespace Go.Proofs.Yteccmklacgpodaa
open Go.RowKit
set_option maxRecDepth 100000
set_option linter.unusedSimpArgs false
theorem new_bad (n : Int) (w : World) (h : n < 1 ∨ 256 < n) : Calls Try.prog 9 #[.int .i64 n] w fun e w' => e = .returned (.tuple #[.pointer none, .int .i64 1]) ∧ w = w' := by
  go_enter Try.func9, Try.ntmps9
  by_cases h1 : n < 1
  · go_wp2
    go_ret2
    exact ⟨rfl, rfl⟩
  · have h2 : 256 < n := by omega
    clear h
    go_wp2
    go_ret2
    exact ⟨rfl, rfl⟩
theorem new_ok (n : Int) (w : World) (h : 1 ≤ n ∧ n ≤ 256) : Calls Try.prog 9 #[.int .i64 n] w fun e w' => e = .returned (.tuple #[.pointer (some ⟨w.heap.size + 2, 0, none⟩), .int .i64 0]) ∧
    w' = ((w.alloc (.map #[] 0)).alloc (.map #[] 0)).alloc (.cells #[.int .i64 n, .map (some w.heap.size), .map (some (w.heap.size + 1)), .int .i64 (-1), .bool false] 62) := by
  have hmm := @run_makeMap Try.prog
  obtain ⟨h1, h2⟩ := h
  go_enter Try.func9, Try.ntmps9
  go_wp2
  go_ret2
  exact ⟨by simp, by simp⟩
end Go.Proofs.Yteccmklacgpodaa
