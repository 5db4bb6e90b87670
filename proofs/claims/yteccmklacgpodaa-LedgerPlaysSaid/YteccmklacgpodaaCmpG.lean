/-
  event.Compare, its world told to the block: what a sort asks of it.
-/
import Derived.Test.YteccmklacgpodaaEvLf
import Derived.Sort.Grow
namespace Go.Proofs.Yteccmklacgpodaa
open Go.RowKit Go.Sort
set_option maxRecDepth 100000
set_option maxHeartbeats 1000000 in
theorem compare_grown (a b : Key4) (w : World) : Calls Try.prog 27 #[a.val, b.val] w fun e w' => e = .returned (.int .i64 (cmpK a b)) ∧ ∃ q os', w' = grow (w.drewN q) os' := by
  unfold Key4.val
  go_enter Try.func27, Try.ntmps27
  go_wp2_with fail
  obtain ⟨W1, hW1⟩ : ∃ W1, W1 = (w.alloc (.cells #[.int .i64 a.frame, .int .i64 a.emitter, .int .i64 a.kind, .int .i64 a.ord] 41)).alloc (.cells #[.int .i64 b.frame, .int .i64 b.emitter, .int .i64 b.kind, .int .i64 b.ord] 41) := ⟨_, rfl⟩
  have hba : Blk W1 w.heap.size 41 #[.int .i64 a.frame, .int .i64 a.emitter, .int .i64 a.kind, .int .i64 a.ord] := by rw [hW1]; exact (Blk.new _ _ _).alloc _
  have hbb : Blk W1 (w.heap.size + 1) 41 #[.int .i64 b.frame, .int .i64 b.emitter, .int .i64 b.kind, .int .i64 b.ord] := by
    rw [hW1]
    have := Blk.new (w.alloc (.cells #[.int .i64 a.frame, .int .i64 a.emitter, .int .i64 a.kind, .int .i64 a.ord] 41)) 41 #[.int .i64 b.frame, .int .i64 b.emitter, .int .i64 b.kind, .int .i64 b.ord]
    simpa using this
  have hsz : W1.heap.size = w.heap.size + 2 := by rw [hW1]; simp
  have HG : Hid (∀ o, ∃ q os', (W1.alloc o).drew = grow (w.drewN q) os') := Lib.hid (fun o => ⟨1, _, by rw [hW1, alloc_eq_grow, alloc_eq_grow, alloc_eq_grow, grow_grow, grow_grow]; rfl⟩)
  have a0 := hba.cell 0
  have a1 := hba.cell 1
  have a2 := hba.cell 2
  have a3 := hba.cell 3
  have b0 := hbb.cell 0
  have b1 := hbb.cell 1
  have b2 := hbb.cell 2
  have b3 := hbb.cell 3
  simp only [List.getElem?_toArray, List.getElem?_cons_zero, List.getElem?_cons_succ] at a0 a1 a2 a3 b0 b1 b2 b3
  rw [← hW1]
  have hs1 : w.heap.size < W1.heap.size := by omega
  have hs2 : w.heap.size + 1 < W1.heap.size := by omega
  clear hW1 hba hbb hsz
  go_region_held3 (fun w' => w'.cell? ⟨w.heap.size, 0, none⟩ = some (.int .i64 a.frame) ∧ w'.cell? ⟨w.heap.size, 1, none⟩ = some (.int .i64 a.emitter) ∧ w'.cell? ⟨w.heap.size, 2, none⟩ = some (.int .i64 a.kind) ∧ w'.cell? ⟨w.heap.size, 3, none⟩ = some (.int .i64 a.ord) ∧
      w'.cell? ⟨w.heap.size + 1, 0, none⟩ = some (.int .i64 b.frame) ∧ w'.cell? ⟨w.heap.size + 1, 1, none⟩ = some (.int .i64 b.emitter) ∧ w'.cell? ⟨w.heap.size + 1, 2, none⟩ = some (.int .i64 b.kind) ∧ w'.cell? ⟨w.heap.size + 1, 3, none⟩ = some (.int .i64 b.ord))
    (first | go_keep)
    (first
      | (go_at_call 42; refine (cmp_any _ _ _).mono ?_; rintro e w4 ⟨rfl, rfl⟩)
      | (go_at_call 41; refine (or_any _ _ [cmpI a.frame b.frame, cmpI a.emitter b.emitter, cmpI a.kind b.kind, cmpI a.ord b.ord] _ (by simp) (by exact rd_new W1 _ 3 _ rfl _ (by simp))).mono ?_; rintro e w4 ⟨rfl, rfl⟩))
  go_wp2
  go_ret
  exact ⟨rfl, HG.out _⟩
end Go.Proofs.Yteccmklacgpodaa
