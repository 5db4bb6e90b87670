/-
  Keys of maps: api.Key and int.
-/
import Derived.DeepKeys4
import Derived.Test.YtibeihcpehikoaaGreatMq42
import Derived.Test.YtibeihcpehikoaaGreatMq1
namespace Go.Proofs.YtibeihcpehikoaaGreat
open Go.RowKit
open Go.Maps (Keyed)
set_option maxRecDepth 100000
theorem key_law : Keyed Tryz.prog 60 := Keyed.of_law (deep_law_laid (by kernel_rfl) (m := 4) (by omega) (of_decide_eq_true (by kernel_rfl)) (by kernel_rfl) (by kernel_rfl))
theorem int_law : Keyed Tryz.prog 3 := Maps.int_keyed Tryz.underlying3
theorem Key4.val_inj {a b : Key4} (h : a.val = b.val) : a = b := by
  cases a; cases b
  simpa [Key4.val] using h
/-- A key whose numbers are ints. -/
def Key4.Wf (k : Key4) : Prop := ∀ x ∈ [k.frame, k.emitter, k.kind, k.ord], (Lit.int .i64 x).wf = true
theorem key_lit (k : Key4) (h : k.Wf) : ∃ l, keyOf Tryz.prog 60 k.val = some l := by
  have h1 := h k.frame (by simp)
  have h2 := h k.emitter (by simp)
  have h3 := h k.kind (by simp)
  have h4 := h k.ord (by simp)
  have hk : Tryz.prog.keyType 60 = true := by kernel_rfl
  have hc : Tryz.prog.cellsOf 60 = 4 := by kernel_rfl
  have hi : Tryz.prog.cellsOf 3 = 1 := by kernel_rfl
  have hp : ∀ d, Tryz.prog.keyLits (d + 1) 3 [.int .i64 k.frame] = some [.int .i64 k.frame] ∧ Tryz.prog.keyLits (d + 1) 3 [.int .i64 k.emitter] = some [.int .i64 k.emitter] ∧ Tryz.prog.keyLits (d + 1) 3 [.int .i64 k.kind] = some [.int .i64 k.kind] ∧ Tryz.prog.keyLits (d + 1) 3 [.int .i64 k.ord] = some [.int .i64 k.ord] := fun d => by
    unfold Program.keyLits
    rw [Tryz.underlying3]
    simp [h1, h2, h3, h4]
  obtain ⟨d, hd⟩ : ∃ d, Tryz.prog.types.size + 1 = d + 1 + 1 := ⟨Tryz.prog.types.size - 1, by
    have : 0 < Tryz.prog.types.size := of_decide_eq_true (by kernel_rfl)
    omega⟩
  obtain ⟨p1, p2, p3, p4⟩ := hp d
  refine ⟨.string (keyBytes [.int .i64 k.frame, .int .i64 k.emitter, .int .i64 k.kind, .int .i64 k.ord]), ?_⟩
  unfold keyOf
  rw [Tryz.underlying60, hd]
  have hf : k.val.formed Tryz.prog 60 = true := by
    simp [Key4.val, Value.formed, Tryz.underlying60, hc]
  simp only [hk, hf, Bool.and_self, if_true]
  have : Tryz.prog.keyLits (d + 1 + 1) 60 k.val.cells.toList = some [.int .i64 k.frame, .int .i64 k.emitter, .int .i64 k.kind, .int .i64 k.ord] := by
    unfold Program.keyLits
    rw [Tryz.underlying60]
    simp [Key4.val, Value.cells, hc, hi, p1, p2, p3, p4, List.mapM_cons]
  rw [this]
  rfl
end Go.Proofs.YtibeihcpehikoaaGreat
