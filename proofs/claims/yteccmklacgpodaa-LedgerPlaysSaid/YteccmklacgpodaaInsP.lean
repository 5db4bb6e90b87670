/-
  A list with an element put in; events in order; an event's cells.
-/
import Derived.Test.YteccmklacgpodaaEventPlain
import Derived.Test.YteccmklacgpodaaOwn
namespace Go.Proofs.Yteccmklacgpodaa
open Go.RowKit
set_option maxRecDepth 100000
/-- An element put in ahead of the i-th. -/
def insL {α : Type} (L : List α) (i : Nat) (x : α) : List α := L.take i ++ x :: L.drop i
theorem insL_length {α : Type} (L : List α) (i : Nat) (x : α) : (insL L i x).length = L.length + 1 := by
  unfold insL; rw [List.length_append, List.length_cons, List.length_take, List.length_drop]; omega
theorem insL_end {α : Type} (L : List α) (x : α) : insL L L.length x = L ++ [x] := by unfold insL; simp
theorem mem_insL {α : Type} {L : List α} {i : Nat} {x e : α} : e ∈ insL L i x ↔ e = x ∨ e ∈ L := by
  unfold insL
  rw [List.mem_append, List.mem_cons]
  constructor
  · rintro (h | h | h)
    · exact .inr (List.mem_of_mem_take h)
    · exact .inl h
    · exact .inr (List.mem_of_mem_drop h)
  · rintro (h | h)
    · exact .inr (.inl h)
    · rw [← List.take_append_drop i L, List.mem_append] at h
      rcases h with h | h
      · exact .inl h
      · exact .inr (.inr h)
def SortedE (L : List Ev) : Prop := L.Pairwise fun x y => x.key.Lt y.key
theorem Try.infoEv : (Try.prog.info? 43).map (fun i => (i.zero, i.size, i.bytes)) = some (some (.agg #[.int .i64 0, .int .i64 0, .int .i64 0, .int .i64 0, .int .i64 0, .int .i64 0, .int .i64 0, .int .i64 0, .int .i64 0]), 9, 72) := by kernel_rfl
end Go.Proofs.Yteccmklacgpodaa
