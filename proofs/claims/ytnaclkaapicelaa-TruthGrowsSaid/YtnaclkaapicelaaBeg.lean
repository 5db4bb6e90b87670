/-
  The beginning of a game, plain; what the model builds of it.
-/
import Derived.Test.YtnaclkaapicelaaGameS
namespace Go.Proofs.Ytnaclkaapicelaa
open Go.RowKit
set_option maxRecDepth 100000
def freshBoth : List Value := [.int .i32 (-2097152), .int .i32 0, .int .i32 0, .int .i32 0, .int .i64 0, .int .i64 3, .int .i64 0, .int .i64 0, .int .i64 0, .int .i64 0, .int .i32 2097152, .int .i32 0, .int .i32 0, .int .i32 0, .int .i64 32768, .int .i64 3, .int .i64 0, .int .i64 0, .int .i64 0, .int .i64 0]
theorem int_one (S : Nat → Int) : ∀ v ∈ stCells S, v.oneCell' = true := fun v hv => by
  unfold stCells rowOf at hv
  obtain ⟨j, -, rfl⟩ := List.mem_map.1 hv
  rfl
def beginS (seed : Int) : Nat → Int := upd (putP (putP (upd (fun _ => 0) 3 600) 0 (freshP 0)) 1 (freshP 1)) 1 seed
theorem built_both : Try.prog.built 28 [(0, .agg #[.int .i32 (-2097152), .int .i32 0, .int .i32 0, .int .i32 0, .int .i64 0, .int .i64 3, .int .i64 0, .int .i64 0, .int .i64 0, .int .i64 0]), (1, .agg #[.int .i32 2097152, .int .i32 0, .int .i32 0, .int .i32 0, .int .i64 32768, .int .i64 3, .int .i64 0, .int .i64 0, .int .i64 0, .int .i64 0])] = some freshBoth.toArray := by kernel_rfl
theorem built_begin (seed : Int) : Try.prog.built 33 [(1, .int .u32 seed), (3, .int .i64 600), (4, .agg freshBoth.toArray)] = some (stCells (beginS seed)).toArray := by kernel_rfl
end Go.Proofs.Ytnaclkaapicelaa
