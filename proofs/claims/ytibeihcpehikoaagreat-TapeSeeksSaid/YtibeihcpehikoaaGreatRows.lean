/-
  No cell of these rows narrows 'for every input' (looked for: loops, veiled, ifaces, maps, wideKeys, modest, calm, conditions, laid).
  DERIVED. THE GIVEN ROWS OF THIS SEAT. 12 by the template 'for every input the law returns true; each argument reads behind the call as it read before'; 0 by the template 'total and deterministic' (their statements: YtibeihcpehikoaaGreatTotals.lean).
  GIVEN WITH THE SEED: the statements are not yours to turn. If you find one false, say at which input.
  Laid BY PROGRAM, IN A SANDBOX (cutbox-rows.mjs): the forced cells as the released guide's own fill.sh prints them over the translation b7d221a04efab1f7… (all of the seat's roots in one cut). By AI agents, Wed Nov 11 2026. No macro, syntax, notation, axiom, sorry.
-/
import Derived.Test.YtibeihcpehikoaaGreatChecked
import GoSem.Claim
import GoSem.ClaimJoined
import GoSem.ClaimMapViews
import Derived.JoinedTies
import Derived.KernelRfl
namespace Go.Proofs.YtibeihcpehikoaaGreat
/- THE CELL 'sum', in the pinned program and in every row, IS THE sha256 OF THE DUMP (.gsa) THAT YtibeihcpehikoaaGreatProg.lean LOADS. Nothing in Lean hashes anything: it is a label: what it is worth is what the hold of that sum in a sandbox is worth. -/
noncomputable def Tryz.pinned : Pinned := { name := "ytibeihcpehikoaagreat", sum := "b7d221a04efab1f7c30159ff84bb927f015f2ea5e44d2d2b571333277019cfc6", checked := Tryz.checked }
namespace Rows
def none {H : Type} : Left H := { results := [], args := [] }

/-- 'promptbooklaw26.TruthPlays': WHATEVER THE INPUT: true; the input reads as it did. -/
def truthPlaysSpec : ChangeSpec := { name := "truthPlays", fn := fun _ => fun
  | [d1, d2, d3, d4, d5] => { results := [.lit (.bool true)], args := [d1, d2, d3, d4, d5] }
  | _ => none }
def truthPlaysRow : OpenClaim := { program := "ytibeihcpehikoaagreat", sum := "b7d221a04efab1f7c30159ff84bb927f015f2ea5e44d2d2b571333277019cfc6", func := "promptbook/promptbooklaw26.TruthPlays", spec := "truthPlays", inPlace := ["slices.overlaps[promptbook/api.Event]"], unfollowed := true, recurses := true, plainKeys := false, apart := false }
def TruthPlaysSaid : Prop := truthPlaysRow.holds Tryz.pinned (OpenSpec.ofChange truthPlaysSpec)

/-- ITS FALSE NEIGHBOUR: 'it returns false'. Refute it at one input. -/
def truthPlaysWrong : ChangeSpec := { name := "truthPlays", fn := fun _ => fun
  | [d1, d2, d3, d4, d5] => { results := [.lit (.bool false)], args := [d1, d2, d3, d4, d5] }
  | _ => none }
def TruthPlaysWrongFalsely : Prop := truthPlaysRow.holds Tryz.pinned (OpenSpec.ofChange truthPlaysWrong)

/-- 'promptbooklaw26.TruthHolds': WHATEVER THE INPUT: true; the input reads as it did. -/
def truthHoldsSpec : ChangeSpec := { name := "truthHolds", fn := fun _ => fun
  | [d1, d2] => { results := [.lit (.bool true)], args := [d1, d2] }
  | _ => none }
def truthHoldsRow : OpenClaim := { program := "ytibeihcpehikoaagreat", sum := "b7d221a04efab1f7c30159ff84bb927f015f2ea5e44d2d2b571333277019cfc6", func := "promptbook/promptbooklaw26.TruthHolds", spec := "truthHolds", inPlace := ["slices.overlaps[promptbook/api.Event]"], unfollowed := true, recurses := true, plainKeys := false, apart := false }
def TruthHoldsSaid : Prop := truthHoldsRow.holds Tryz.pinned (OpenSpec.ofChange truthHoldsSpec)

/-- ITS FALSE NEIGHBOUR: 'it returns false'. Refute it at one input. -/
def truthHoldsWrong : ChangeSpec := { name := "truthHolds", fn := fun _ => fun
  | [d1, d2] => { results := [.lit (.bool false)], args := [d1, d2] }
  | _ => none }
def TruthHoldsWrongFalsely : Prop := truthHoldsRow.holds Tryz.pinned (OpenSpec.ofChange truthHoldsWrong)

/-- 'promptbooklaw28.TapeTurned': WHATEVER THE INPUT: true; the input reads as it did. -/
def tapeTurnedSpec : ChangeSpec := { name := "tapeTurned", fn := fun _ => fun
  | [d1, d2, d3, d4, d5, d6] => { results := [.lit (.bool true)], args := [d1, d2, d3, d4, d5, d6] }
  | _ => none }
def tapeTurnedRow : OpenClaim := { program := "ytibeihcpehikoaagreat", sum := "b7d221a04efab1f7c30159ff84bb927f015f2ea5e44d2d2b571333277019cfc6", func := "promptbook/promptbooklaw28.TapeTurned", spec := "tapeTurned", inPlace := ["slices.overlaps[promptbook/api.Event]"], unfollowed := true, recurses := true, plainKeys := false, apart := false }
def TapeTurnedSaid : Prop := tapeTurnedRow.holds Tryz.pinned (OpenSpec.ofChange tapeTurnedSpec)

/-- ITS FALSE NEIGHBOUR: 'it returns false'. Refute it at one input. -/
def tapeTurnedWrong : ChangeSpec := { name := "tapeTurned", fn := fun _ => fun
  | [d1, d2, d3, d4, d5, d6] => { results := [.lit (.bool false)], args := [d1, d2, d3, d4, d5, d6] }
  | _ => none }
def TapeTurnedWrongFalsely : Prop := tapeTurnedRow.holds Tryz.pinned (OpenSpec.ofChange tapeTurnedWrong)

/-- 'promptbooklaw28.TapeTells': WHATEVER THE INPUT: true; the input reads as it did. -/
def tapeTellsSpec : ChangeSpec := { name := "tapeTells", fn := fun _ => fun
  | [d] => { results := [.lit (.bool true)], args := [d] }
  | _ => none }
def tapeTellsRow : OpenClaim := { program := "ytibeihcpehikoaagreat", sum := "b7d221a04efab1f7c30159ff84bb927f015f2ea5e44d2d2b571333277019cfc6", func := "promptbook/promptbooklaw28.TapeTells", spec := "tapeTells", inPlace := ["slices.overlaps[promptbook/api.Event]"], unfollowed := true, recurses := true, plainKeys := false, apart := false }
def TapeTellsSaid : Prop := tapeTellsRow.holds Tryz.pinned (OpenSpec.ofChange tapeTellsSpec)

/-- ITS FALSE NEIGHBOUR: 'it returns false'. Refute it at one input. -/
def tapeTellsWrong : ChangeSpec := { name := "tapeTells", fn := fun _ => fun
  | [d] => { results := [.lit (.bool false)], args := [d] }
  | _ => none }
def TapeTellsWrongFalsely : Prop := tapeTellsRow.holds Tryz.pinned (OpenSpec.ofChange tapeTellsWrong)

/-- 'promptbooklaw28.TapeSeeks': WHATEVER THE INPUT: true; the input reads as it did. -/
def tapeSeeksSpec : ChangeSpec := { name := "tapeSeeks", fn := fun _ => fun
  | [d1, d2, d3, d4, d5, d6] => { results := [.lit (.bool true)], args := [d1, d2, d3, d4, d5, d6] }
  | _ => none }
def tapeSeeksRow : OpenClaim := { program := "ytibeihcpehikoaagreat", sum := "b7d221a04efab1f7c30159ff84bb927f015f2ea5e44d2d2b571333277019cfc6", func := "promptbook/promptbooklaw28.TapeSeeks", spec := "tapeSeeks", inPlace := ["slices.overlaps[promptbook/api.Event]"], unfollowed := true, recurses := true, plainKeys := false, apart := false }
def TapeSeeksSaid : Prop := tapeSeeksRow.holds Tryz.pinned (OpenSpec.ofChange tapeSeeksSpec)

/-- ITS FALSE NEIGHBOUR: 'it returns false'. Refute it at one input. -/
def tapeSeeksWrong : ChangeSpec := { name := "tapeSeeks", fn := fun _ => fun
  | [d1, d2, d3, d4, d5, d6] => { results := [.lit (.bool false)], args := [d1, d2, d3, d4, d5, d6] }
  | _ => none }
def TapeSeeksWrongFalsely : Prop := tapeSeeksRow.holds Tryz.pinned (OpenSpec.ofChange tapeSeeksWrong)

/-- 'promptbooklaw28.TapeNil': WHATEVER THE INPUT: true; the input reads as it did. -/
def tapeNilSpec : ChangeSpec := { name := "tapeNil", fn := fun _ => fun
  | [d1, d2] => { results := [.lit (.bool true)], args := [d1, d2] }
  | _ => none }
def tapeNilRow : OpenClaim := { program := "ytibeihcpehikoaagreat", sum := "b7d221a04efab1f7c30159ff84bb927f015f2ea5e44d2d2b571333277019cfc6", func := "promptbook/promptbooklaw28.TapeNil", spec := "tapeNil", inPlace := ["slices.overlaps[promptbook/api.Event]"], unfollowed := true, recurses := true, plainKeys := false, apart := false }
def TapeNilSaid : Prop := tapeNilRow.holds Tryz.pinned (OpenSpec.ofChange tapeNilSpec)

/-- ITS FALSE NEIGHBOUR: 'it returns false'. Refute it at one input. -/
def tapeNilWrong : ChangeSpec := { name := "tapeNil", fn := fun _ => fun
  | [d1, d2] => { results := [.lit (.bool false)], args := [d1, d2] }
  | _ => none }
def TapeNilWrongFalsely : Prop := tapeNilRow.holds Tryz.pinned (OpenSpec.ofChange tapeNilWrong)

/-- 'promptbooklaw28.TapeKeeps': WHATEVER THE INPUT: true; the input reads as it did. -/
def tapeKeepsSpec : ChangeSpec := { name := "tapeKeeps", fn := fun _ => fun
  | [d1, d2, d3] => { results := [.lit (.bool true)], args := [d1, d2, d3] }
  | _ => none }
def tapeKeepsRow : OpenClaim := { program := "ytibeihcpehikoaagreat", sum := "b7d221a04efab1f7c30159ff84bb927f015f2ea5e44d2d2b571333277019cfc6", func := "promptbook/promptbooklaw28.TapeKeeps", spec := "tapeKeeps", inPlace := ["slices.overlaps[promptbook/api.Event]"], unfollowed := true, recurses := true, plainKeys := false, apart := false }
def TapeKeepsSaid : Prop := tapeKeepsRow.holds Tryz.pinned (OpenSpec.ofChange tapeKeepsSpec)

/-- ITS FALSE NEIGHBOUR: 'it returns false'. Refute it at one input. -/
def tapeKeepsWrong : ChangeSpec := { name := "tapeKeeps", fn := fun _ => fun
  | [d1, d2, d3] => { results := [.lit (.bool false)], args := [d1, d2, d3] }
  | _ => none }
def TapeKeepsWrongFalsely : Prop := tapeKeepsRow.holds Tryz.pinned (OpenSpec.ofChange tapeKeepsWrong)

/-- 'promptbooklaw28.TapeReads': WHATEVER THE INPUT: true; the input reads as it did. -/
def tapeReadsSpec : ChangeSpec := { name := "tapeReads", fn := fun _ => fun
  | [d] => { results := [.lit (.bool true)], args := [d] }
  | _ => none }
def tapeReadsRow : OpenClaim := { program := "ytibeihcpehikoaagreat", sum := "b7d221a04efab1f7c30159ff84bb927f015f2ea5e44d2d2b571333277019cfc6", func := "promptbook/promptbooklaw28.TapeReads", spec := "tapeReads", inPlace := ["slices.overlaps[promptbook/api.Event]"], unfollowed := true, recurses := true, plainKeys := false, apart := false }
def TapeReadsSaid : Prop := tapeReadsRow.holds Tryz.pinned (OpenSpec.ofChange tapeReadsSpec)

/-- ITS FALSE NEIGHBOUR: 'it returns false'. Refute it at one input. -/
def tapeReadsWrong : ChangeSpec := { name := "tapeReads", fn := fun _ => fun
  | [d] => { results := [.lit (.bool false)], args := [d] }
  | _ => none }
def TapeReadsWrongFalsely : Prop := tapeReadsRow.holds Tryz.pinned (OpenSpec.ofChange tapeReadsWrong)

/-- 'promptbooklaw15.CoreTells': WHATEVER THE INPUT: true; the input reads as it did. -/
def coreTellsSpec : ChangeSpec := { name := "coreTells", fn := fun _ => fun
  | [d1, d2] => { results := [.lit (.bool true)], args := [d1, d2] }
  | _ => none }
def coreTellsRow : OpenClaim := { program := "ytibeihcpehikoaagreat", sum := "b7d221a04efab1f7c30159ff84bb927f015f2ea5e44d2d2b571333277019cfc6", func := "promptbook/promptbooklaw15.CoreTells", spec := "coreTells", inPlace := ["slices.overlaps[promptbook/api.Event]"], unfollowed := true, recurses := true, plainKeys := false, apart := false }
def CoreTellsSaid : Prop := coreTellsRow.holds Tryz.pinned (OpenSpec.ofChange coreTellsSpec)

/-- ITS FALSE NEIGHBOUR: 'it returns false'. Refute it at one input. -/
def coreTellsWrong : ChangeSpec := { name := "coreTells", fn := fun _ => fun
  | [d1, d2] => { results := [.lit (.bool false)], args := [d1, d2] }
  | _ => none }
def CoreTellsWrongFalsely : Prop := coreTellsRow.holds Tryz.pinned (OpenSpec.ofChange coreTellsWrong)

/-- 'promptbooklaw15.CoreBounds': WHATEVER THE INPUT: true; the input reads as it did. -/
def coreBoundsSpec : ChangeSpec := { name := "coreBounds", fn := fun _ => fun
  | [d1, d2] => { results := [.lit (.bool true)], args := [d1, d2] }
  | _ => none }
def coreBoundsRow : OpenClaim := { program := "ytibeihcpehikoaagreat", sum := "b7d221a04efab1f7c30159ff84bb927f015f2ea5e44d2d2b571333277019cfc6", func := "promptbook/promptbooklaw15.CoreBounds", spec := "coreBounds", inPlace := ["slices.overlaps[promptbook/api.Event]"], unfollowed := true, recurses := true, plainKeys := false, apart := false }
def CoreBoundsSaid : Prop := coreBoundsRow.holds Tryz.pinned (OpenSpec.ofChange coreBoundsSpec)

/-- ITS FALSE NEIGHBOUR: 'it returns false'. Refute it at one input. -/
def coreBoundsWrong : ChangeSpec := { name := "coreBounds", fn := fun _ => fun
  | [d1, d2] => { results := [.lit (.bool false)], args := [d1, d2] }
  | _ => none }
def CoreBoundsWrongFalsely : Prop := coreBoundsRow.holds Tryz.pinned (OpenSpec.ofChange coreBoundsWrong)

/-- 'promptbooklaw15.CorePlays': WHATEVER THE INPUT: true; the input reads as it did. -/
def corePlaysSpec : ChangeSpec := { name := "corePlays", fn := fun _ => fun
  | [d1, d2, d3] => { results := [.lit (.bool true)], args := [d1, d2, d3] }
  | _ => none }
def corePlaysRow : OpenClaim := { program := "ytibeihcpehikoaagreat", sum := "b7d221a04efab1f7c30159ff84bb927f015f2ea5e44d2d2b571333277019cfc6", func := "promptbook/promptbooklaw15.CorePlays", spec := "corePlays", inPlace := ["slices.overlaps[promptbook/api.Event]"], unfollowed := true, recurses := true, plainKeys := false, apart := false }
def CorePlaysSaid : Prop := corePlaysRow.holds Tryz.pinned (OpenSpec.ofChange corePlaysSpec)

/-- ITS FALSE NEIGHBOUR: 'it returns false'. Refute it at one input. -/
def corePlaysWrong : ChangeSpec := { name := "corePlays", fn := fun _ => fun
  | [d1, d2, d3] => { results := [.lit (.bool false)], args := [d1, d2, d3] }
  | _ => none }
def CorePlaysWrongFalsely : Prop := corePlaysRow.holds Tryz.pinned (OpenSpec.ofChange corePlaysWrong)

/-- 'promptbooklaw15.CoreNil': WHATEVER THE INPUT: true; the input reads as it did. -/
def coreNilSpec : ChangeSpec := { name := "coreNil", fn := fun _ => fun
  | [d1, d2] => { results := [.lit (.bool true)], args := [d1, d2] }
  | _ => none }
def coreNilRow : OpenClaim := { program := "ytibeihcpehikoaagreat", sum := "b7d221a04efab1f7c30159ff84bb927f015f2ea5e44d2d2b571333277019cfc6", func := "promptbook/promptbooklaw15.CoreNil", spec := "coreNil", inPlace := ["slices.overlaps[promptbook/api.Event]"], unfollowed := true, recurses := true, plainKeys := false, apart := false }
def CoreNilSaid : Prop := coreNilRow.holds Tryz.pinned (OpenSpec.ofChange coreNilSpec)

/-- ITS FALSE NEIGHBOUR: 'it returns false'. Refute it at one input. -/
def coreNilWrong : ChangeSpec := { name := "coreNil", fn := fun _ => fun
  | [d1, d2] => { results := [.lit (.bool false)], args := [d1, d2] }
  | _ => none }
def CoreNilWrongFalsely : Prop := coreNilRow.holds Tryz.pinned (OpenSpec.ofChange coreNilWrong)

/- THE SECOND FORM. 'bulk': how many values and letters a reading holds, each counted each time it is reached (what is shared counts as often as it is met; a slice's spare places count too). A statement '..UptoSaid' is the law's where the arguments, and the package variables that the reading takes, are together of bulk at most 1048576: NARROWER than '..Said'. Prove '..Said' where nothing that the law and all that it calls make is longer than what came in: it says more and counts as full. Else prove '..UptoSaid'. A law counts once. -/
mutual
def uptoBulk {H : Type} : DataW H → Nat
  | .lit (.string bytes) => bytes.length + 1
  | .lit _ => 1
  | .nil => 1
  | .ptr d => uptoBulk d + 1
  | .slice elems spare => uptoBulkAll elems + uptoBulkAll spare + 1
  | .agg parts => uptoBulkAll parts + 1
  | .iface _ d => uptoBulk d + 1
  | .map entries => uptoBulkEntries entries + 1
  | .held _ => 1
def uptoBulkAll {H : Type} : List (DataW H) → Nat
  | [] => 0
  | d :: r => uptoBulk d + uptoBulkAll r
def uptoBulkEntries {H : Type} : List (Lit × DataW H) → Nat
  | [] => 0
  | x :: r => uptoBulkEntry x + uptoBulkEntries r
def uptoBulkEntry {H : Type} : Lit × DataW H → Nat
  | (.string bytes, d) => bytes.length + uptoBulk d + 1
  | (_, d) => uptoBulk d + 1
 end
def uptoSmall : (H : Type) → List (DataW H) → Bool := fun _ ds => decide (uptoBulkAll ds ≤ 1048576)
def OpenSpec.upto (s : _root_.Go.ChangeSpec) : _root_.Go.OpenSpec := { _root_.Go.OpenSpec.ofChange s with cond := some uptoSmall }

/-- 'promptbooklaw26.TruthPlays', WHERE WHAT IT READS IS OF BULK AT MOST 1048576: true; the input reads as it did. -/
def truthPlaysUptoRow : OpenClaim := { program := "ytibeihcpehikoaagreat", sum := "b7d221a04efab1f7c30159ff84bb927f015f2ea5e44d2d2b571333277019cfc6", func := "promptbook/promptbooklaw26.TruthPlays", spec := "truthPlays", inPlace := ["slices.overlaps[promptbook/api.Event]"], unfollowed := true, recurses := true, plainKeys := false, apart := false, narrowed := true }
def TruthPlaysUptoSaid : Prop := truthPlaysUptoRow.holds Tryz.pinned (OpenSpec.upto truthPlaysSpec)

/-- 'promptbooklaw26.TruthHolds', WHERE WHAT IT READS IS OF BULK AT MOST 1048576: true; the input reads as it did. -/
def truthHoldsUptoRow : OpenClaim := { program := "ytibeihcpehikoaagreat", sum := "b7d221a04efab1f7c30159ff84bb927f015f2ea5e44d2d2b571333277019cfc6", func := "promptbook/promptbooklaw26.TruthHolds", spec := "truthHolds", inPlace := ["slices.overlaps[promptbook/api.Event]"], unfollowed := true, recurses := true, plainKeys := false, apart := false, narrowed := true }
def TruthHoldsUptoSaid : Prop := truthHoldsUptoRow.holds Tryz.pinned (OpenSpec.upto truthHoldsSpec)

/-- 'promptbooklaw28.TapeTurned', WHERE WHAT IT READS IS OF BULK AT MOST 1048576: true; the input reads as it did. -/
def tapeTurnedUptoRow : OpenClaim := { program := "ytibeihcpehikoaagreat", sum := "b7d221a04efab1f7c30159ff84bb927f015f2ea5e44d2d2b571333277019cfc6", func := "promptbook/promptbooklaw28.TapeTurned", spec := "tapeTurned", inPlace := ["slices.overlaps[promptbook/api.Event]"], unfollowed := true, recurses := true, plainKeys := false, apart := false, narrowed := true }
def TapeTurnedUptoSaid : Prop := tapeTurnedUptoRow.holds Tryz.pinned (OpenSpec.upto tapeTurnedSpec)

/-- 'promptbooklaw28.TapeTells', WHERE WHAT IT READS IS OF BULK AT MOST 1048576: true; the input reads as it did. -/
def tapeTellsUptoRow : OpenClaim := { program := "ytibeihcpehikoaagreat", sum := "b7d221a04efab1f7c30159ff84bb927f015f2ea5e44d2d2b571333277019cfc6", func := "promptbook/promptbooklaw28.TapeTells", spec := "tapeTells", inPlace := ["slices.overlaps[promptbook/api.Event]"], unfollowed := true, recurses := true, plainKeys := false, apart := false, narrowed := true }
def TapeTellsUptoSaid : Prop := tapeTellsUptoRow.holds Tryz.pinned (OpenSpec.upto tapeTellsSpec)

/-- 'promptbooklaw28.TapeSeeks', WHERE WHAT IT READS IS OF BULK AT MOST 1048576: true; the input reads as it did. -/
def tapeSeeksUptoRow : OpenClaim := { program := "ytibeihcpehikoaagreat", sum := "b7d221a04efab1f7c30159ff84bb927f015f2ea5e44d2d2b571333277019cfc6", func := "promptbook/promptbooklaw28.TapeSeeks", spec := "tapeSeeks", inPlace := ["slices.overlaps[promptbook/api.Event]"], unfollowed := true, recurses := true, plainKeys := false, apart := false, narrowed := true }
def TapeSeeksUptoSaid : Prop := tapeSeeksUptoRow.holds Tryz.pinned (OpenSpec.upto tapeSeeksSpec)

/-- 'promptbooklaw28.TapeNil', WHERE WHAT IT READS IS OF BULK AT MOST 1048576: true; the input reads as it did. -/
def tapeNilUptoRow : OpenClaim := { program := "ytibeihcpehikoaagreat", sum := "b7d221a04efab1f7c30159ff84bb927f015f2ea5e44d2d2b571333277019cfc6", func := "promptbook/promptbooklaw28.TapeNil", spec := "tapeNil", inPlace := ["slices.overlaps[promptbook/api.Event]"], unfollowed := true, recurses := true, plainKeys := false, apart := false, narrowed := true }
def TapeNilUptoSaid : Prop := tapeNilUptoRow.holds Tryz.pinned (OpenSpec.upto tapeNilSpec)

/-- 'promptbooklaw28.TapeKeeps', WHERE WHAT IT READS IS OF BULK AT MOST 1048576: true; the input reads as it did. -/
def tapeKeepsUptoRow : OpenClaim := { program := "ytibeihcpehikoaagreat", sum := "b7d221a04efab1f7c30159ff84bb927f015f2ea5e44d2d2b571333277019cfc6", func := "promptbook/promptbooklaw28.TapeKeeps", spec := "tapeKeeps", inPlace := ["slices.overlaps[promptbook/api.Event]"], unfollowed := true, recurses := true, plainKeys := false, apart := false, narrowed := true }
def TapeKeepsUptoSaid : Prop := tapeKeepsUptoRow.holds Tryz.pinned (OpenSpec.upto tapeKeepsSpec)

/-- 'promptbooklaw28.TapeReads', WHERE WHAT IT READS IS OF BULK AT MOST 1048576: true; the input reads as it did. -/
def tapeReadsUptoRow : OpenClaim := { program := "ytibeihcpehikoaagreat", sum := "b7d221a04efab1f7c30159ff84bb927f015f2ea5e44d2d2b571333277019cfc6", func := "promptbook/promptbooklaw28.TapeReads", spec := "tapeReads", inPlace := ["slices.overlaps[promptbook/api.Event]"], unfollowed := true, recurses := true, plainKeys := false, apart := false, narrowed := true }
def TapeReadsUptoSaid : Prop := tapeReadsUptoRow.holds Tryz.pinned (OpenSpec.upto tapeReadsSpec)

/-- 'promptbooklaw15.CoreTells', WHERE WHAT IT READS IS OF BULK AT MOST 1048576: true; the input reads as it did. -/
def coreTellsUptoRow : OpenClaim := { program := "ytibeihcpehikoaagreat", sum := "b7d221a04efab1f7c30159ff84bb927f015f2ea5e44d2d2b571333277019cfc6", func := "promptbook/promptbooklaw15.CoreTells", spec := "coreTells", inPlace := ["slices.overlaps[promptbook/api.Event]"], unfollowed := true, recurses := true, plainKeys := false, apart := false, narrowed := true }
def CoreTellsUptoSaid : Prop := coreTellsUptoRow.holds Tryz.pinned (OpenSpec.upto coreTellsSpec)

/-- 'promptbooklaw15.CoreBounds', WHERE WHAT IT READS IS OF BULK AT MOST 1048576: true; the input reads as it did. -/
def coreBoundsUptoRow : OpenClaim := { program := "ytibeihcpehikoaagreat", sum := "b7d221a04efab1f7c30159ff84bb927f015f2ea5e44d2d2b571333277019cfc6", func := "promptbook/promptbooklaw15.CoreBounds", spec := "coreBounds", inPlace := ["slices.overlaps[promptbook/api.Event]"], unfollowed := true, recurses := true, plainKeys := false, apart := false, narrowed := true }
def CoreBoundsUptoSaid : Prop := coreBoundsUptoRow.holds Tryz.pinned (OpenSpec.upto coreBoundsSpec)

/-- 'promptbooklaw15.CorePlays', WHERE WHAT IT READS IS OF BULK AT MOST 1048576: true; the input reads as it did. -/
def corePlaysUptoRow : OpenClaim := { program := "ytibeihcpehikoaagreat", sum := "b7d221a04efab1f7c30159ff84bb927f015f2ea5e44d2d2b571333277019cfc6", func := "promptbook/promptbooklaw15.CorePlays", spec := "corePlays", inPlace := ["slices.overlaps[promptbook/api.Event]"], unfollowed := true, recurses := true, plainKeys := false, apart := false, narrowed := true }
def CorePlaysUptoSaid : Prop := corePlaysUptoRow.holds Tryz.pinned (OpenSpec.upto corePlaysSpec)

/-- 'promptbooklaw15.CoreNil', WHERE WHAT IT READS IS OF BULK AT MOST 1048576: true; the input reads as it did. -/
def coreNilUptoRow : OpenClaim := { program := "ytibeihcpehikoaagreat", sum := "b7d221a04efab1f7c30159ff84bb927f015f2ea5e44d2d2b571333277019cfc6", func := "promptbook/promptbooklaw15.CoreNil", spec := "coreNil", inPlace := ["slices.overlaps[promptbook/api.Event]"], unfollowed := true, recurses := true, plainKeys := false, apart := false, narrowed := true }
def CoreNilUptoSaid : Prop := coreNilUptoRow.holds Tryz.pinned (OpenSpec.upto coreNilSpec)

end Rows
end Go.Proofs.YtibeihcpehikoaaGreat
