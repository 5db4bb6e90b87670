/-
  No cell of these rows narrows 'for every input' (looked for: loops, veiled, ifaces, maps, wideKeys, modest, calm, conditions, laid).
  DERIVED. THE GIVEN ROWS OF THIS SEAT. 3 by the template 'for every input the law returns true; each argument reads behind the call as it read before'; 0 by the template 'total and deterministic' (their statements: YtmggnadhjgadnaaTotals.lean).
  GIVEN WITH THE SEED: the statements are not yours to turn. If you find one false, say at which input.
  Laid BY PROGRAM, IN A SANDBOX (cutbox-rows.mjs): the forced cells as the released guide's own fill.sh prints them over the translation 2e90eb76f9b1f059… (all of the seat's roots in one cut). By AI agents, Wed Nov 11 2026. No macro, syntax, notation, axiom, sorry.
-/
import Derived.Test.YtmggnadhjgadnaaChecked
import GoSem.Claim
import GoSem.ClaimJoined
import GoSem.ClaimMapViews
import Derived.JoinedTies
import Derived.KernelRfl
namespace Go.Proofs.Ytmggnadhjgadnaa
/- THE CELL 'sum', in the pinned program and in every row, IS THE sha256 OF THE DUMP (.gsa) THAT YtmggnadhjgadnaaProg.lean LOADS. Nothing in Lean hashes anything: it is a label: what it is worth is what the hold of that sum in a sandbox is worth. -/
noncomputable def Try.pinned : Pinned := { name := "ytmggnadhjgadnaa", sum := "2e90eb76f9b1f059616d347bcae63f0fefd93f196d33b7b6b9012799766865e8", checked := Try.checked }
namespace Rows
def none {H : Type} : Left H := { results := [], args := [] }

/-- 'promptbooklaw31.WaveHolds': WHATEVER THE INPUT: true; the input reads as it did. -/
def waveHoldsSpec : ChangeSpec := { name := "waveHolds", fn := fun _ => fun
  | [d1, d2, d3, d4] => { results := [.lit (.bool true)], args := [d1, d2, d3, d4] }
  | _ => none }
def waveHoldsRow : OpenClaim := { program := "ytmggnadhjgadnaa", sum := "2e90eb76f9b1f059616d347bcae63f0fefd93f196d33b7b6b9012799766865e8", func := "promptbook/promptbooklaw31.WaveHolds", spec := "waveHolds", inPlace := ["internal/abi.NoEscape"], unfollowed := true, recurses := true, apart := false }
def WaveHoldsSaid : Prop := waveHoldsRow.holds Try.pinned (OpenSpec.ofChange waveHoldsSpec)

/-- ITS FALSE NEIGHBOUR: 'it returns false'. Refute it at one input. -/
def waveHoldsWrong : ChangeSpec := { name := "waveHolds", fn := fun _ => fun
  | [d1, d2, d3, d4] => { results := [.lit (.bool false)], args := [d1, d2, d3, d4] }
  | _ => none }
def WaveHoldsWrongFalsely : Prop := waveHoldsRow.holds Try.pinned (OpenSpec.ofChange waveHoldsWrong)

/-- 'promptbooklaw31.WaveWrites': WHATEVER THE INPUT: true; the input reads as it did. -/
def waveWritesSpec : ChangeSpec := { name := "waveWrites", fn := fun _ => fun
  | [d1, d2] => { results := [.lit (.bool true)], args := [d1, d2] }
  | _ => none }
def waveWritesRow : OpenClaim := { program := "ytmggnadhjgadnaa", sum := "2e90eb76f9b1f059616d347bcae63f0fefd93f196d33b7b6b9012799766865e8", func := "promptbook/promptbooklaw31.WaveWrites", spec := "waveWrites", inPlace := ["internal/abi.NoEscape"], unfollowed := true, recurses := true, apart := false }
def WaveWritesSaid : Prop := waveWritesRow.holds Try.pinned (OpenSpec.ofChange waveWritesSpec)

/-- ITS FALSE NEIGHBOUR: 'it returns false'. Refute it at one input. -/
def waveWritesWrong : ChangeSpec := { name := "waveWrites", fn := fun _ => fun
  | [d1, d2] => { results := [.lit (.bool false)], args := [d1, d2] }
  | _ => none }
def WaveWritesWrongFalsely : Prop := waveWritesRow.holds Try.pinned (OpenSpec.ofChange waveWritesWrong)

/-- 'promptbooklaw31.WaveReads': WHATEVER THE INPUT: true; the input reads as it did. -/
def waveReadsSpec : ChangeSpec := { name := "waveReads", fn := fun _ => fun
  | [d] => { results := [.lit (.bool true)], args := [d] }
  | _ => none }
def waveReadsRow : OpenClaim := { program := "ytmggnadhjgadnaa", sum := "2e90eb76f9b1f059616d347bcae63f0fefd93f196d33b7b6b9012799766865e8", func := "promptbook/promptbooklaw31.WaveReads", spec := "waveReads", inPlace := ["internal/abi.NoEscape"], unfollowed := true, recurses := true, apart := false }
def WaveReadsSaid : Prop := waveReadsRow.holds Try.pinned (OpenSpec.ofChange waveReadsSpec)

/-- ITS FALSE NEIGHBOUR: 'it returns false'. Refute it at one input. -/
def waveReadsWrong : ChangeSpec := { name := "waveReads", fn := fun _ => fun
  | [d] => { results := [.lit (.bool false)], args := [d] }
  | _ => none }
def WaveReadsWrongFalsely : Prop := waveReadsRow.holds Try.pinned (OpenSpec.ofChange waveReadsWrong)

/- THE SECOND FORM. 'bulk': how many values and letters a reading holds, each counted each time it is reached (what is shared counts as often as it is met; a slice's spare places count too). A statement '..UptoSaid' is the law's where the arguments, and the package variables that the reading takes, are together of bulk at most 1048576: NARROWER than '..Said'. Prove '..Said' where nothing that the law and all that it calls make is longer than what came in: it says more and counts as full. Else prove '..UptoSaid'. A law counts once. -/
mutual
def uptoBulk {H : Type} : DataW H → Nat
  | .lit (.string bytes) => bytes.length + 1
  | .lit _ => 1
  | .nil => 1
  | .ptr d => uptoBulk d + 1
  | .slice elems spare => uptoBulkAll elems + uptoBulkAll spare + 1
  | .agg parts => uptoBulkAll parts + 1
  | .iface _ d => uptoBulk d + 1
  | .map entries => uptoBulkEntries entries + 1
  | .held _ => 1
def uptoBulkAll {H : Type} : List (DataW H) → Nat
  | [] => 0
  | d :: r => uptoBulk d + uptoBulkAll r
def uptoBulkEntries {H : Type} : List (Lit × DataW H) → Nat
  | [] => 0
  | x :: r => uptoBulkEntry x + uptoBulkEntries r
def uptoBulkEntry {H : Type} : Lit × DataW H → Nat
  | (.string bytes, d) => bytes.length + uptoBulk d + 1
  | (_, d) => uptoBulk d + 1
 end
def uptoSmall : (H : Type) → List (DataW H) → Bool := fun _ ds => decide (uptoBulkAll ds ≤ 1048576)
def OpenSpec.upto (s : _root_.Go.ChangeSpec) : _root_.Go.OpenSpec := { _root_.Go.OpenSpec.ofChange s with cond := some uptoSmall }

/-- 'promptbooklaw31.WaveHolds', WHERE WHAT IT READS IS OF BULK AT MOST 1048576: true; the input reads as it did. -/
def waveHoldsUptoRow : OpenClaim := { program := "ytmggnadhjgadnaa", sum := "2e90eb76f9b1f059616d347bcae63f0fefd93f196d33b7b6b9012799766865e8", func := "promptbook/promptbooklaw31.WaveHolds", spec := "waveHolds", inPlace := ["internal/abi.NoEscape"], unfollowed := true, recurses := true, apart := false, narrowed := true }
def WaveHoldsUptoSaid : Prop := waveHoldsUptoRow.holds Try.pinned (OpenSpec.upto waveHoldsSpec)

/-- 'promptbooklaw31.WaveWrites', WHERE WHAT IT READS IS OF BULK AT MOST 1048576: true; the input reads as it did. -/
def waveWritesUptoRow : OpenClaim := { program := "ytmggnadhjgadnaa", sum := "2e90eb76f9b1f059616d347bcae63f0fefd93f196d33b7b6b9012799766865e8", func := "promptbook/promptbooklaw31.WaveWrites", spec := "waveWrites", inPlace := ["internal/abi.NoEscape"], unfollowed := true, recurses := true, apart := false, narrowed := true }
def WaveWritesUptoSaid : Prop := waveWritesUptoRow.holds Try.pinned (OpenSpec.upto waveWritesSpec)

/-- 'promptbooklaw31.WaveReads', WHERE WHAT IT READS IS OF BULK AT MOST 1048576: true; the input reads as it did. -/
def waveReadsUptoRow : OpenClaim := { program := "ytmggnadhjgadnaa", sum := "2e90eb76f9b1f059616d347bcae63f0fefd93f196d33b7b6b9012799766865e8", func := "promptbook/promptbooklaw31.WaveReads", spec := "waveReads", inPlace := ["internal/abi.NoEscape"], unfollowed := true, recurses := true, apart := false, narrowed := true }
def WaveReadsUptoSaid : Prop := waveReadsUptoRow.holds Try.pinned (OpenSpec.upto waveReadsSpec)

end Rows
end Go.Proofs.Ytmggnadhjgadnaa
