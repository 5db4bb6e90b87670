/-
  No cell of these rows narrows 'for every input' (looked for: loops, veiled, ifaces, maps, wideKeys, modest, calm, conditions, laid).
  DERIVED. THE GIVEN ROWS OF THIS SEAT. 4 by the template 'for every input the law returns true; each argument reads behind the call as it read before'; 0 by the template 'total and deterministic' (their statements: YtnaclkaapicelaaGreatTotals.lean).
  GIVEN WITH THE SEED: the statements are not yours to turn. If you find one false, say at which input.
  Laid BY PROGRAM, IN A SANDBOX (cutbox-rows.mjs): the forced cells as the released guide's own fill.sh prints them over the translation 3e073b728c9dd992… (all of the seat's roots in one cut). By AI agents, Wed Nov 11 2026. No macro, syntax, notation, axiom, sorry.
-/
import Derived.Test.YtnaclkaapicelaaGreatChecked
import GoSem.Claim
import GoSem.ClaimJoined
import GoSem.ClaimMapViews
import Derived.JoinedTies
import Derived.KernelRfl
namespace Go.Proofs.YtnaclkaapicelaaGreat
/- THE CELL 'sum', in the pinned program and in every row, IS THE sha256 OF THE DUMP (.gsa) THAT YtnaclkaapicelaaGreatProg.lean LOADS. Nothing in Lean hashes anything: it is a label: what it is worth is what the hold of that sum in a sandbox is worth. -/
noncomputable def Tryz.pinned : Pinned := { name := "ytnaclkaapicelaagreat", sum := "3e073b728c9dd99279a55f219a1ed1506db79688554e01afbe95311635d0d784", checked := Tryz.checked }
namespace Rows
def none {H : Type} : Left H := { results := [], args := [] }

/-- 'promptbooklaw12.GameSteps': WHATEVER THE INPUT: true; the input reads as it did. -/
def gameStepsSpec : ChangeSpec := { name := "gameSteps", fn := fun _ => fun
  | [d1, d2, d3] => { results := [.lit (.bool true)], args := [d1, d2, d3] }
  | _ => none }
def gameStepsRow : OpenClaim := { program := "ytnaclkaapicelaagreat", sum := "3e073b728c9dd99279a55f219a1ed1506db79688554e01afbe95311635d0d784", func := "promptbook/promptbooklaw12.GameSteps", spec := "gameSteps", inPlace := ["slices.overlaps[promptbook/api.Event]"], unfollowed := true, recurses := true, apart := false }
def GameStepsSaid : Prop := gameStepsRow.holds Tryz.pinned (OpenSpec.ofChange gameStepsSpec)

/-- ITS FALSE NEIGHBOUR: 'it returns false'. Refute it at one input. -/
def gameStepsWrong : ChangeSpec := { name := "gameSteps", fn := fun _ => fun
  | [d1, d2, d3] => { results := [.lit (.bool false)], args := [d1, d2, d3] }
  | _ => none }
def GameStepsWrongFalsely : Prop := gameStepsRow.holds Tryz.pinned (OpenSpec.ofChange gameStepsWrong)

/-- 'promptbooklaw12.GameRuns': WHATEVER THE INPUT: true; the input reads as it did. -/
def gameRunsSpec : ChangeSpec := { name := "gameRuns", fn := fun _ => fun
  | [d1, d2] => { results := [.lit (.bool true)], args := [d1, d2] }
  | _ => none }
def gameRunsRow : OpenClaim := { program := "ytnaclkaapicelaagreat", sum := "3e073b728c9dd99279a55f219a1ed1506db79688554e01afbe95311635d0d784", func := "promptbook/promptbooklaw12.GameRuns", spec := "gameRuns", inPlace := ["slices.overlaps[promptbook/api.Event]"], unfollowed := true, recurses := true, apart := false }
def GameRunsSaid : Prop := gameRunsRow.holds Tryz.pinned (OpenSpec.ofChange gameRunsSpec)

/-- ITS FALSE NEIGHBOUR: 'it returns false'. Refute it at one input. -/
def gameRunsWrong : ChangeSpec := { name := "gameRuns", fn := fun _ => fun
  | [d1, d2] => { results := [.lit (.bool false)], args := [d1, d2] }
  | _ => none }
def GameRunsWrongFalsely : Prop := gameRunsRow.holds Tryz.pinned (OpenSpec.ofChange gameRunsWrong)

/-- 'promptbooklaw30.BotPlays': WHATEVER THE INPUT: true; the input reads as it did. -/
def botPlaysSpec : ChangeSpec := { name := "botPlays", fn := fun _ => fun
  | [d1, d2, d3, d4] => { results := [.lit (.bool true)], args := [d1, d2, d3, d4] }
  | _ => none }
def botPlaysRow : OpenClaim := { program := "ytnaclkaapicelaagreat", sum := "3e073b728c9dd99279a55f219a1ed1506db79688554e01afbe95311635d0d784", func := "promptbook/promptbooklaw30.BotPlays", spec := "botPlays", inPlace := ["slices.overlaps[promptbook/api.Event]"], unfollowed := true, recurses := true, apart := false }
def BotPlaysSaid : Prop := botPlaysRow.holds Tryz.pinned (OpenSpec.ofChange botPlaysSpec)

/-- ITS FALSE NEIGHBOUR: 'it returns false'. Refute it at one input. -/
def botPlaysWrong : ChangeSpec := { name := "botPlays", fn := fun _ => fun
  | [d1, d2, d3, d4] => { results := [.lit (.bool false)], args := [d1, d2, d3, d4] }
  | _ => none }
def BotPlaysWrongFalsely : Prop := botPlaysRow.holds Tryz.pinned (OpenSpec.ofChange botPlaysWrong)

/-- 'promptbooklaw30.BotLadders': WHATEVER THE INPUT: true; the input reads as it did. -/
def botLaddersSpec : ChangeSpec := { name := "botLadders", fn := fun _ => fun
  | [d1, d2, d3] => { results := [.lit (.bool true)], args := [d1, d2, d3] }
  | _ => none }
def botLaddersRow : OpenClaim := { program := "ytnaclkaapicelaagreat", sum := "3e073b728c9dd99279a55f219a1ed1506db79688554e01afbe95311635d0d784", func := "promptbook/promptbooklaw30.BotLadders", spec := "botLadders", inPlace := ["slices.overlaps[promptbook/api.Event]"], unfollowed := true, recurses := true, apart := false }
def BotLaddersSaid : Prop := botLaddersRow.holds Tryz.pinned (OpenSpec.ofChange botLaddersSpec)

/-- ITS FALSE NEIGHBOUR: 'it returns false'. Refute it at one input. -/
def botLaddersWrong : ChangeSpec := { name := "botLadders", fn := fun _ => fun
  | [d1, d2, d3] => { results := [.lit (.bool false)], args := [d1, d2, d3] }
  | _ => none }
def BotLaddersWrongFalsely : Prop := botLaddersRow.holds Tryz.pinned (OpenSpec.ofChange botLaddersWrong)

/- THE SECOND FORM. 'bulk': how many values and letters a reading holds, each counted each time it is reached (what is shared counts as often as it is met; a slice's spare places count too). A statement '..UptoSaid' is the law's where the arguments, and the package variables that the reading takes, are together of bulk at most 1048576: NARROWER than '..Said'. Prove '..Said' where nothing that the law and all that it calls make is longer than what came in: it says more and counts as full. Else prove '..UptoSaid'. A law counts once. -/
mutual
def uptoBulk {H : Type} : DataW H → Nat
  | .lit (.string bytes) => bytes.length + 1
  | .lit _ => 1
  | .nil => 1
  | .ptr d => uptoBulk d + 1
  | .slice elems spare => uptoBulkAll elems + uptoBulkAll spare + 1
  | .agg parts => uptoBulkAll parts + 1
  | .iface _ d => uptoBulk d + 1
  | .map entries => uptoBulkEntries entries + 1
  | .held _ => 1
def uptoBulkAll {H : Type} : List (DataW H) → Nat
  | [] => 0
  | d :: r => uptoBulk d + uptoBulkAll r
def uptoBulkEntries {H : Type} : List (Lit × DataW H) → Nat
  | [] => 0
  | x :: r => uptoBulkEntry x + uptoBulkEntries r
def uptoBulkEntry {H : Type} : Lit × DataW H → Nat
  | (.string bytes, d) => bytes.length + uptoBulk d + 1
  | (_, d) => uptoBulk d + 1
 end
def uptoSmall : (H : Type) → List (DataW H) → Bool := fun _ ds => decide (uptoBulkAll ds ≤ 1048576)
def OpenSpec.upto (s : _root_.Go.ChangeSpec) : _root_.Go.OpenSpec := { _root_.Go.OpenSpec.ofChange s with cond := some uptoSmall }

/-- 'promptbooklaw12.GameSteps', WHERE WHAT IT READS IS OF BULK AT MOST 1048576: true; the input reads as it did. -/
def gameStepsUptoRow : OpenClaim := { program := "ytnaclkaapicelaagreat", sum := "3e073b728c9dd99279a55f219a1ed1506db79688554e01afbe95311635d0d784", func := "promptbook/promptbooklaw12.GameSteps", spec := "gameSteps", inPlace := ["slices.overlaps[promptbook/api.Event]"], unfollowed := true, recurses := true, apart := false, narrowed := true }
def GameStepsUptoSaid : Prop := gameStepsUptoRow.holds Tryz.pinned (OpenSpec.upto gameStepsSpec)

/-- 'promptbooklaw12.GameRuns', WHERE WHAT IT READS IS OF BULK AT MOST 1048576: true; the input reads as it did. -/
def gameRunsUptoRow : OpenClaim := { program := "ytnaclkaapicelaagreat", sum := "3e073b728c9dd99279a55f219a1ed1506db79688554e01afbe95311635d0d784", func := "promptbook/promptbooklaw12.GameRuns", spec := "gameRuns", inPlace := ["slices.overlaps[promptbook/api.Event]"], unfollowed := true, recurses := true, apart := false, narrowed := true }
def GameRunsUptoSaid : Prop := gameRunsUptoRow.holds Tryz.pinned (OpenSpec.upto gameRunsSpec)

/-- 'promptbooklaw30.BotPlays', WHERE WHAT IT READS IS OF BULK AT MOST 1048576: true; the input reads as it did. -/
def botPlaysUptoRow : OpenClaim := { program := "ytnaclkaapicelaagreat", sum := "3e073b728c9dd99279a55f219a1ed1506db79688554e01afbe95311635d0d784", func := "promptbook/promptbooklaw30.BotPlays", spec := "botPlays", inPlace := ["slices.overlaps[promptbook/api.Event]"], unfollowed := true, recurses := true, apart := false, narrowed := true }
def BotPlaysUptoSaid : Prop := botPlaysUptoRow.holds Tryz.pinned (OpenSpec.upto botPlaysSpec)

/-- 'promptbooklaw30.BotLadders', WHERE WHAT IT READS IS OF BULK AT MOST 1048576: true; the input reads as it did. -/
def botLaddersUptoRow : OpenClaim := { program := "ytnaclkaapicelaagreat", sum := "3e073b728c9dd99279a55f219a1ed1506db79688554e01afbe95311635d0d784", func := "promptbook/promptbooklaw30.BotLadders", spec := "botLadders", inPlace := ["slices.overlaps[promptbook/api.Event]"], unfollowed := true, recurses := true, apart := false, narrowed := true }
def BotLaddersUptoSaid : Prop := botLaddersUptoRow.holds Tryz.pinned (OpenSpec.upto botLaddersSpec)

end Rows
end Go.Proofs.YtnaclkaapicelaaGreat
