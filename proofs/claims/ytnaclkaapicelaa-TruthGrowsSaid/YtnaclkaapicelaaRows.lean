/-
  No cell of these rows narrows 'for every input' (looked for: loops, veiled, ifaces, maps, wideKeys, modest, calm, conditions, laid).
  DERIVED. THE GIVEN ROWS OF THIS SEAT. 6 by the template 'for every input the law returns true; each argument reads behind the call as it read before'; 0 by the template 'total and deterministic' (their statements: YtnaclkaapicelaaTotals.lean).
  GIVEN WITH THE SEED: the statements are not yours to turn. If you find one false, say at which input.
  Laid BY PROGRAM, IN A SANDBOX (cutbox-rows.mjs): the forced cells as the released guide's own fill.sh prints them over the translation 9708224fff48b872… (all of the seat's roots in one cut). By AI agents, Wed Nov 11 2026. No macro, syntax, notation, axiom, sorry.
-/
import Derived.Test.YtnaclkaapicelaaChecked
import GoSem.Claim
import GoSem.ClaimJoined
import GoSem.ClaimMapViews
import Derived.JoinedTies
import Derived.KernelRfl
namespace Go.Proofs.Ytnaclkaapicelaa
/- THE CELL 'sum', in the pinned program and in every row, IS THE sha256 OF THE DUMP (.gsa) THAT YtnaclkaapicelaaProg.lean LOADS. Nothing in Lean hashes anything: it is a label: what it is worth is what the hold of that sum in a sandbox is worth. -/
noncomputable def Try.pinned : Pinned := { name := "ytnaclkaapicelaa", sum := "9708224fff48b872a05b199aa49cb617a3a7e0a665ce507a4c73ab9e2442e901", checked := Try.checked }
namespace Rows
def none {H : Type} : Left H := { results := [], args := [] }

/-- 'promptbooklaw12.GameStays': WHATEVER THE INPUT: true; the input reads as it did. -/
def gameStaysSpec : ChangeSpec := { name := "gameStays", fn := fun _ => fun
  | [d1, d2] => { results := [.lit (.bool true)], args := [d1, d2] }
  | _ => none }
def gameStaysRow : OpenClaim := { program := "ytnaclkaapicelaa", sum := "9708224fff48b872a05b199aa49cb617a3a7e0a665ce507a4c73ab9e2442e901", func := "promptbook/promptbooklaw12.GameStays", spec := "gameStays", inPlace := ["slices.overlaps[promptbook/api.Event]"], unfollowed := true, recurses := true, apart := false }
def GameStaysSaid : Prop := gameStaysRow.holds Try.pinned (OpenSpec.ofChange gameStaysSpec)

/-- ITS FALSE NEIGHBOUR: 'it returns false'. Refute it at one input. -/
def gameStaysWrong : ChangeSpec := { name := "gameStays", fn := fun _ => fun
  | [d1, d2] => { results := [.lit (.bool false)], args := [d1, d2] }
  | _ => none }
def GameStaysWrongFalsely : Prop := gameStaysRow.holds Try.pinned (OpenSpec.ofChange gameStaysWrong)

/-- 'promptbooklaw12.GameParts': WHATEVER THE INPUT: true; the input reads as it did. -/
def gamePartsSpec : ChangeSpec := { name := "gameParts", fn := fun _ => fun
  | [d1, d2, d3] => { results := [.lit (.bool true)], args := [d1, d2, d3] }
  | _ => none }
def gamePartsRow : OpenClaim := { program := "ytnaclkaapicelaa", sum := "9708224fff48b872a05b199aa49cb617a3a7e0a665ce507a4c73ab9e2442e901", func := "promptbook/promptbooklaw12.GameParts", spec := "gameParts", inPlace := ["slices.overlaps[promptbook/api.Event]"], unfollowed := true, recurses := true, apart := false }
def GamePartsSaid : Prop := gamePartsRow.holds Try.pinned (OpenSpec.ofChange gamePartsSpec)

/-- ITS FALSE NEIGHBOUR: 'it returns false'. Refute it at one input. -/
def gamePartsWrong : ChangeSpec := { name := "gameParts", fn := fun _ => fun
  | [d1, d2, d3] => { results := [.lit (.bool false)], args := [d1, d2, d3] }
  | _ => none }
def GamePartsWrongFalsely : Prop := gamePartsRow.holds Try.pinned (OpenSpec.ofChange gamePartsWrong)

/-- 'promptbooklaw30.BotPresses': WHATEVER THE INPUT: true; the input reads as it did. -/
def botPressesSpec : ChangeSpec := { name := "botPresses", fn := fun _ => fun
  | [d1, d2, d3] => { results := [.lit (.bool true)], args := [d1, d2, d3] }
  | _ => none }
def botPressesRow : OpenClaim := { program := "ytnaclkaapicelaa", sum := "9708224fff48b872a05b199aa49cb617a3a7e0a665ce507a4c73ab9e2442e901", func := "promptbook/promptbooklaw30.BotPresses", spec := "botPresses", unfollowed := true, recurses := true, apart := false }
def BotPressesSaid : Prop := botPressesRow.holds Try.pinned (OpenSpec.ofChange botPressesSpec)

/-- ITS FALSE NEIGHBOUR: 'it returns false'. Refute it at one input. -/
def botPressesWrong : ChangeSpec := { name := "botPresses", fn := fun _ => fun
  | [d1, d2, d3] => { results := [.lit (.bool false)], args := [d1, d2, d3] }
  | _ => none }
def BotPressesWrongFalsely : Prop := botPressesRow.holds Try.pinned (OpenSpec.ofChange botPressesWrong)

/-- 'promptbooklaw30.BotTurns': WHATEVER THE INPUT: true; the input reads as it did. -/
def botTurnsSpec : ChangeSpec := { name := "botTurns", fn := fun _ => fun
  | [d1, d2, d3] => { results := [.lit (.bool true)], args := [d1, d2, d3] }
  | _ => none }
def botTurnsRow : OpenClaim := { program := "ytnaclkaapicelaa", sum := "9708224fff48b872a05b199aa49cb617a3a7e0a665ce507a4c73ab9e2442e901", func := "promptbook/promptbooklaw30.BotTurns", spec := "botTurns", unfollowed := true, recurses := true, apart := false }
def BotTurnsSaid : Prop := botTurnsRow.holds Try.pinned (OpenSpec.ofChange botTurnsSpec)

/-- ITS FALSE NEIGHBOUR: 'it returns false'. Refute it at one input. -/
def botTurnsWrong : ChangeSpec := { name := "botTurns", fn := fun _ => fun
  | [d1, d2, d3] => { results := [.lit (.bool false)], args := [d1, d2, d3] }
  | _ => none }
def BotTurnsWrongFalsely : Prop := botTurnsRow.holds Try.pinned (OpenSpec.ofChange botTurnsWrong)

/-- 'promptbooklaw37.SeriesBots': WHATEVER THE INPUT: true; the input reads as it did. -/
def seriesBotsSpec : ChangeSpec := { name := "seriesBots", fn := fun _ => fun
  | [d1, d2, d3, d4] => { results := [.lit (.bool true)], args := [d1, d2, d3, d4] }
  | _ => none }
def seriesBotsRow : OpenClaim := { program := "ytnaclkaapicelaa", sum := "9708224fff48b872a05b199aa49cb617a3a7e0a665ce507a4c73ab9e2442e901", func := "promptbook/promptbooklaw37.SeriesBots", spec := "seriesBots", inPlace := ["slices.overlaps[promptbook/api.Event]"], unfollowed := true, recurses := true, apart := false }
def SeriesBotsSaid : Prop := seriesBotsRow.holds Try.pinned (OpenSpec.ofChange seriesBotsSpec)

/-- ITS FALSE NEIGHBOUR: 'it returns false'. Refute it at one input. -/
def seriesBotsWrong : ChangeSpec := { name := "seriesBots", fn := fun _ => fun
  | [d1, d2, d3, d4] => { results := [.lit (.bool false)], args := [d1, d2, d3, d4] }
  | _ => none }
def SeriesBotsWrongFalsely : Prop := seriesBotsRow.holds Try.pinned (OpenSpec.ofChange seriesBotsWrong)

/-- 'promptbooklaw26.TruthGrows': WHATEVER THE INPUT: true; the input reads as it did. -/
def truthGrowsSpec : ChangeSpec := { name := "truthGrows", fn := fun _ => fun
  | [d1, d2, d3, d4, d5] => { results := [.lit (.bool true)], args := [d1, d2, d3, d4, d5] }
  | _ => none }
def truthGrowsRow : OpenClaim := { program := "ytnaclkaapicelaa", sum := "9708224fff48b872a05b199aa49cb617a3a7e0a665ce507a4c73ab9e2442e901", func := "promptbook/promptbooklaw26.TruthGrows", spec := "truthGrows", inPlace := ["slices.overlaps[promptbook/api.Event]"], unfollowed := true, recurses := true, apart := false }
def TruthGrowsSaid : Prop := truthGrowsRow.holds Try.pinned (OpenSpec.ofChange truthGrowsSpec)

/-- ITS FALSE NEIGHBOUR: 'it returns false'. Refute it at one input. -/
def truthGrowsWrong : ChangeSpec := { name := "truthGrows", fn := fun _ => fun
  | [d1, d2, d3, d4, d5] => { results := [.lit (.bool false)], args := [d1, d2, d3, d4, d5] }
  | _ => none }
def TruthGrowsWrongFalsely : Prop := truthGrowsRow.holds Try.pinned (OpenSpec.ofChange truthGrowsWrong)

/- THE SECOND FORM. 'bulk': how many values and letters a reading holds, each counted each time it is reached (what is shared counts as often as it is met; a slice's spare places count too). A statement '..UptoSaid' is the law's where the arguments, and the package variables that the reading takes, are together of bulk at most 1048576: NARROWER than '..Said'. Prove '..Said' where nothing that the law and all that it calls make is longer than what came in: it says more and counts as full. Else prove '..UptoSaid'. A law counts once. -/
mutual
def uptoBulk {H : Type} : DataW H → Nat
  | .lit (.string bytes) => bytes.length + 1
  | .lit _ => 1
  | .nil => 1
  | .ptr d => uptoBulk d + 1
  | .slice elems spare => uptoBulkAll elems + uptoBulkAll spare + 1
  | .agg parts => uptoBulkAll parts + 1
  | .iface _ d => uptoBulk d + 1
  | .map entries => uptoBulkEntries entries + 1
  | .held _ => 1
def uptoBulkAll {H : Type} : List (DataW H) → Nat
  | [] => 0
  | d :: r => uptoBulk d + uptoBulkAll r
def uptoBulkEntries {H : Type} : List (Lit × DataW H) → Nat
  | [] => 0
  | x :: r => uptoBulkEntry x + uptoBulkEntries r
def uptoBulkEntry {H : Type} : Lit × DataW H → Nat
  | (.string bytes, d) => bytes.length + uptoBulk d + 1
  | (_, d) => uptoBulk d + 1
 end
def uptoSmall : (H : Type) → List (DataW H) → Bool := fun _ ds => decide (uptoBulkAll ds ≤ 1048576)
def OpenSpec.upto (s : _root_.Go.ChangeSpec) : _root_.Go.OpenSpec := { _root_.Go.OpenSpec.ofChange s with cond := some uptoSmall }

/-- 'promptbooklaw12.GameStays', WHERE WHAT IT READS IS OF BULK AT MOST 1048576: true; the input reads as it did. -/
def gameStaysUptoRow : OpenClaim := { program := "ytnaclkaapicelaa", sum := "9708224fff48b872a05b199aa49cb617a3a7e0a665ce507a4c73ab9e2442e901", func := "promptbook/promptbooklaw12.GameStays", spec := "gameStays", inPlace := ["slices.overlaps[promptbook/api.Event]"], unfollowed := true, recurses := true, apart := false, narrowed := true }
def GameStaysUptoSaid : Prop := gameStaysUptoRow.holds Try.pinned (OpenSpec.upto gameStaysSpec)

/-- 'promptbooklaw12.GameParts', WHERE WHAT IT READS IS OF BULK AT MOST 1048576: true; the input reads as it did. -/
def gamePartsUptoRow : OpenClaim := { program := "ytnaclkaapicelaa", sum := "9708224fff48b872a05b199aa49cb617a3a7e0a665ce507a4c73ab9e2442e901", func := "promptbook/promptbooklaw12.GameParts", spec := "gameParts", inPlace := ["slices.overlaps[promptbook/api.Event]"], unfollowed := true, recurses := true, apart := false, narrowed := true }
def GamePartsUptoSaid : Prop := gamePartsUptoRow.holds Try.pinned (OpenSpec.upto gamePartsSpec)

/-- 'promptbooklaw30.BotPresses', WHERE WHAT IT READS IS OF BULK AT MOST 1048576: true; the input reads as it did. -/
def botPressesUptoRow : OpenClaim := { program := "ytnaclkaapicelaa", sum := "9708224fff48b872a05b199aa49cb617a3a7e0a665ce507a4c73ab9e2442e901", func := "promptbook/promptbooklaw30.BotPresses", spec := "botPresses", unfollowed := true, recurses := true, apart := false, narrowed := true }
def BotPressesUptoSaid : Prop := botPressesUptoRow.holds Try.pinned (OpenSpec.upto botPressesSpec)

/-- 'promptbooklaw30.BotTurns', WHERE WHAT IT READS IS OF BULK AT MOST 1048576: true; the input reads as it did. -/
def botTurnsUptoRow : OpenClaim := { program := "ytnaclkaapicelaa", sum := "9708224fff48b872a05b199aa49cb617a3a7e0a665ce507a4c73ab9e2442e901", func := "promptbook/promptbooklaw30.BotTurns", spec := "botTurns", unfollowed := true, recurses := true, apart := false, narrowed := true }
def BotTurnsUptoSaid : Prop := botTurnsUptoRow.holds Try.pinned (OpenSpec.upto botTurnsSpec)

/-- 'promptbooklaw37.SeriesBots', WHERE WHAT IT READS IS OF BULK AT MOST 1048576: true; the input reads as it did. -/
def seriesBotsUptoRow : OpenClaim := { program := "ytnaclkaapicelaa", sum := "9708224fff48b872a05b199aa49cb617a3a7e0a665ce507a4c73ab9e2442e901", func := "promptbook/promptbooklaw37.SeriesBots", spec := "seriesBots", inPlace := ["slices.overlaps[promptbook/api.Event]"], unfollowed := true, recurses := true, apart := false, narrowed := true }
def SeriesBotsUptoSaid : Prop := seriesBotsUptoRow.holds Try.pinned (OpenSpec.upto seriesBotsSpec)

/-- 'promptbooklaw26.TruthGrows', WHERE WHAT IT READS IS OF BULK AT MOST 1048576: true; the input reads as it did. -/
def truthGrowsUptoRow : OpenClaim := { program := "ytnaclkaapicelaa", sum := "9708224fff48b872a05b199aa49cb617a3a7e0a665ce507a4c73ab9e2442e901", func := "promptbook/promptbooklaw26.TruthGrows", spec := "truthGrows", inPlace := ["slices.overlaps[promptbook/api.Event]"], unfollowed := true, recurses := true, apart := false, narrowed := true }
def TruthGrowsUptoSaid : Prop := truthGrowsUptoRow.holds Try.pinned (OpenSpec.upto truthGrowsSpec)

end Rows
end Go.Proofs.Ytnaclkaapicelaa
