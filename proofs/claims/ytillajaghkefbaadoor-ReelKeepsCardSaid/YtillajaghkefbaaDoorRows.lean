/-
  NARROWER THAN 'FOR EVERY INPUT', by the rows' own cells (each row's printed sentence says how): ReelCuts: laid · ReelKeeps: laid.
  DERIVED. THE GIVEN ROWS OF THIS SEAT. 2 by the template 'for every input the law returns true; each argument reads behind the call as it read before'; 0 by the template 'total and deterministic' (their statements: YtillajaghkefbaaDoorTotals.lean).
  GIVEN WITH THE SEED: the statements are not yours to turn. If you find one false, say at which input.
  Laid BY PROGRAM, IN A SANDBOX (cutbox-rows.mjs): the forced cells as the released guide's own fill.sh prints them over the translation 6c5b34870a8c6905… (all of the seat's roots in one cut). By AI agents, Wed Nov 11 2026. No macro, syntax, notation, axiom, sorry.
-/
import Derived.Test.YtillajaghkefbaaDoorChecked
import GoSem.Claim
import GoSem.ClaimJoined
import GoSem.ClaimMapViews
import Derived.JoinedTies
import Derived.KernelRfl
namespace Go.Proofs.YtillajaghkefbaaDoor
/- THE CELL 'sum', in the pinned program and in every row, IS THE sha256 OF THE DUMP (.gsa) THAT YtillajaghkefbaaDoorProg.lean LOADS. Nothing in Lean hashes anything: it is a label: what it is worth is what the hold of that sum in a sandbox is worth. -/
noncomputable def Tryd.pinned : Pinned := { name := "ytillajaghkefbaadoor", sum := "6c5b34870a8c6905f7980233caf62486cb8ec24bab3164e3c543f4e02f10e058", checked := Tryd.checked }
namespace Rows
def none {H : Type} : Left H := { results := [], args := [] }

/- WHAT THE LISTED PACKAGE-LEVEL VARIABLES READ AS WHEN THE CALL BEGINS. Each datum BY PROGRAM (the guide's laid-datum.mjs) off the statement by which the dump's own 'gosem.cut.vars' lays the variable. In a bare row this is a premise. The card (YtillajaghkefbaaDoorCards.lean) ties it to the program's text. -/
def laid_promptbook_reel_weights {H : Type} : DataW H := .agg [.lit (.int .i64 0), .lit (.int .i64 0), .lit (.int .i64 3), .lit (.int .i64 0), .lit (.int .i64 2), .lit (.int .i64 10), .lit (.int .i64 0), .lit (.int .i64 8), .lit (.int .i64 0), .lit (.int .i64 0)]

/-- 'promptbooklaw34.ReelCuts': WHATEVER THE INPUT: true; the input reads as it did. -/
def reelCutsSpec : ChangeSpec := { name := "reelCuts", fn := fun _ => fun
  | [d1, d2, d3, d4, d5] => { results := [.lit (.bool true)], args := [d1, d2, d3, d4, d5] }
  | _ => none }
def reelCutsRow : OpenClaim := { program := "ytillajaghkefbaadoor", sum := "6c5b34870a8c6905f7980233caf62486cb8ec24bab3164e3c543f4e02f10e058", func := "promptbook/promptbooklaw34.ReelCuts", spec := "reelCuts", named := ["promptbook/reel.weights"], apart := false, laid := [("promptbook/reel.weights", laid_promptbook_reel_weights)] }
def ReelCutsSaid : Prop := reelCutsRow.holds Tryd.pinned (OpenSpec.ofChange reelCutsSpec)

/-- ITS FALSE NEIGHBOUR: 'it returns false'. Refute it at one input. -/
def reelCutsWrong : ChangeSpec := { name := "reelCuts", fn := fun _ => fun
  | [d1, d2, d3, d4, d5] => { results := [.lit (.bool false)], args := [d1, d2, d3, d4, d5] }
  | _ => none }
def ReelCutsWrongFalsely : Prop := reelCutsRow.holds Tryd.pinned (OpenSpec.ofChange reelCutsWrong)

/-- 'promptbooklaw34.ReelKeeps': WHATEVER THE INPUT: true; the input reads as it did. -/
def reelKeepsSpec : ChangeSpec := { name := "reelKeeps", fn := fun _ => fun
  | [d1, d2, d3, d4] => { results := [.lit (.bool true)], args := [d1, d2, d3, d4] }
  | _ => none }
def reelKeepsRow : OpenClaim := { program := "ytillajaghkefbaadoor", sum := "6c5b34870a8c6905f7980233caf62486cb8ec24bab3164e3c543f4e02f10e058", func := "promptbook/promptbooklaw34.ReelKeeps", spec := "reelKeeps", unfollowed := true, recurses := true, named := ["promptbook/reel.weights"], apart := false, laid := [("promptbook/reel.weights", laid_promptbook_reel_weights)] }
def ReelKeepsSaid : Prop := reelKeepsRow.holds Tryd.pinned (OpenSpec.ofChange reelKeepsSpec)

/-- ITS FALSE NEIGHBOUR: 'it returns false'. Refute it at one input. -/
def reelKeepsWrong : ChangeSpec := { name := "reelKeeps", fn := fun _ => fun
  | [d1, d2, d3, d4] => { results := [.lit (.bool false)], args := [d1, d2, d3, d4] }
  | _ => none }
def ReelKeepsWrongFalsely : Prop := reelKeepsRow.holds Tryd.pinned (OpenSpec.ofChange reelKeepsWrong)

/- THE SECOND FORM. 'bulk': how many values and letters a reading holds, each counted each time it is reached (what is shared counts as often as it is met; a slice's spare places count too). A statement '..UptoSaid' is the law's where the arguments, and the package variables that the reading takes, are together of bulk at most 1048576: NARROWER than '..Said'. Prove '..Said' where nothing that the law and all that it calls make is longer than what came in: it says more and counts as full. Else prove '..UptoSaid'. A law counts once. -/
mutual
def uptoBulk {H : Type} : DataW H → Nat
  | .lit (.string bytes) => bytes.length + 1
  | .lit _ => 1
  | .nil => 1
  | .ptr d => uptoBulk d + 1
  | .slice elems spare => uptoBulkAll elems + uptoBulkAll spare + 1
  | .agg parts => uptoBulkAll parts + 1
  | .iface _ d => uptoBulk d + 1
  | .map entries => uptoBulkEntries entries + 1
  | .held _ => 1
def uptoBulkAll {H : Type} : List (DataW H) → Nat
  | [] => 0
  | d :: r => uptoBulk d + uptoBulkAll r
def uptoBulkEntries {H : Type} : List (Lit × DataW H) → Nat
  | [] => 0
  | x :: r => uptoBulkEntry x + uptoBulkEntries r
def uptoBulkEntry {H : Type} : Lit × DataW H → Nat
  | (.string bytes, d) => bytes.length + uptoBulk d + 1
  | (_, d) => uptoBulk d + 1
 end
def uptoSmall : (H : Type) → List (DataW H) → Bool := fun _ ds => decide (uptoBulkAll ds ≤ 1048576)
def OpenSpec.upto (s : _root_.Go.ChangeSpec) : _root_.Go.OpenSpec := { _root_.Go.OpenSpec.ofChange s with cond := some uptoSmall }

/-- 'promptbooklaw34.ReelCuts', WHERE WHAT IT READS IS OF BULK AT MOST 1048576: true; the input reads as it did. -/
def reelCutsUptoRow : OpenClaim := { program := "ytillajaghkefbaadoor", sum := "6c5b34870a8c6905f7980233caf62486cb8ec24bab3164e3c543f4e02f10e058", func := "promptbook/promptbooklaw34.ReelCuts", spec := "reelCuts", named := ["promptbook/reel.weights"], apart := false, laid := [("promptbook/reel.weights", laid_promptbook_reel_weights)], narrowed := true }
def ReelCutsUptoSaid : Prop := reelCutsUptoRow.holds Tryd.pinned (OpenSpec.upto reelCutsSpec)

/-- 'promptbooklaw34.ReelKeeps', WHERE WHAT IT READS IS OF BULK AT MOST 1048576: true; the input reads as it did. -/
def reelKeepsUptoRow : OpenClaim := { program := "ytillajaghkefbaadoor", sum := "6c5b34870a8c6905f7980233caf62486cb8ec24bab3164e3c543f4e02f10e058", func := "promptbook/promptbooklaw34.ReelKeeps", spec := "reelKeeps", unfollowed := true, recurses := true, named := ["promptbook/reel.weights"], apart := false, laid := [("promptbook/reel.weights", laid_promptbook_reel_weights)], narrowed := true }
def ReelKeepsUptoSaid : Prop := reelKeepsUptoRow.holds Tryd.pinned (OpenSpec.upto reelKeepsSpec)

end Rows
end Go.Proofs.YtillajaghkefbaaDoor
