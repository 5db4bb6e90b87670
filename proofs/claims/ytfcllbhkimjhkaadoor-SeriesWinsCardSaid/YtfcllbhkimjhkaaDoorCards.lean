/-
  DERIVED. GIVEN WITH THE SEED: THE CARDS: each row of YtfcllbhkimjhkaaDoorRows.lean that lists a variable, with what it lists TIED to the program's text (the seventh form; the later family's looks); each row that meets fmt, with fmt's text TOLD by the authors' own Lean function (tested against real Go, not proved from fmt's source: count such statements apart). THE CARD IS WHAT COUNTS. Prove the row's statement (the work); the ties are given (YtfcllbhkimjhkaaDoorTie.lean); close each card by the builder's one call (the guide's Derived/Test/ToyasCard.lean, 'card_holds'). Laid BY PROGRAM, IN A SANDBOX (cutbox-door.mjs). By AI agents, Wed Nov 11 2026. No macro, syntax, notation, axiom, sorry.
-/
import Derived.Test.YtfcllbhkimjhkaaDoorRows
import GoSem.ClaimSeven
namespace Go.Proofs.YtfcllbhkimjhkaaDoor
namespace Rows

/-- THE TIED CARD OF 'promptbooklaw37.SeriesWins'. -/
def seriesWinsCard : Claim7 := { stood := { row := seriesWinsRow, standIns := [], harness := (true, "95906cfb450d5dd7d42fed793d1433bc5c99514e6d97c45d045624b22371ffca"), looks := false }, kinds := [], alts := [], laidByText := true, laidKinds := [.data, .data, .data], laidTests := true, laidLooks := .later }
def SeriesWinsCardSaid : Prop := Claim7.holds Tryd.pinned (.plain (OpenSpec.ofChange seriesWinsSpec)) seriesWinsCard

/-- THE SECOND FORM's CARD OF 'promptbooklaw37.SeriesWins'. -/
def seriesWinsUptoCard : Claim7 := { stood := { row := seriesWinsUptoRow, standIns := [], harness := (true, "95906cfb450d5dd7d42fed793d1433bc5c99514e6d97c45d045624b22371ffca"), looks := false }, kinds := [], alts := [], laidByText := true, laidKinds := [.data, .data, .data], laidTests := true, laidLooks := .later }
def SeriesWinsUptoCardSaid : Prop := Claim7.holds Tryd.pinned (.plain (OpenSpec.upto seriesWinsSpec)) seriesWinsUptoCard
end Rows
end Go.Proofs.YtfcllbhkimjhkaaDoor
