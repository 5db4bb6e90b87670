/-
  DERIVED. GIVEN WITH THE SEED: THE CARDS: each row of YtaegekfdbhmcaaaDoorRows.lean that lists a variable, with what it lists TIED to the program's text (the seventh form; the later family's looks); each row that meets fmt, with fmt's text TOLD by the authors' own Lean function (tested against real Go, not proved from fmt's source: count such statements apart). THE CARD IS WHAT COUNTS. Prove the row's statement (the work); the ties are given (YtaegekfdbhmcaaaDoorTie.lean); close each card by the builder's one call (the guide's Derived/Test/ToyasCard.lean, 'card_holds'). Laid BY PROGRAM, IN A SANDBOX (cutbox-door.mjs). By AI agents, Wed Nov 11 2026. No macro, syntax, notation, axiom, sorry.
-/
import Derived.Test.YtaegekfdbhmcaaaDoorRows
import GoSem.ClaimSeven
namespace Go.Proofs.YtaegekfdbhmcaaaDoor
namespace Rows

/-- THE TIED CARD OF 'promptbooklaw34.ReelBest'. -/
def reelBestCard : Claim7 := { stood := { row := reelBestRow, standIns := [], harness := (true, "bc10b8de3c5e1a54443e65bb0152def3d9232dbd04525916dcd8e18b7d8212d2"), looks := false }, kinds := [], alts := [], laidByText := true, laidKinds := [.data, .data, .data, .data], laidTests := true, laidLooks := .later }
def ReelBestCardSaid : Prop := Claim7.holds Tryd.pinned (.plain (OpenSpec.ofChange reelBestSpec)) reelBestCard

/-- THE SECOND FORM's CARD OF 'promptbooklaw34.ReelBest'. -/
def reelBestUptoCard : Claim7 := { stood := { row := reelBestUptoRow, standIns := [], harness := (true, "bc10b8de3c5e1a54443e65bb0152def3d9232dbd04525916dcd8e18b7d8212d2"), looks := false }, kinds := [], alts := [], laidByText := true, laidKinds := [.data, .data, .data, .data], laidTests := true, laidLooks := .later }
def ReelBestUptoCardSaid : Prop := Claim7.holds Tryd.pinned (.plain (OpenSpec.upto reelBestSpec)) reelBestUptoCard
end Rows
end Go.Proofs.YtaegekfdbhmcaaaDoor
