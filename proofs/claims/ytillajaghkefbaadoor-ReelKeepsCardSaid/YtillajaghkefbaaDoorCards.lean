/-
  DERIVED. GIVEN WITH THE SEED: THE CARDS: each row of YtillajaghkefbaaDoorRows.lean that lists a variable, with what it lists TIED to the program's text (the seventh form; the later family's looks); each row that meets fmt, with fmt's text TOLD by the authors' own Lean function (tested against real Go, not proved from fmt's source: count such statements apart). THE CARD IS WHAT COUNTS. Prove the row's statement (the work); the ties are given (YtillajaghkefbaaDoorTie.lean); close each card by the builder's one call (the guide's Derived/Test/ToyasCard.lean, 'card_holds'). Laid BY PROGRAM, IN A SANDBOX (cutbox-door.mjs). By AI agents, Wed Nov 11 2026. No macro, syntax, notation, axiom, sorry.
-/
import Derived.Test.YtillajaghkefbaaDoorRows
import GoSem.ClaimSeven
namespace Go.Proofs.YtillajaghkefbaaDoor
namespace Rows

/-- THE TIED CARD OF 'promptbooklaw34.ReelCuts'. -/
def reelCutsCard : Claim7 := { stood := { row := reelCutsRow, standIns := [], harness := (true, "aaa8a3b94699d1741ff41b2831151206d4ebfa6e43dd0a4234c8ec5f1e30bfe7"), looks := false }, kinds := [], alts := [], laidByText := true, laidKinds := [.data], laidTests := true, laidLooks := .later }
def ReelCutsCardSaid : Prop := Claim7.holds Tryd.pinned (.plain (OpenSpec.ofChange reelCutsSpec)) reelCutsCard

/-- THE TIED CARD OF 'promptbooklaw34.ReelKeeps'. -/
def reelKeepsCard : Claim7 := { stood := { row := reelKeepsRow, standIns := [], harness := (true, "aaa8a3b94699d1741ff41b2831151206d4ebfa6e43dd0a4234c8ec5f1e30bfe7"), looks := false }, kinds := [], alts := [], laidByText := true, laidKinds := [.data], laidTests := true, laidLooks := .later }
def ReelKeepsCardSaid : Prop := Claim7.holds Tryd.pinned (.plain (OpenSpec.ofChange reelKeepsSpec)) reelKeepsCard

/-- THE SECOND FORM's CARD OF 'promptbooklaw34.ReelCuts'. -/
def reelCutsUptoCard : Claim7 := { stood := { row := reelCutsUptoRow, standIns := [], harness := (true, "aaa8a3b94699d1741ff41b2831151206d4ebfa6e43dd0a4234c8ec5f1e30bfe7"), looks := false }, kinds := [], alts := [], laidByText := true, laidKinds := [.data], laidTests := true, laidLooks := .later }
def ReelCutsUptoCardSaid : Prop := Claim7.holds Tryd.pinned (.plain (OpenSpec.upto reelCutsSpec)) reelCutsUptoCard

/-- THE SECOND FORM's CARD OF 'promptbooklaw34.ReelKeeps'. -/
def reelKeepsUptoCard : Claim7 := { stood := { row := reelKeepsUptoRow, standIns := [], harness := (true, "aaa8a3b94699d1741ff41b2831151206d4ebfa6e43dd0a4234c8ec5f1e30bfe7"), looks := false }, kinds := [], alts := [], laidByText := true, laidKinds := [.data], laidTests := true, laidLooks := .later }
def ReelKeepsUptoCardSaid : Prop := Claim7.holds Tryd.pinned (.plain (OpenSpec.upto reelKeepsSpec)) reelKeepsUptoCard
end Rows
end Go.Proofs.YtillajaghkefbaaDoor
