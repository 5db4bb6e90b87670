/-
  DERIVED. GIVEN WITH THE SEED: THE CARDS: each row of YtnepjdpifbjiiaaDoorRows.lean that lists a variable, with what it lists TIED to the program's text (the seventh form; the later family's looks); each row that meets fmt, with fmt's text TOLD by the authors' own Lean function (tested against real Go, not proved from fmt's source: count such statements apart). THE CARD IS WHAT COUNTS. Prove the row's statement (the work); the ties are given (YtnepjdpifbjiiaaDoorTie.lean); close each card by the builder's one call (the guide's Derived/Test/ToyasCard.lean, 'card_holds'). Laid BY PROGRAM, IN A SANDBOX (cutbox-door.mjs). By AI agents, Wed Nov 11 2026. No macro, syntax, notation, axiom, sorry.
-/
import Derived.Test.YtnepjdpifbjiiaaDoorRows
import GoSem.ClaimSeven
namespace Go.Proofs.YtnepjdpifbjiiaaDoor
namespace Rows

/-- THE TIED CARD OF 'promptbooklaw29.MeterCounts'. -/
def meterCountsCard : Claim7 := { stood := { row := meterCountsRow, standIns := [], harness := (true, "6edabe596b83c134545ff00fc50c2d71867b8365cc9a40443fac08272f3b1167"), looks := false }, kinds := [], alts := [], laidByText := true, laidKinds := [.data, .data, .data], laidTests := true, laidLooks := .later }
def MeterCountsCardSaid : Prop := Claim7.holds Tryd.pinned (.plain (OpenSpec.ofChange meterCountsSpec)) meterCountsCard

/-- THE TIED CARD OF 'promptbooklaw29.MeterAdds'. -/
def meterAddsCard : Claim7 := { stood := { row := meterAddsRow, standIns := [], harness := (true, "6edabe596b83c134545ff00fc50c2d71867b8365cc9a40443fac08272f3b1167"), looks := false }, kinds := [], alts := [], laidByText := true, laidKinds := [.data, .data, .data], laidTests := true, laidLooks := .later }
def MeterAddsCardSaid : Prop := Claim7.holds Tryd.pinned (.plain (OpenSpec.ofChange meterAddsSpec)) meterAddsCard

/-- THE TIED CARD OF 'promptbooklaw29.MeterNil'. -/
def meterNilCard : Claim7 := { stood := { row := meterNilRow, standIns := [], harness := (true, "6edabe596b83c134545ff00fc50c2d71867b8365cc9a40443fac08272f3b1167"), looks := false }, kinds := [], alts := [], laidByText := true, laidKinds := [.data, .data, .data], laidTests := true, laidLooks := .later }
def MeterNilCardSaid : Prop := Claim7.holds Tryd.pinned (.plain (OpenSpec.ofChange meterNilSpec)) meterNilCard

/-- THE SECOND FORM's CARD OF 'promptbooklaw29.MeterCounts'. -/
def meterCountsUptoCard : Claim7 := { stood := { row := meterCountsUptoRow, standIns := [], harness := (true, "6edabe596b83c134545ff00fc50c2d71867b8365cc9a40443fac08272f3b1167"), looks := false }, kinds := [], alts := [], laidByText := true, laidKinds := [.data, .data, .data], laidTests := true, laidLooks := .later }
def MeterCountsUptoCardSaid : Prop := Claim7.holds Tryd.pinned (.plain (OpenSpec.upto meterCountsSpec)) meterCountsUptoCard

/-- THE SECOND FORM's CARD OF 'promptbooklaw29.MeterAdds'. -/
def meterAddsUptoCard : Claim7 := { stood := { row := meterAddsUptoRow, standIns := [], harness := (true, "6edabe596b83c134545ff00fc50c2d71867b8365cc9a40443fac08272f3b1167"), looks := false }, kinds := [], alts := [], laidByText := true, laidKinds := [.data, .data, .data], laidTests := true, laidLooks := .later }
def MeterAddsUptoCardSaid : Prop := Claim7.holds Tryd.pinned (.plain (OpenSpec.upto meterAddsSpec)) meterAddsUptoCard

/-- THE SECOND FORM's CARD OF 'promptbooklaw29.MeterNil'. -/
def meterNilUptoCard : Claim7 := { stood := { row := meterNilUptoRow, standIns := [], harness := (true, "6edabe596b83c134545ff00fc50c2d71867b8365cc9a40443fac08272f3b1167"), looks := false }, kinds := [], alts := [], laidByText := true, laidKinds := [.data, .data, .data], laidTests := true, laidLooks := .later }
def MeterNilUptoCardSaid : Prop := Claim7.holds Tryd.pinned (.plain (OpenSpec.upto meterNilSpec)) meterNilUptoCard
end Rows
end Go.Proofs.YtnepjdpifbjiiaaDoor
