/-
  No cell of these rows narrows 'for every input' (looked for: loops, veiled, ifaces, maps, wideKeys, modest, calm, conditions, laid).
  DERIVED. THE GIVEN ROWS OF THIS SEAT. 5 by the template 'for every input the law returns true; each argument reads behind the call as it read before'; 0 by the template 'total and deterministic' (their statements: YteccmklacgpodaaTotals.lean).
  GIVEN WITH THE SEED: the statements are not yours to turn. If you find one false, say at which input.
  Laid BY PROGRAM, IN A SANDBOX (cutbox-rows.mjs): the forced cells as the released guide's own fill.sh prints them over the translation ccd054cd3135ac93… (all of the seat's roots in one cut). By AI agents, Wed Nov 11 2026. No macro, syntax, notation, axiom, sorry.
-/
import Derived.Test.YteccmklacgpodaaChecked
import GoSem.Claim
import GoSem.ClaimJoined
import GoSem.ClaimMapViews
import Derived.JoinedTies
import Derived.KernelRfl
namespace Go.Proofs.Yteccmklacgpodaa
/- THE CELL 'sum', in the pinned program and in every row, IS THE sha256 OF THE DUMP (.gsa) THAT YteccmklacgpodaaProg.lean LOADS. Nothing in Lean hashes anything: it is a label: what it is worth is what the hold of that sum in a sandbox is worth. -/
noncomputable def Try.pinned : Pinned := { name := "yteccmklacgpodaa", sum := "ccd054cd3135ac932d5097302106ba1cddfe7ffd4681c2a3c6df68ee0c379eba", checked := Try.checked }
namespace Rows
def none {H : Type} : Left H := { results := [], args := [] }

/-- 'promptbooklaw17.LedgerTells': WHATEVER THE INPUT: true; the input reads as it did. -/
def ledgerTellsSpec : ChangeSpec := { name := "ledgerTells", fn := fun _ => fun
  | [d] => { results := [.lit (.bool true)], args := [d] }
  | _ => none }
def ledgerTellsRow : OpenClaim := { program := "yteccmklacgpodaa", sum := "ccd054cd3135ac932d5097302106ba1cddfe7ffd4681c2a3c6df68ee0c379eba", func := "promptbook/promptbooklaw17.LedgerTells", spec := "ledgerTells", unfollowed := true, recurses := true, plainKeys := false, apart := false }
def LedgerTellsSaid : Prop := ledgerTellsRow.holds Try.pinned (OpenSpec.ofChange ledgerTellsSpec)

/-- ITS FALSE NEIGHBOUR: 'it returns false'. Refute it at one input. -/
def ledgerTellsWrong : ChangeSpec := { name := "ledgerTells", fn := fun _ => fun
  | [d] => { results := [.lit (.bool false)], args := [d] }
  | _ => none }
def LedgerTellsWrongFalsely : Prop := ledgerTellsRow.holds Try.pinned (OpenSpec.ofChange ledgerTellsWrong)

/-- 'promptbooklaw17.LedgerSorts': WHATEVER THE INPUT: true; the input reads as it did. -/
def ledgerSortsSpec : ChangeSpec := { name := "ledgerSorts", fn := fun _ => fun
  | [d] => { results := [.lit (.bool true)], args := [d] }
  | _ => none }
def ledgerSortsRow : OpenClaim := { program := "yteccmklacgpodaa", sum := "ccd054cd3135ac932d5097302106ba1cddfe7ffd4681c2a3c6df68ee0c379eba", func := "promptbook/promptbooklaw17.LedgerSorts", spec := "ledgerSorts", unfollowed := true, recurses := true, plainKeys := false, apart := false }
def LedgerSortsSaid : Prop := ledgerSortsRow.holds Try.pinned (OpenSpec.ofChange ledgerSortsSpec)

/-- ITS FALSE NEIGHBOUR: 'it returns false'. Refute it at one input. -/
def ledgerSortsWrong : ChangeSpec := { name := "ledgerSorts", fn := fun _ => fun
  | [d] => { results := [.lit (.bool false)], args := [d] }
  | _ => none }
def LedgerSortsWrongFalsely : Prop := ledgerSortsRow.holds Try.pinned (OpenSpec.ofChange ledgerSortsWrong)

/-- 'promptbooklaw17.LedgerPlays': WHATEVER THE INPUT: true; the input reads as it did. -/
def ledgerPlaysSpec : ChangeSpec := { name := "ledgerPlays", fn := fun _ => fun
  | [d1, d2, d3] => { results := [.lit (.bool true)], args := [d1, d2, d3] }
  | _ => none }
def ledgerPlaysRow : OpenClaim := { program := "yteccmklacgpodaa", sum := "ccd054cd3135ac932d5097302106ba1cddfe7ffd4681c2a3c6df68ee0c379eba", func := "promptbook/promptbooklaw17.LedgerPlays", spec := "ledgerPlays", unfollowed := true, recurses := true, plainKeys := false, apart := false }
def LedgerPlaysSaid : Prop := ledgerPlaysRow.holds Try.pinned (OpenSpec.ofChange ledgerPlaysSpec)

/-- ITS FALSE NEIGHBOUR: 'it returns false'. Refute it at one input. -/
def ledgerPlaysWrong : ChangeSpec := { name := "ledgerPlays", fn := fun _ => fun
  | [d1, d2, d3] => { results := [.lit (.bool false)], args := [d1, d2, d3] }
  | _ => none }
def LedgerPlaysWrongFalsely : Prop := ledgerPlaysRow.holds Try.pinned (OpenSpec.ofChange ledgerPlaysWrong)

/-- 'promptbooklaw17.LedgerNil': WHATEVER THE INPUT: true; the input reads as it did. -/
def ledgerNilSpec : ChangeSpec := { name := "ledgerNil", fn := fun _ => fun
  | [d] => { results := [.lit (.bool true)], args := [d] }
  | _ => none }
def ledgerNilRow : OpenClaim := { program := "yteccmklacgpodaa", sum := "ccd054cd3135ac932d5097302106ba1cddfe7ffd4681c2a3c6df68ee0c379eba", func := "promptbook/promptbooklaw17.LedgerNil", spec := "ledgerNil", unfollowed := true, recurses := true, plainKeys := false, apart := false }
def LedgerNilSaid : Prop := ledgerNilRow.holds Try.pinned (OpenSpec.ofChange ledgerNilSpec)

/-- ITS FALSE NEIGHBOUR: 'it returns false'. Refute it at one input. -/
def ledgerNilWrong : ChangeSpec := { name := "ledgerNil", fn := fun _ => fun
  | [d] => { results := [.lit (.bool false)], args := [d] }
  | _ => none }
def LedgerNilWrongFalsely : Prop := ledgerNilRow.holds Try.pinned (OpenSpec.ofChange ledgerNilWrong)

/-- 'promptbooklaw17.LedgerSane': WHATEVER THE INPUT: true; the input reads as it did. -/
def ledgerSaneSpec : ChangeSpec := { name := "ledgerSane", fn := fun _ => fun
  | [d1, d2] => { results := [.lit (.bool true)], args := [d1, d2] }
  | _ => none }
def ledgerSaneRow : OpenClaim := { program := "yteccmklacgpodaa", sum := "ccd054cd3135ac932d5097302106ba1cddfe7ffd4681c2a3c6df68ee0c379eba", func := "promptbook/promptbooklaw17.LedgerSane", spec := "ledgerSane", unfollowed := true, recurses := true, plainKeys := false, apart := false }
def LedgerSaneSaid : Prop := ledgerSaneRow.holds Try.pinned (OpenSpec.ofChange ledgerSaneSpec)

/-- ITS FALSE NEIGHBOUR: 'it returns false'. Refute it at one input. -/
def ledgerSaneWrong : ChangeSpec := { name := "ledgerSane", fn := fun _ => fun
  | [d1, d2] => { results := [.lit (.bool false)], args := [d1, d2] }
  | _ => none }
def LedgerSaneWrongFalsely : Prop := ledgerSaneRow.holds Try.pinned (OpenSpec.ofChange ledgerSaneWrong)

/- THE SECOND FORM. 'bulk': how many values and letters a reading holds, each counted each time it is reached (what is shared counts as often as it is met; a slice's spare places count too). A statement '..UptoSaid' is the law's where the arguments, and the package variables that the reading takes, are together of bulk at most 1048576: NARROWER than '..Said'. Prove '..Said' where nothing that the law and all that it calls make is longer than what came in: it says more and counts as full. Else prove '..UptoSaid'. A law counts once. -/
mutual
def uptoBulk {H : Type} : DataW H → Nat
  | .lit (.string bytes) => bytes.length + 1
  | .lit _ => 1
  | .nil => 1
  | .ptr d => uptoBulk d + 1
  | .slice elems spare => uptoBulkAll elems + uptoBulkAll spare + 1
  | .agg parts => uptoBulkAll parts + 1
  | .iface _ d => uptoBulk d + 1
  | .map entries => uptoBulkEntries entries + 1
  | .held _ => 1
def uptoBulkAll {H : Type} : List (DataW H) → Nat
  | [] => 0
  | d :: r => uptoBulk d + uptoBulkAll r
def uptoBulkEntries {H : Type} : List (Lit × DataW H) → Nat
  | [] => 0
  | x :: r => uptoBulkEntry x + uptoBulkEntries r
def uptoBulkEntry {H : Type} : Lit × DataW H → Nat
  | (.string bytes, d) => bytes.length + uptoBulk d + 1
  | (_, d) => uptoBulk d + 1
 end
def uptoSmall : (H : Type) → List (DataW H) → Bool := fun _ ds => decide (uptoBulkAll ds ≤ 1048576)
def OpenSpec.upto (s : _root_.Go.ChangeSpec) : _root_.Go.OpenSpec := { _root_.Go.OpenSpec.ofChange s with cond := some uptoSmall }

/-- 'promptbooklaw17.LedgerTells', WHERE WHAT IT READS IS OF BULK AT MOST 1048576: true; the input reads as it did. -/
def ledgerTellsUptoRow : OpenClaim := { program := "yteccmklacgpodaa", sum := "ccd054cd3135ac932d5097302106ba1cddfe7ffd4681c2a3c6df68ee0c379eba", func := "promptbook/promptbooklaw17.LedgerTells", spec := "ledgerTells", unfollowed := true, recurses := true, plainKeys := false, apart := false, narrowed := true }
def LedgerTellsUptoSaid : Prop := ledgerTellsUptoRow.holds Try.pinned (OpenSpec.upto ledgerTellsSpec)

/-- 'promptbooklaw17.LedgerSorts', WHERE WHAT IT READS IS OF BULK AT MOST 1048576: true; the input reads as it did. -/
def ledgerSortsUptoRow : OpenClaim := { program := "yteccmklacgpodaa", sum := "ccd054cd3135ac932d5097302106ba1cddfe7ffd4681c2a3c6df68ee0c379eba", func := "promptbook/promptbooklaw17.LedgerSorts", spec := "ledgerSorts", unfollowed := true, recurses := true, plainKeys := false, apart := false, narrowed := true }
def LedgerSortsUptoSaid : Prop := ledgerSortsUptoRow.holds Try.pinned (OpenSpec.upto ledgerSortsSpec)

/-- 'promptbooklaw17.LedgerPlays', WHERE WHAT IT READS IS OF BULK AT MOST 1048576: true; the input reads as it did. -/
def ledgerPlaysUptoRow : OpenClaim := { program := "yteccmklacgpodaa", sum := "ccd054cd3135ac932d5097302106ba1cddfe7ffd4681c2a3c6df68ee0c379eba", func := "promptbook/promptbooklaw17.LedgerPlays", spec := "ledgerPlays", unfollowed := true, recurses := true, plainKeys := false, apart := false, narrowed := true }
def LedgerPlaysUptoSaid : Prop := ledgerPlaysUptoRow.holds Try.pinned (OpenSpec.upto ledgerPlaysSpec)

/-- 'promptbooklaw17.LedgerNil', WHERE WHAT IT READS IS OF BULK AT MOST 1048576: true; the input reads as it did. -/
def ledgerNilUptoRow : OpenClaim := { program := "yteccmklacgpodaa", sum := "ccd054cd3135ac932d5097302106ba1cddfe7ffd4681c2a3c6df68ee0c379eba", func := "promptbook/promptbooklaw17.LedgerNil", spec := "ledgerNil", unfollowed := true, recurses := true, plainKeys := false, apart := false, narrowed := true }
def LedgerNilUptoSaid : Prop := ledgerNilUptoRow.holds Try.pinned (OpenSpec.upto ledgerNilSpec)

/-- 'promptbooklaw17.LedgerSane', WHERE WHAT IT READS IS OF BULK AT MOST 1048576: true; the input reads as it did. -/
def ledgerSaneUptoRow : OpenClaim := { program := "yteccmklacgpodaa", sum := "ccd054cd3135ac932d5097302106ba1cddfe7ffd4681c2a3c6df68ee0c379eba", func := "promptbook/promptbooklaw17.LedgerSane", spec := "ledgerSane", unfollowed := true, recurses := true, plainKeys := false, apart := false, narrowed := true }
def LedgerSaneUptoSaid : Prop := ledgerSaneUptoRow.holds Try.pinned (OpenSpec.upto ledgerSaneSpec)

end Rows
end Go.Proofs.Yteccmklacgpodaa
