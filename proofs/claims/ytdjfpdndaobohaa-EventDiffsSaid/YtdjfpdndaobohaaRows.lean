/-
  No cell of these rows narrows 'for every input' (looked for: loops, veiled, ifaces, maps, wideKeys, modest, calm, conditions, laid).
  DERIVED. THE GIVEN ROWS OF THIS SEAT. 6 by the template 'for every input the law returns true; each argument reads behind the call as it read before'; 0 by the template 'total and deterministic' (their statements: YtdjfpdndaobohaaTotals.lean).
  GIVEN WITH THE SEED: the statements are not yours to turn. If you find one false, say at which input.
  Laid BY PROGRAM, IN A SANDBOX (cutbox-rows.mjs): the forced cells as the released guide's own fill.sh prints them over the translation 6e830f9ed063bed0… (all of the seat's roots in one cut). By AI agents, Wed Nov 11 2026. No macro, syntax, notation, axiom, sorry.
-/
import Derived.Test.YtdjfpdndaobohaaChecked
import GoSem.Claim
import GoSem.ClaimJoined
import GoSem.ClaimMapViews
import Derived.JoinedTies
import Derived.KernelRfl
namespace Go.Proofs.Ytdjfpdndaobohaa
/- THE CELL 'sum', in the pinned program and in every row, IS THE sha256 OF THE DUMP (.gsa) THAT YtdjfpdndaobohaaProg.lean LOADS. Nothing in Lean hashes anything: it is a label: what it is worth is what the hold of that sum in a sandbox is worth. -/
noncomputable def Try.pinned : Pinned := { name := "ytdjfpdndaobohaa", sum := "6e830f9ed063bed0a462e598e4b9c665858d36728d59796bcfddca618ca3ffb5", checked := Try.checked }
namespace Rows
def none {H : Type} : Left H := { results := [], args := [] }

/-- 'promptbooklaw11.EventNil': WHATEVER THE INPUT: true; the input reads as it did. -/
def eventNilSpec : ChangeSpec := { name := "eventNil", fn := fun _ => fun
  | [d] => { results := [.lit (.bool true)], args := [d] }
  | _ => none }
def eventNilRow : OpenClaim := { program := "ytdjfpdndaobohaa", sum := "6e830f9ed063bed0a462e598e4b9c665858d36728d59796bcfddca618ca3ffb5", func := "promptbook/promptbooklaw11.EventNil", spec := "eventNil", inPlace := ["slices.overlaps[promptbook/api.Event]"], unfollowed := true, recurses := true, apart := false }
def EventNilSaid : Prop := eventNilRow.holds Try.pinned (OpenSpec.ofChange eventNilSpec)

/-- ITS FALSE NEIGHBOUR: 'it returns false'. Refute it at one input. -/
def eventNilWrong : ChangeSpec := { name := "eventNil", fn := fun _ => fun
  | [d] => { results := [.lit (.bool false)], args := [d] }
  | _ => none }
def EventNilWrongFalsely : Prop := eventNilRow.holds Try.pinned (OpenSpec.ofChange eventNilWrong)

/-- 'promptbooklaw11.EventPages': WHATEVER THE INPUT: true; the input reads as it did. -/
def eventPagesSpec : ChangeSpec := { name := "eventPages", fn := fun _ => fun
  | [d1, d2] => { results := [.lit (.bool true)], args := [d1, d2] }
  | _ => none }
def eventPagesRow : OpenClaim := { program := "ytdjfpdndaobohaa", sum := "6e830f9ed063bed0a462e598e4b9c665858d36728d59796bcfddca618ca3ffb5", func := "promptbook/promptbooklaw11.EventPages", spec := "eventPages", inPlace := ["slices.overlaps[promptbook/api.Event]"], unfollowed := true, recurses := true, apart := false }
def EventPagesSaid : Prop := eventPagesRow.holds Try.pinned (OpenSpec.ofChange eventPagesSpec)

/-- ITS FALSE NEIGHBOUR: 'it returns false'. Refute it at one input. -/
def eventPagesWrong : ChangeSpec := { name := "eventPages", fn := fun _ => fun
  | [d1, d2] => { results := [.lit (.bool false)], args := [d1, d2] }
  | _ => none }
def EventPagesWrongFalsely : Prop := eventPagesRow.holds Try.pinned (OpenSpec.ofChange eventPagesWrong)

/-- 'promptbooklaw11.EventBytes': WHATEVER THE INPUT: true; the input reads as it did. -/
def eventBytesSpec : ChangeSpec := { name := "eventBytes", fn := fun _ => fun
  | [d1, d2] => { results := [.lit (.bool true)], args := [d1, d2] }
  | _ => none }
def eventBytesRow : OpenClaim := { program := "ytdjfpdndaobohaa", sum := "6e830f9ed063bed0a462e598e4b9c665858d36728d59796bcfddca618ca3ffb5", func := "promptbook/promptbooklaw11.EventBytes", spec := "eventBytes", inPlace := ["slices.overlaps[promptbook/api.Event]"], unfollowed := true, recurses := true, apart := false }
def EventBytesSaid : Prop := eventBytesRow.holds Try.pinned (OpenSpec.ofChange eventBytesSpec)

/-- ITS FALSE NEIGHBOUR: 'it returns false'. Refute it at one input. -/
def eventBytesWrong : ChangeSpec := { name := "eventBytes", fn := fun _ => fun
  | [d1, d2] => { results := [.lit (.bool false)], args := [d1, d2] }
  | _ => none }
def EventBytesWrongFalsely : Prop := eventBytesRow.holds Try.pinned (OpenSpec.ofChange eventBytesWrong)

/-- 'promptbooklaw11.EventSorts': WHATEVER THE INPUT: true; the input reads as it did. -/
def eventSortsSpec : ChangeSpec := { name := "eventSorts", fn := fun _ => fun
  | [d1, d2, d3] => { results := [.lit (.bool true)], args := [d1, d2, d3] }
  | _ => none }
def eventSortsRow : OpenClaim := { program := "ytdjfpdndaobohaa", sum := "6e830f9ed063bed0a462e598e4b9c665858d36728d59796bcfddca618ca3ffb5", func := "promptbook/promptbooklaw11.EventSorts", spec := "eventSorts", inPlace := ["slices.overlaps[promptbook/api.Event]"], unfollowed := true, recurses := true, apart := false }
def EventSortsSaid : Prop := eventSortsRow.holds Try.pinned (OpenSpec.ofChange eventSortsSpec)

/-- ITS FALSE NEIGHBOUR: 'it returns false'. Refute it at one input. -/
def eventSortsWrong : ChangeSpec := { name := "eventSorts", fn := fun _ => fun
  | [d1, d2, d3] => { results := [.lit (.bool false)], args := [d1, d2, d3] }
  | _ => none }
def EventSortsWrongFalsely : Prop := eventSortsRow.holds Try.pinned (OpenSpec.ofChange eventSortsWrong)

/-- 'promptbooklaw11.EventApplies': WHATEVER THE INPUT: true; the input reads as it did. -/
def eventAppliesSpec : ChangeSpec := { name := "eventApplies", fn := fun _ => fun
  | [d1, d2, d3, d4] => { results := [.lit (.bool true)], args := [d1, d2, d3, d4] }
  | _ => none }
def eventAppliesRow : OpenClaim := { program := "ytdjfpdndaobohaa", sum := "6e830f9ed063bed0a462e598e4b9c665858d36728d59796bcfddca618ca3ffb5", func := "promptbook/promptbooklaw11.EventApplies", spec := "eventApplies", inPlace := ["slices.overlaps[promptbook/api.Event]"], unfollowed := true, recurses := true, apart := false }
def EventAppliesSaid : Prop := eventAppliesRow.holds Try.pinned (OpenSpec.ofChange eventAppliesSpec)

/-- ITS FALSE NEIGHBOUR: 'it returns false'. Refute it at one input. -/
def eventAppliesWrong : ChangeSpec := { name := "eventApplies", fn := fun _ => fun
  | [d1, d2, d3, d4] => { results := [.lit (.bool false)], args := [d1, d2, d3, d4] }
  | _ => none }
def EventAppliesWrongFalsely : Prop := eventAppliesRow.holds Try.pinned (OpenSpec.ofChange eventAppliesWrong)

/-- 'promptbooklaw11.EventDiffs': WHATEVER THE INPUT: true; the input reads as it did. -/
def eventDiffsSpec : ChangeSpec := { name := "eventDiffs", fn := fun _ => fun
  | [d1, d2] => { results := [.lit (.bool true)], args := [d1, d2] }
  | _ => none }
def eventDiffsRow : OpenClaim := { program := "ytdjfpdndaobohaa", sum := "6e830f9ed063bed0a462e598e4b9c665858d36728d59796bcfddca618ca3ffb5", func := "promptbook/promptbooklaw11.EventDiffs", spec := "eventDiffs", inPlace := ["slices.overlaps[promptbook/api.Event]"], unfollowed := true, recurses := true, apart := false }
def EventDiffsSaid : Prop := eventDiffsRow.holds Try.pinned (OpenSpec.ofChange eventDiffsSpec)

/-- ITS FALSE NEIGHBOUR: 'it returns false'. Refute it at one input. -/
def eventDiffsWrong : ChangeSpec := { name := "eventDiffs", fn := fun _ => fun
  | [d1, d2] => { results := [.lit (.bool false)], args := [d1, d2] }
  | _ => none }
def EventDiffsWrongFalsely : Prop := eventDiffsRow.holds Try.pinned (OpenSpec.ofChange eventDiffsWrong)

/- THE SECOND FORM. 'bulk': how many values and letters a reading holds, each counted each time it is reached (what is shared counts as often as it is met; a slice's spare places count too). A statement '..UptoSaid' is the law's where the arguments, and the package variables that the reading takes, are together of bulk at most 1048576: NARROWER than '..Said'. Prove '..Said' where nothing that the law and all that it calls make is longer than what came in: it says more and counts as full. Else prove '..UptoSaid'. A law counts once. -/
mutual
def uptoBulk {H : Type} : DataW H → Nat
  | .lit (.string bytes) => bytes.length + 1
  | .lit _ => 1
  | .nil => 1
  | .ptr d => uptoBulk d + 1
  | .slice elems spare => uptoBulkAll elems + uptoBulkAll spare + 1
  | .agg parts => uptoBulkAll parts + 1
  | .iface _ d => uptoBulk d + 1
  | .map entries => uptoBulkEntries entries + 1
  | .held _ => 1
def uptoBulkAll {H : Type} : List (DataW H) → Nat
  | [] => 0
  | d :: r => uptoBulk d + uptoBulkAll r
def uptoBulkEntries {H : Type} : List (Lit × DataW H) → Nat
  | [] => 0
  | x :: r => uptoBulkEntry x + uptoBulkEntries r
def uptoBulkEntry {H : Type} : Lit × DataW H → Nat
  | (.string bytes, d) => bytes.length + uptoBulk d + 1
  | (_, d) => uptoBulk d + 1
 end
def uptoSmall : (H : Type) → List (DataW H) → Bool := fun _ ds => decide (uptoBulkAll ds ≤ 1048576)
def OpenSpec.upto (s : _root_.Go.ChangeSpec) : _root_.Go.OpenSpec := { _root_.Go.OpenSpec.ofChange s with cond := some uptoSmall }

/-- 'promptbooklaw11.EventNil', WHERE WHAT IT READS IS OF BULK AT MOST 1048576: true; the input reads as it did. -/
def eventNilUptoRow : OpenClaim := { program := "ytdjfpdndaobohaa", sum := "6e830f9ed063bed0a462e598e4b9c665858d36728d59796bcfddca618ca3ffb5", func := "promptbook/promptbooklaw11.EventNil", spec := "eventNil", inPlace := ["slices.overlaps[promptbook/api.Event]"], unfollowed := true, recurses := true, apart := false, narrowed := true }
def EventNilUptoSaid : Prop := eventNilUptoRow.holds Try.pinned (OpenSpec.upto eventNilSpec)

/-- 'promptbooklaw11.EventPages', WHERE WHAT IT READS IS OF BULK AT MOST 1048576: true; the input reads as it did. -/
def eventPagesUptoRow : OpenClaim := { program := "ytdjfpdndaobohaa", sum := "6e830f9ed063bed0a462e598e4b9c665858d36728d59796bcfddca618ca3ffb5", func := "promptbook/promptbooklaw11.EventPages", spec := "eventPages", inPlace := ["slices.overlaps[promptbook/api.Event]"], unfollowed := true, recurses := true, apart := false, narrowed := true }
def EventPagesUptoSaid : Prop := eventPagesUptoRow.holds Try.pinned (OpenSpec.upto eventPagesSpec)

/-- 'promptbooklaw11.EventBytes', WHERE WHAT IT READS IS OF BULK AT MOST 1048576: true; the input reads as it did. -/
def eventBytesUptoRow : OpenClaim := { program := "ytdjfpdndaobohaa", sum := "6e830f9ed063bed0a462e598e4b9c665858d36728d59796bcfddca618ca3ffb5", func := "promptbook/promptbooklaw11.EventBytes", spec := "eventBytes", inPlace := ["slices.overlaps[promptbook/api.Event]"], unfollowed := true, recurses := true, apart := false, narrowed := true }
def EventBytesUptoSaid : Prop := eventBytesUptoRow.holds Try.pinned (OpenSpec.upto eventBytesSpec)

/-- 'promptbooklaw11.EventSorts', WHERE WHAT IT READS IS OF BULK AT MOST 1048576: true; the input reads as it did. -/
def eventSortsUptoRow : OpenClaim := { program := "ytdjfpdndaobohaa", sum := "6e830f9ed063bed0a462e598e4b9c665858d36728d59796bcfddca618ca3ffb5", func := "promptbook/promptbooklaw11.EventSorts", spec := "eventSorts", inPlace := ["slices.overlaps[promptbook/api.Event]"], unfollowed := true, recurses := true, apart := false, narrowed := true }
def EventSortsUptoSaid : Prop := eventSortsUptoRow.holds Try.pinned (OpenSpec.upto eventSortsSpec)

/-- 'promptbooklaw11.EventApplies', WHERE WHAT IT READS IS OF BULK AT MOST 1048576: true; the input reads as it did. -/
def eventAppliesUptoRow : OpenClaim := { program := "ytdjfpdndaobohaa", sum := "6e830f9ed063bed0a462e598e4b9c665858d36728d59796bcfddca618ca3ffb5", func := "promptbook/promptbooklaw11.EventApplies", spec := "eventApplies", inPlace := ["slices.overlaps[promptbook/api.Event]"], unfollowed := true, recurses := true, apart := false, narrowed := true }
def EventAppliesUptoSaid : Prop := eventAppliesUptoRow.holds Try.pinned (OpenSpec.upto eventAppliesSpec)

/-- 'promptbooklaw11.EventDiffs', WHERE WHAT IT READS IS OF BULK AT MOST 1048576: true; the input reads as it did. -/
def eventDiffsUptoRow : OpenClaim := { program := "ytdjfpdndaobohaa", sum := "6e830f9ed063bed0a462e598e4b9c665858d36728d59796bcfddca618ca3ffb5", func := "promptbook/promptbooklaw11.EventDiffs", spec := "eventDiffs", inPlace := ["slices.overlaps[promptbook/api.Event]"], unfollowed := true, recurses := true, apart := false, narrowed := true }
def EventDiffsUptoSaid : Prop := eventDiffsUptoRow.holds Try.pinned (OpenSpec.upto eventDiffsSpec)

end Rows
end Go.Proofs.Ytdjfpdndaobohaa
