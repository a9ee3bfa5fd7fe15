/-
  No cell of these rows narrows 'for every input' (looked for: loops, veiled, ifaces, maps, wideKeys, modest, calm, conditions, laid).
  DERIVED. THE GIVEN ROWS OF THIS SEAT. 6 by the template 'for every input the law returns true; each argument reads behind the call as it read before'; 0 by the template 'total and deterministic' (their statements: YtmeoignpknjdeaaTotals.lean).
  GIVEN WITH THE SEED: the statements are not yours to turn. If you find one false, say at which input.
  Laid BY PROGRAM, IN A SANDBOX (cutbox-rows.mjs): the forced cells as the released guide's own fill.sh prints them over the translation d225cd741f30765e… (all of the seat's roots in one cut). By AI agents, Wed Nov 11 2026. No macro, syntax, notation, axiom, sorry.
-/
import Derived.Test.YtmeoignpknjdeaaChecked
import GoSem.Claim
import GoSem.ClaimJoined
import GoSem.ClaimMapViews
import Derived.JoinedTies
import Derived.KernelRfl
namespace Go.Proofs.Ytmeoignpknjdeaa
/- THE CELL 'sum', in the pinned program and in every row, IS THE sha256 OF THE DUMP (.gsa) THAT YtmeoignpknjdeaaProg.lean LOADS. Nothing in Lean hashes anything: it is a label: what it is worth is what the hold of that sum in a sandbox is worth. -/
noncomputable def Try.pinned : Pinned := { name := "ytmeoignpknjdeaa", sum := "d225cd741f30765eef2f1b956996442e15e0d316589aab55759ea5eac486019a", checked := Try.checked }
namespace Rows
def none {H : Type} : Left H := { results := [], args := [] }

/-- 'portreevelaw04.BookDoes': WHATEVER THE INPUT: true; the input reads as it did. -/
def bookDoesSpec : ChangeSpec := { name := "bookDoes", fn := fun _ => fun
  | [d1, d2] => { results := [.lit (.bool true)], args := [d1, d2] }
  | _ => none }
def bookDoesRow : OpenClaim := { program := "ytmeoignpknjdeaa", sum := "d225cd741f30765eef2f1b956996442e15e0d316589aab55759ea5eac486019a", func := "portreeve/portreevelaw04.BookDoes", spec := "bookDoes", unfollowed := true, recurses := true, apart := false }
def BookDoesSaid : Prop := bookDoesRow.holds Try.pinned (OpenSpec.ofChange bookDoesSpec)

/-- ITS FALSE NEIGHBOUR: 'it returns false'. Refute it at one input. -/
def bookDoesWrong : ChangeSpec := { name := "bookDoes", fn := fun _ => fun
  | [d1, d2] => { results := [.lit (.bool false)], args := [d1, d2] }
  | _ => none }
def BookDoesWrongFalsely : Prop := bookDoesRow.holds Try.pinned (OpenSpec.ofChange bookDoesWrong)

/-- 'portreevelaw04.BookRight': WHATEVER THE INPUT: true; the input reads as it did. -/
def bookRightSpec : ChangeSpec := { name := "bookRight", fn := fun _ => fun
  | [d1, d2] => { results := [.lit (.bool true)], args := [d1, d2] }
  | _ => none }
def bookRightRow : OpenClaim := { program := "ytmeoignpknjdeaa", sum := "d225cd741f30765eef2f1b956996442e15e0d316589aab55759ea5eac486019a", func := "portreeve/portreevelaw04.BookRight", spec := "bookRight", unfollowed := true, recurses := true, apart := false }
def BookRightSaid : Prop := bookRightRow.holds Try.pinned (OpenSpec.ofChange bookRightSpec)

/-- ITS FALSE NEIGHBOUR: 'it returns false'. Refute it at one input. -/
def bookRightWrong : ChangeSpec := { name := "bookRight", fn := fun _ => fun
  | [d1, d2] => { results := [.lit (.bool false)], args := [d1, d2] }
  | _ => none }
def BookRightWrongFalsely : Prop := bookRightRow.holds Try.pinned (OpenSpec.ofChange bookRightWrong)

/-- 'portreevelaw04.BookCloses': WHATEVER THE INPUT: true; the input reads as it did. -/
def bookClosesSpec : ChangeSpec := { name := "bookCloses", fn := fun _ => fun
  | [d] => { results := [.lit (.bool true)], args := [d] }
  | _ => none }
def bookClosesRow : OpenClaim := { program := "ytmeoignpknjdeaa", sum := "d225cd741f30765eef2f1b956996442e15e0d316589aab55759ea5eac486019a", func := "portreeve/portreevelaw04.BookCloses", spec := "bookCloses", unfollowed := true, recurses := true, apart := false }
def BookClosesSaid : Prop := bookClosesRow.holds Try.pinned (OpenSpec.ofChange bookClosesSpec)

/-- ITS FALSE NEIGHBOUR: 'it returns false'. Refute it at one input. -/
def bookClosesWrong : ChangeSpec := { name := "bookCloses", fn := fun _ => fun
  | [d] => { results := [.lit (.bool false)], args := [d] }
  | _ => none }
def BookClosesWrongFalsely : Prop := bookClosesRow.holds Try.pinned (OpenSpec.ofChange bookClosesWrong)

/-- 'portreevelaw04.BookFree': WHATEVER THE INPUT: true; the input reads as it did. -/
def bookFreeSpec : ChangeSpec := { name := "bookFree", fn := fun _ => fun
  | [d1, d2] => { results := [.lit (.bool true)], args := [d1, d2] }
  | _ => none }
def bookFreeRow : OpenClaim := { program := "ytmeoignpknjdeaa", sum := "d225cd741f30765eef2f1b956996442e15e0d316589aab55759ea5eac486019a", func := "portreeve/portreevelaw04.BookFree", spec := "bookFree", unfollowed := true, recurses := true, apart := false }
def BookFreeSaid : Prop := bookFreeRow.holds Try.pinned (OpenSpec.ofChange bookFreeSpec)

/-- ITS FALSE NEIGHBOUR: 'it returns false'. Refute it at one input. -/
def bookFreeWrong : ChangeSpec := { name := "bookFree", fn := fun _ => fun
  | [d1, d2] => { results := [.lit (.bool false)], args := [d1, d2] }
  | _ => none }
def BookFreeWrongFalsely : Prop := bookFreeRow.holds Try.pinned (OpenSpec.ofChange bookFreeWrong)

/-- 'portreevelaw04.BookCounts': WHATEVER THE INPUT: true; the input reads as it did. -/
def bookCountsSpec : ChangeSpec := { name := "bookCounts", fn := fun _ => fun
  | [d1, d2] => { results := [.lit (.bool true)], args := [d1, d2] }
  | _ => none }
def bookCountsRow : OpenClaim := { program := "ytmeoignpknjdeaa", sum := "d225cd741f30765eef2f1b956996442e15e0d316589aab55759ea5eac486019a", func := "portreeve/portreevelaw04.BookCounts", spec := "bookCounts", unfollowed := true, recurses := true, apart := false }
def BookCountsSaid : Prop := bookCountsRow.holds Try.pinned (OpenSpec.ofChange bookCountsSpec)

/-- ITS FALSE NEIGHBOUR: 'it returns false'. Refute it at one input. -/
def bookCountsWrong : ChangeSpec := { name := "bookCounts", fn := fun _ => fun
  | [d1, d2] => { results := [.lit (.bool false)], args := [d1, d2] }
  | _ => none }
def BookCountsWrongFalsely : Prop := bookCountsRow.holds Try.pinned (OpenSpec.ofChange bookCountsWrong)

/-- 'portreevelaw04.BookTrims': WHATEVER THE INPUT: true; the input reads as it did. -/
def bookTrimsSpec : ChangeSpec := { name := "bookTrims", fn := fun _ => fun
  | [d] => { results := [.lit (.bool true)], args := [d] }
  | _ => none }
def bookTrimsRow : OpenClaim := { program := "ytmeoignpknjdeaa", sum := "d225cd741f30765eef2f1b956996442e15e0d316589aab55759ea5eac486019a", func := "portreeve/portreevelaw04.BookTrims", spec := "bookTrims", unfollowed := true, recurses := true, apart := false }
def BookTrimsSaid : Prop := bookTrimsRow.holds Try.pinned (OpenSpec.ofChange bookTrimsSpec)

/-- ITS FALSE NEIGHBOUR: 'it returns false'. Refute it at one input. -/
def bookTrimsWrong : ChangeSpec := { name := "bookTrims", fn := fun _ => fun
  | [d] => { results := [.lit (.bool false)], args := [d] }
  | _ => none }
def BookTrimsWrongFalsely : Prop := bookTrimsRow.holds Try.pinned (OpenSpec.ofChange bookTrimsWrong)

/- THE SECOND FORM. 'bulk': how many values and letters a reading holds, each counted each time it is reached (what is shared counts as often as it is met; a slice's spare places count too). A statement '..UptoSaid' is the law's where the arguments, and the package variables that the reading takes, are together of bulk at most 1048576: NARROWER than '..Said'. Prove '..Said' where nothing that the law and all that it calls make is longer than what came in: it says more and counts as full. Else prove '..UptoSaid'. A law counts once. -/
mutual
def uptoBulk {H : Type} : DataW H → Nat
  | .lit (.string bytes) => bytes.length + 1
  | .lit _ => 1
  | .nil => 1
  | .ptr d => uptoBulk d + 1
  | .slice elems spare => uptoBulkAll elems + uptoBulkAll spare + 1
  | .agg parts => uptoBulkAll parts + 1
  | .iface _ d => uptoBulk d + 1
  | .map entries => uptoBulkEntries entries + 1
  | .held _ => 1
def uptoBulkAll {H : Type} : List (DataW H) → Nat
  | [] => 0
  | d :: r => uptoBulk d + uptoBulkAll r
def uptoBulkEntries {H : Type} : List (Lit × DataW H) → Nat
  | [] => 0
  | x :: r => uptoBulkEntry x + uptoBulkEntries r
def uptoBulkEntry {H : Type} : Lit × DataW H → Nat
  | (.string bytes, d) => bytes.length + uptoBulk d + 1
  | (_, d) => uptoBulk d + 1
 end
def uptoSmall : (H : Type) → List (DataW H) → Bool := fun _ ds => decide (uptoBulkAll ds ≤ 1048576)
def OpenSpec.upto (s : _root_.Go.ChangeSpec) : _root_.Go.OpenSpec := { _root_.Go.OpenSpec.ofChange s with cond := some uptoSmall }

/-- 'portreevelaw04.BookDoes', WHERE WHAT IT READS IS OF BULK AT MOST 1048576: true; the input reads as it did. -/
def bookDoesUptoRow : OpenClaim := { program := "ytmeoignpknjdeaa", sum := "d225cd741f30765eef2f1b956996442e15e0d316589aab55759ea5eac486019a", func := "portreeve/portreevelaw04.BookDoes", spec := "bookDoes", unfollowed := true, recurses := true, apart := false, narrowed := true }
def BookDoesUptoSaid : Prop := bookDoesUptoRow.holds Try.pinned (OpenSpec.upto bookDoesSpec)

/-- 'portreevelaw04.BookRight', WHERE WHAT IT READS IS OF BULK AT MOST 1048576: true; the input reads as it did. -/
def bookRightUptoRow : OpenClaim := { program := "ytmeoignpknjdeaa", sum := "d225cd741f30765eef2f1b956996442e15e0d316589aab55759ea5eac486019a", func := "portreeve/portreevelaw04.BookRight", spec := "bookRight", unfollowed := true, recurses := true, apart := false, narrowed := true }
def BookRightUptoSaid : Prop := bookRightUptoRow.holds Try.pinned (OpenSpec.upto bookRightSpec)

/-- 'portreevelaw04.BookCloses', WHERE WHAT IT READS IS OF BULK AT MOST 1048576: true; the input reads as it did. -/
def bookClosesUptoRow : OpenClaim := { program := "ytmeoignpknjdeaa", sum := "d225cd741f30765eef2f1b956996442e15e0d316589aab55759ea5eac486019a", func := "portreeve/portreevelaw04.BookCloses", spec := "bookCloses", unfollowed := true, recurses := true, apart := false, narrowed := true }
def BookClosesUptoSaid : Prop := bookClosesUptoRow.holds Try.pinned (OpenSpec.upto bookClosesSpec)

/-- 'portreevelaw04.BookFree', WHERE WHAT IT READS IS OF BULK AT MOST 1048576: true; the input reads as it did. -/
def bookFreeUptoRow : OpenClaim := { program := "ytmeoignpknjdeaa", sum := "d225cd741f30765eef2f1b956996442e15e0d316589aab55759ea5eac486019a", func := "portreeve/portreevelaw04.BookFree", spec := "bookFree", unfollowed := true, recurses := true, apart := false, narrowed := true }
def BookFreeUptoSaid : Prop := bookFreeUptoRow.holds Try.pinned (OpenSpec.upto bookFreeSpec)

/-- 'portreevelaw04.BookCounts', WHERE WHAT IT READS IS OF BULK AT MOST 1048576: true; the input reads as it did. -/
def bookCountsUptoRow : OpenClaim := { program := "ytmeoignpknjdeaa", sum := "d225cd741f30765eef2f1b956996442e15e0d316589aab55759ea5eac486019a", func := "portreeve/portreevelaw04.BookCounts", spec := "bookCounts", unfollowed := true, recurses := true, apart := false, narrowed := true }
def BookCountsUptoSaid : Prop := bookCountsUptoRow.holds Try.pinned (OpenSpec.upto bookCountsSpec)

/-- 'portreevelaw04.BookTrims', WHERE WHAT IT READS IS OF BULK AT MOST 1048576: true; the input reads as it did. -/
def bookTrimsUptoRow : OpenClaim := { program := "ytmeoignpknjdeaa", sum := "d225cd741f30765eef2f1b956996442e15e0d316589aab55759ea5eac486019a", func := "portreeve/portreevelaw04.BookTrims", spec := "bookTrims", unfollowed := true, recurses := true, apart := false, narrowed := true }
def BookTrimsUptoSaid : Prop := bookTrimsUptoRow.holds Try.pinned (OpenSpec.upto bookTrimsSpec)

end Rows
end Go.Proofs.Ytmeoignpknjdeaa
