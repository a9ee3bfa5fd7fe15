/-
  No cell of these rows narrows 'for every input' (looked for: loops, veiled, ifaces, maps, wideKeys, modest, calm, conditions, laid).
  DERIVED. THE GIVEN ROWS OF THIS SEAT. 10 by the template 'for every input the law returns true; each argument reads behind the call as it read before'; 0 by the template 'total and deterministic' (their statements: YtbaomchgafpphaaTotals.lean).
  GIVEN WITH THE SEED: the statements are not yours to turn. If you find one false, say at which input.
  Laid BY PROGRAM, IN A SANDBOX (cutbox-rows.mjs): the forced cells as the released guide's own fill.sh prints them over the translation 59568f9edfc3aaaa… (all of the seat's roots in one cut). By AI agents, Wed Nov 11 2026. No macro, syntax, notation, axiom, sorry.
-/
import Derived.Test.YtbaomchgafpphaaChecked
import GoSem.Claim
import GoSem.ClaimJoined
import GoSem.ClaimMapViews
import Derived.JoinedTies
import Derived.KernelRfl
namespace Go.Proofs.Ytbaomchgafpphaa
/- THE CELL 'sum', in the pinned program and in every row, IS THE sha256 OF THE DUMP (.gsa) THAT YtbaomchgafpphaaProg.lean LOADS. Nothing in Lean hashes anything: it is a label: what it is worth is what the hold of that sum in a sandbox is worth. -/
noncomputable def Try.pinned : Pinned := { name := "ytbaomchgafpphaa", sum := "59568f9edfc3aaaab28318164bb0733d25548c0128ab92bf2aba8cc13f217dc6", checked := Try.checked }
namespace Rows
def none {H : Type} : Left H := { results := [], args := [] }

/-- 'portreevelaw10.OptsBack': WHATEVER THE INPUT: true; the input reads as it did. -/
def optsBackSpec : ChangeSpec := { name := "optsBack", fn := fun _ => fun
  | [d1, d2, d3] => { results := [.lit (.bool true)], args := [d1, d2, d3] }
  | _ => none }
def optsBackRow : OpenClaim := { program := "ytbaomchgafpphaa", sum := "59568f9edfc3aaaab28318164bb0733d25548c0128ab92bf2aba8cc13f217dc6", func := "portreeve/portreevelaw10.OptsBack", spec := "optsBack", unfollowed := true, recurses := true, apart := false }
def OptsBackSaid : Prop := optsBackRow.holds Try.pinned (OpenSpec.ofChange optsBackSpec)

/-- ITS FALSE NEIGHBOUR: 'it returns false'. Refute it at one input. -/
def optsBackWrong : ChangeSpec := { name := "optsBack", fn := fun _ => fun
  | [d1, d2, d3] => { results := [.lit (.bool false)], args := [d1, d2, d3] }
  | _ => none }
def OptsBackWrongFalsely : Prop := optsBackRow.holds Try.pinned (OpenSpec.ofChange optsBackWrong)

/-- 'portreevelaw10.OptsJoined': WHATEVER THE INPUT: true; the input reads as it did. -/
def optsJoinedSpec : ChangeSpec := { name := "optsJoined", fn := fun _ => fun
  | [d1, d2] => { results := [.lit (.bool true)], args := [d1, d2] }
  | _ => none }
def optsJoinedRow : OpenClaim := { program := "ytbaomchgafpphaa", sum := "59568f9edfc3aaaab28318164bb0733d25548c0128ab92bf2aba8cc13f217dc6", func := "portreeve/portreevelaw10.OptsJoined", spec := "optsJoined", unfollowed := true, recurses := true, apart := false }
def OptsJoinedSaid : Prop := optsJoinedRow.holds Try.pinned (OpenSpec.ofChange optsJoinedSpec)

/-- ITS FALSE NEIGHBOUR: 'it returns false'. Refute it at one input. -/
def optsJoinedWrong : ChangeSpec := { name := "optsJoined", fn := fun _ => fun
  | [d1, d2] => { results := [.lit (.bool false)], args := [d1, d2] }
  | _ => none }
def OptsJoinedWrongFalsely : Prop := optsJoinedRow.holds Try.pinned (OpenSpec.ofChange optsJoinedWrong)

/-- 'portreevelaw10.OptsDrops': WHATEVER THE INPUT: true; the input reads as it did. -/
def optsDropsSpec : ChangeSpec := { name := "optsDrops", fn := fun _ => fun
  | [d] => { results := [.lit (.bool true)], args := [d] }
  | _ => none }
def optsDropsRow : OpenClaim := { program := "ytbaomchgafpphaa", sum := "59568f9edfc3aaaab28318164bb0733d25548c0128ab92bf2aba8cc13f217dc6", func := "portreeve/portreevelaw10.OptsDrops", spec := "optsDrops", unfollowed := true, recurses := true, apart := false }
def OptsDropsSaid : Prop := optsDropsRow.holds Try.pinned (OpenSpec.ofChange optsDropsSpec)

/-- ITS FALSE NEIGHBOUR: 'it returns false'. Refute it at one input. -/
def optsDropsWrong : ChangeSpec := { name := "optsDrops", fn := fun _ => fun
  | [d] => { results := [.lit (.bool false)], args := [d] }
  | _ => none }
def OptsDropsWrongFalsely : Prop := optsDropsRow.holds Try.pinned (OpenSpec.ofChange optsDropsWrong)

/-- 'portreevelaw10.OptsNumbers': WHATEVER THE INPUT: true; the input reads as it did. -/
def optsNumbersSpec : ChangeSpec := { name := "optsNumbers", fn := fun _ => fun
  | [d1, d2, d3] => { results := [.lit (.bool true)], args := [d1, d2, d3] }
  | _ => none }
def optsNumbersRow : OpenClaim := { program := "ytbaomchgafpphaa", sum := "59568f9edfc3aaaab28318164bb0733d25548c0128ab92bf2aba8cc13f217dc6", func := "portreeve/portreevelaw10.OptsNumbers", spec := "optsNumbers", unfollowed := true, recurses := true, apart := false }
def OptsNumbersSaid : Prop := optsNumbersRow.holds Try.pinned (OpenSpec.ofChange optsNumbersSpec)

/-- ITS FALSE NEIGHBOUR: 'it returns false'. Refute it at one input. -/
def optsNumbersWrong : ChangeSpec := { name := "optsNumbers", fn := fun _ => fun
  | [d1, d2, d3] => { results := [.lit (.bool false)], args := [d1, d2, d3] }
  | _ => none }
def OptsNumbersWrongFalsely : Prop := optsNumbersRow.holds Try.pinned (OpenSpec.ofChange optsNumbersWrong)

/-- 'portreevelaw13.RulesAnswer': WHATEVER THE INPUT: true; the input reads as it did. -/
def rulesAnswerSpec : ChangeSpec := { name := "rulesAnswer", fn := fun _ => fun
  | [d1, d2, d3] => { results := [.lit (.bool true)], args := [d1, d2, d3] }
  | _ => none }
def rulesAnswerRow : OpenClaim := { program := "ytbaomchgafpphaa", sum := "59568f9edfc3aaaab28318164bb0733d25548c0128ab92bf2aba8cc13f217dc6", func := "portreeve/portreevelaw13.RulesAnswer", spec := "rulesAnswer", unfollowed := true, recurses := true, apart := false }
def RulesAnswerSaid : Prop := rulesAnswerRow.holds Try.pinned (OpenSpec.ofChange rulesAnswerSpec)

/-- ITS FALSE NEIGHBOUR: 'it returns false'. Refute it at one input. -/
def rulesAnswerWrong : ChangeSpec := { name := "rulesAnswer", fn := fun _ => fun
  | [d1, d2, d3] => { results := [.lit (.bool false)], args := [d1, d2, d3] }
  | _ => none }
def RulesAnswerWrongFalsely : Prop := rulesAnswerRow.holds Try.pinned (OpenSpec.ofChange rulesAnswerWrong)

/-- 'portreevelaw13.RulesAgree': WHATEVER THE INPUT: true; the input reads as it did. -/
def rulesAgreeSpec : ChangeSpec := { name := "rulesAgree", fn := fun _ => fun
  | [d1, d2, d3] => { results := [.lit (.bool true)], args := [d1, d2, d3] }
  | _ => none }
def rulesAgreeRow : OpenClaim := { program := "ytbaomchgafpphaa", sum := "59568f9edfc3aaaab28318164bb0733d25548c0128ab92bf2aba8cc13f217dc6", func := "portreeve/portreevelaw13.RulesAgree", spec := "rulesAgree", unfollowed := true, recurses := true, apart := false }
def RulesAgreeSaid : Prop := rulesAgreeRow.holds Try.pinned (OpenSpec.ofChange rulesAgreeSpec)

/-- ITS FALSE NEIGHBOUR: 'it returns false'. Refute it at one input. -/
def rulesAgreeWrong : ChangeSpec := { name := "rulesAgree", fn := fun _ => fun
  | [d1, d2, d3] => { results := [.lit (.bool false)], args := [d1, d2, d3] }
  | _ => none }
def RulesAgreeWrongFalsely : Prop := rulesAgreeRow.holds Try.pinned (OpenSpec.ofChange rulesAgreeWrong)

/-- 'portreevelaw13.RulesAddress': WHATEVER THE INPUT: true; the input reads as it did. -/
def rulesAddressSpec : ChangeSpec := { name := "rulesAddress", fn := fun _ => fun
  | [d1, d2, d3] => { results := [.lit (.bool true)], args := [d1, d2, d3] }
  | _ => none }
def rulesAddressRow : OpenClaim := { program := "ytbaomchgafpphaa", sum := "59568f9edfc3aaaab28318164bb0733d25548c0128ab92bf2aba8cc13f217dc6", func := "portreeve/portreevelaw13.RulesAddress", spec := "rulesAddress", unfollowed := true, recurses := true, apart := false }
def RulesAddressSaid : Prop := rulesAddressRow.holds Try.pinned (OpenSpec.ofChange rulesAddressSpec)

/-- ITS FALSE NEIGHBOUR: 'it returns false'. Refute it at one input. -/
def rulesAddressWrong : ChangeSpec := { name := "rulesAddress", fn := fun _ => fun
  | [d1, d2, d3] => { results := [.lit (.bool false)], args := [d1, d2, d3] }
  | _ => none }
def RulesAddressWrongFalsely : Prop := rulesAddressRow.holds Try.pinned (OpenSpec.ofChange rulesAddressWrong)

/-- 'portreevelaw13.RulesLearn': WHATEVER THE INPUT: true; the input reads as it did. -/
def rulesLearnSpec : ChangeSpec := { name := "rulesLearn", fn := fun _ => fun
  | [d] => { results := [.lit (.bool true)], args := [d] }
  | _ => none }
def rulesLearnRow : OpenClaim := { program := "ytbaomchgafpphaa", sum := "59568f9edfc3aaaab28318164bb0733d25548c0128ab92bf2aba8cc13f217dc6", func := "portreeve/portreevelaw13.RulesLearn", spec := "rulesLearn", unfollowed := true, recurses := true, apart := false }
def RulesLearnSaid : Prop := rulesLearnRow.holds Try.pinned (OpenSpec.ofChange rulesLearnSpec)

/-- ITS FALSE NEIGHBOUR: 'it returns false'. Refute it at one input. -/
def rulesLearnWrong : ChangeSpec := { name := "rulesLearn", fn := fun _ => fun
  | [d] => { results := [.lit (.bool false)], args := [d] }
  | _ => none }
def RulesLearnWrongFalsely : Prop := rulesLearnRow.holds Try.pinned (OpenSpec.ofChange rulesLearnWrong)

/-- 'portreevelaw13.RulesAsk': WHATEVER THE INPUT: true; the input reads as it did. -/
def rulesAskSpec : ChangeSpec := { name := "rulesAsk", fn := fun _ => fun
  | [d1, d2] => { results := [.lit (.bool true)], args := [d1, d2] }
  | _ => none }
def rulesAskRow : OpenClaim := { program := "ytbaomchgafpphaa", sum := "59568f9edfc3aaaab28318164bb0733d25548c0128ab92bf2aba8cc13f217dc6", func := "portreeve/portreevelaw13.RulesAsk", spec := "rulesAsk", unfollowed := true, recurses := true, apart := false }
def RulesAskSaid : Prop := rulesAskRow.holds Try.pinned (OpenSpec.ofChange rulesAskSpec)

/-- ITS FALSE NEIGHBOUR: 'it returns false'. Refute it at one input. -/
def rulesAskWrong : ChangeSpec := { name := "rulesAsk", fn := fun _ => fun
  | [d1, d2] => { results := [.lit (.bool false)], args := [d1, d2] }
  | _ => none }
def RulesAskWrongFalsely : Prop := rulesAskRow.holds Try.pinned (OpenSpec.ofChange rulesAskWrong)

/-- 'portreevelaw13.RulesStays': WHATEVER THE INPUT: true; the input reads as it did. -/
def rulesStaysSpec : ChangeSpec := { name := "rulesStays", fn := fun _ => fun
  | [d1, d2, d3] => { results := [.lit (.bool true)], args := [d1, d2, d3] }
  | _ => none }
def rulesStaysRow : OpenClaim := { program := "ytbaomchgafpphaa", sum := "59568f9edfc3aaaab28318164bb0733d25548c0128ab92bf2aba8cc13f217dc6", func := "portreeve/portreevelaw13.RulesStays", spec := "rulesStays", unfollowed := true, recurses := true, apart := false }
def RulesStaysSaid : Prop := rulesStaysRow.holds Try.pinned (OpenSpec.ofChange rulesStaysSpec)

/-- ITS FALSE NEIGHBOUR: 'it returns false'. Refute it at one input. -/
def rulesStaysWrong : ChangeSpec := { name := "rulesStays", fn := fun _ => fun
  | [d1, d2, d3] => { results := [.lit (.bool false)], args := [d1, d2, d3] }
  | _ => none }
def RulesStaysWrongFalsely : Prop := rulesStaysRow.holds Try.pinned (OpenSpec.ofChange rulesStaysWrong)

/- THE SECOND FORM. 'bulk': how many values and letters a reading holds, each counted each time it is reached (what is shared counts as often as it is met; a slice's spare places count too). A statement '..UptoSaid' is the law's where the arguments, and the package variables that the reading takes, are together of bulk at most 1048576: NARROWER than '..Said'. Prove '..Said' where nothing that the law and all that it calls make is longer than what came in: it says more and counts as full. Else prove '..UptoSaid'. A law counts once. -/
mutual
def uptoBulk {H : Type} : DataW H → Nat
  | .lit (.string bytes) => bytes.length + 1
  | .lit _ => 1
  | .nil => 1
  | .ptr d => uptoBulk d + 1
  | .slice elems spare => uptoBulkAll elems + uptoBulkAll spare + 1
  | .agg parts => uptoBulkAll parts + 1
  | .iface _ d => uptoBulk d + 1
  | .map entries => uptoBulkEntries entries + 1
  | .held _ => 1
def uptoBulkAll {H : Type} : List (DataW H) → Nat
  | [] => 0
  | d :: r => uptoBulk d + uptoBulkAll r
def uptoBulkEntries {H : Type} : List (Lit × DataW H) → Nat
  | [] => 0
  | x :: r => uptoBulkEntry x + uptoBulkEntries r
def uptoBulkEntry {H : Type} : Lit × DataW H → Nat
  | (.string bytes, d) => bytes.length + uptoBulk d + 1
  | (_, d) => uptoBulk d + 1
 end
def uptoSmall : (H : Type) → List (DataW H) → Bool := fun _ ds => decide (uptoBulkAll ds ≤ 1048576)
def OpenSpec.upto (s : _root_.Go.ChangeSpec) : _root_.Go.OpenSpec := { _root_.Go.OpenSpec.ofChange s with cond := some uptoSmall }

/-- 'portreevelaw10.OptsBack', WHERE WHAT IT READS IS OF BULK AT MOST 1048576: true; the input reads as it did. -/
def optsBackUptoRow : OpenClaim := { program := "ytbaomchgafpphaa", sum := "59568f9edfc3aaaab28318164bb0733d25548c0128ab92bf2aba8cc13f217dc6", func := "portreeve/portreevelaw10.OptsBack", spec := "optsBack", unfollowed := true, recurses := true, apart := false, narrowed := true }
def OptsBackUptoSaid : Prop := optsBackUptoRow.holds Try.pinned (OpenSpec.upto optsBackSpec)

/-- 'portreevelaw10.OptsJoined', WHERE WHAT IT READS IS OF BULK AT MOST 1048576: true; the input reads as it did. -/
def optsJoinedUptoRow : OpenClaim := { program := "ytbaomchgafpphaa", sum := "59568f9edfc3aaaab28318164bb0733d25548c0128ab92bf2aba8cc13f217dc6", func := "portreeve/portreevelaw10.OptsJoined", spec := "optsJoined", unfollowed := true, recurses := true, apart := false, narrowed := true }
def OptsJoinedUptoSaid : Prop := optsJoinedUptoRow.holds Try.pinned (OpenSpec.upto optsJoinedSpec)

/-- 'portreevelaw10.OptsDrops', WHERE WHAT IT READS IS OF BULK AT MOST 1048576: true; the input reads as it did. -/
def optsDropsUptoRow : OpenClaim := { program := "ytbaomchgafpphaa", sum := "59568f9edfc3aaaab28318164bb0733d25548c0128ab92bf2aba8cc13f217dc6", func := "portreeve/portreevelaw10.OptsDrops", spec := "optsDrops", unfollowed := true, recurses := true, apart := false, narrowed := true }
def OptsDropsUptoSaid : Prop := optsDropsUptoRow.holds Try.pinned (OpenSpec.upto optsDropsSpec)

/-- 'portreevelaw10.OptsNumbers', WHERE WHAT IT READS IS OF BULK AT MOST 1048576: true; the input reads as it did. -/
def optsNumbersUptoRow : OpenClaim := { program := "ytbaomchgafpphaa", sum := "59568f9edfc3aaaab28318164bb0733d25548c0128ab92bf2aba8cc13f217dc6", func := "portreeve/portreevelaw10.OptsNumbers", spec := "optsNumbers", unfollowed := true, recurses := true, apart := false, narrowed := true }
def OptsNumbersUptoSaid : Prop := optsNumbersUptoRow.holds Try.pinned (OpenSpec.upto optsNumbersSpec)

/-- 'portreevelaw13.RulesAnswer', WHERE WHAT IT READS IS OF BULK AT MOST 1048576: true; the input reads as it did. -/
def rulesAnswerUptoRow : OpenClaim := { program := "ytbaomchgafpphaa", sum := "59568f9edfc3aaaab28318164bb0733d25548c0128ab92bf2aba8cc13f217dc6", func := "portreeve/portreevelaw13.RulesAnswer", spec := "rulesAnswer", unfollowed := true, recurses := true, apart := false, narrowed := true }
def RulesAnswerUptoSaid : Prop := rulesAnswerUptoRow.holds Try.pinned (OpenSpec.upto rulesAnswerSpec)

/-- 'portreevelaw13.RulesAgree', WHERE WHAT IT READS IS OF BULK AT MOST 1048576: true; the input reads as it did. -/
def rulesAgreeUptoRow : OpenClaim := { program := "ytbaomchgafpphaa", sum := "59568f9edfc3aaaab28318164bb0733d25548c0128ab92bf2aba8cc13f217dc6", func := "portreeve/portreevelaw13.RulesAgree", spec := "rulesAgree", unfollowed := true, recurses := true, apart := false, narrowed := true }
def RulesAgreeUptoSaid : Prop := rulesAgreeUptoRow.holds Try.pinned (OpenSpec.upto rulesAgreeSpec)

/-- 'portreevelaw13.RulesAddress', WHERE WHAT IT READS IS OF BULK AT MOST 1048576: true; the input reads as it did. -/
def rulesAddressUptoRow : OpenClaim := { program := "ytbaomchgafpphaa", sum := "59568f9edfc3aaaab28318164bb0733d25548c0128ab92bf2aba8cc13f217dc6", func := "portreeve/portreevelaw13.RulesAddress", spec := "rulesAddress", unfollowed := true, recurses := true, apart := false, narrowed := true }
def RulesAddressUptoSaid : Prop := rulesAddressUptoRow.holds Try.pinned (OpenSpec.upto rulesAddressSpec)

/-- 'portreevelaw13.RulesLearn', WHERE WHAT IT READS IS OF BULK AT MOST 1048576: true; the input reads as it did. -/
def rulesLearnUptoRow : OpenClaim := { program := "ytbaomchgafpphaa", sum := "59568f9edfc3aaaab28318164bb0733d25548c0128ab92bf2aba8cc13f217dc6", func := "portreeve/portreevelaw13.RulesLearn", spec := "rulesLearn", unfollowed := true, recurses := true, apart := false, narrowed := true }
def RulesLearnUptoSaid : Prop := rulesLearnUptoRow.holds Try.pinned (OpenSpec.upto rulesLearnSpec)

/-- 'portreevelaw13.RulesAsk', WHERE WHAT IT READS IS OF BULK AT MOST 1048576: true; the input reads as it did. -/
def rulesAskUptoRow : OpenClaim := { program := "ytbaomchgafpphaa", sum := "59568f9edfc3aaaab28318164bb0733d25548c0128ab92bf2aba8cc13f217dc6", func := "portreeve/portreevelaw13.RulesAsk", spec := "rulesAsk", unfollowed := true, recurses := true, apart := false, narrowed := true }
def RulesAskUptoSaid : Prop := rulesAskUptoRow.holds Try.pinned (OpenSpec.upto rulesAskSpec)

/-- 'portreevelaw13.RulesStays', WHERE WHAT IT READS IS OF BULK AT MOST 1048576: true; the input reads as it did. -/
def rulesStaysUptoRow : OpenClaim := { program := "ytbaomchgafpphaa", sum := "59568f9edfc3aaaab28318164bb0733d25548c0128ab92bf2aba8cc13f217dc6", func := "portreeve/portreevelaw13.RulesStays", spec := "rulesStays", unfollowed := true, recurses := true, apart := false, narrowed := true }
def RulesStaysUptoSaid : Prop := rulesStaysUptoRow.holds Try.pinned (OpenSpec.upto rulesStaysSpec)

end Rows
end Go.Proofs.Ytbaomchgafpphaa
