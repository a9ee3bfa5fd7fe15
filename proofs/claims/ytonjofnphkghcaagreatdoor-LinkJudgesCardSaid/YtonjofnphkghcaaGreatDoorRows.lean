/-
  NARROWER THAN 'FOR EVERY INPUT', by the rows' own cells (each row's printed sentence says how): LinkPlug: laid · LinkSays: laid · LinkJudged: laid · NegoDoes: laid · LinkJudges: laid · LinkSilent: laid · LinkPasses: laid · LinkCalm: laid.
  DERIVED. THE GIVEN ROWS OF THIS SEAT. 8 by the template 'for every input the law returns true; each argument reads behind the call as it read before'; 0 by the template 'total and deterministic' (their statements: YtonjofnphkghcaaGreatDoorTotals.lean).
  GIVEN WITH THE SEED: the statements are not yours to turn. If you find one false, say at which input.
  Laid BY PROGRAM, IN A SANDBOX (cutbox-rows.mjs): the forced cells as the released guide's own fill.sh prints them over the translation a7b2e928d4a16362… (all of the seat's roots in one cut). By AI agents, Wed Nov 11 2026. No macro, syntax, notation, axiom, sorry.
-/
import Derived.Test.YtonjofnphkghcaaGreatDoorChecked
import GoSem.Claim
import GoSem.ClaimJoined
import GoSem.ClaimMapViews
import Derived.JoinedTies
import Derived.KernelRfl
namespace Go.Proofs.YtonjofnphkghcaaGreatDoor
/- THE CELL 'sum', in the pinned program and in every row, IS THE sha256 OF THE DUMP (.gsa) THAT YtonjofnphkghcaaGreatDoorProg.lean LOADS. Nothing in Lean hashes anything: it is a label: what it is worth is what the hold of that sum in a sandbox is worth. -/
noncomputable def Tryz.pinned : Pinned := { name := "ytonjofnphkghcaagreatdoor", sum := "a7b2e928d4a16362a567ad64213651bf747b0e9a17751c6471c4ef3c33a88d27", checked := Tryz.checked }
namespace Rows
def none {H : Type} : Left H := { results := [], args := [] }

/- WHAT THE LISTED PACKAGE-LEVEL VARIABLES READ AS WHEN THE CALL BEGINS. Each datum BY PROGRAM (the guide's laid-datum.mjs) off the statement by which the dump's own 'gosem.cut.vars' lays the variable. In a bare row this is a premise. The card (YtonjofnphkghcaaGreatDoorCards.lean) ties it to the program's text. -/
def laid_unicode_White_Space {H : Type} : DataW H := .ptr (.agg [.slice [.agg [.lit (.int .u16 9), .lit (.int .u16 13), .lit (.int .u16 1)], .agg [.lit (.int .u16 32), .lit (.int .u16 133), .lit (.int .u16 101)], .agg [.lit (.int .u16 160), .lit (.int .u16 5760), .lit (.int .u16 5600)], .agg [.lit (.int .u16 8192), .lit (.int .u16 8202), .lit (.int .u16 1)], .agg [.lit (.int .u16 8232), .lit (.int .u16 8233), .lit (.int .u16 1)], .agg [.lit (.int .u16 8239), .lit (.int .u16 8287), .lit (.int .u16 48)], .agg [.lit (.int .u16 12288), .lit (.int .u16 12288), .lit (.int .u16 1)]] [], .nil, .lit (.int .i64 2)])
def laid_strings_asciiSpace {H : Type} : DataW H := .agg [.lit (.int .u8 0), .lit (.int .u8 0), .lit (.int .u8 0), .lit (.int .u8 0), .lit (.int .u8 0), .lit (.int .u8 0), .lit (.int .u8 0), .lit (.int .u8 0), .lit (.int .u8 0), .lit (.int .u8 1), .lit (.int .u8 1), .lit (.int .u8 1), .lit (.int .u8 1), .lit (.int .u8 1), .lit (.int .u8 0), .lit (.int .u8 0), .lit (.int .u8 0), .lit (.int .u8 0), .lit (.int .u8 0), .lit (.int .u8 0), .lit (.int .u8 0), .lit (.int .u8 0), .lit (.int .u8 0), .lit (.int .u8 0), .lit (.int .u8 0), .lit (.int .u8 0), .lit (.int .u8 0), .lit (.int .u8 0), .lit (.int .u8 0), .lit (.int .u8 0), .lit (.int .u8 0), .lit (.int .u8 0), .lit (.int .u8 1), .lit (.int .u8 0), .lit (.int .u8 0), .lit (.int .u8 0), .lit (.int .u8 0), .lit (.int .u8 0), .lit (.int .u8 0), .lit (.int .u8 0), .lit (.int .u8 0), .lit (.int .u8 0), .lit (.int .u8 0), .lit (.int .u8 0), .lit (.int .u8 0), .lit (.int .u8 0), .lit (.int .u8 0), .lit (.int .u8 0), .lit (.int .u8 0), .lit (.int .u8 0), .lit (.int .u8 0), .lit (.int .u8 0), .lit (.int .u8 0), .lit (.int .u8 0), .lit (.int .u8 0), .lit (.int .u8 0), .lit (.int .u8 0), .lit (.int .u8 0), .lit (.int .u8 0), .lit (.int .u8 0), .lit (.int .u8 0), .lit (.int .u8 0), .lit (.int .u8 0), .lit (.int .u8 0), .lit (.int .u8 0), .lit (.int .u8 0), .lit (.int .u8 0), .lit (.int .u8 0), .lit (.int .u8 0), .lit (.int .u8 0), .lit (.int .u8 0), .lit (.int .u8 0), .lit (.int .u8 0), .lit (.int .u8 0), .lit (.int .u8 0), .lit (.int .u8 0), .lit (.int .u8 0), .lit (.int .u8 0), .lit (.int .u8 0), .lit (.int .u8 0), .lit (.int .u8 0), .lit (.int .u8 0), .lit (.int .u8 0), .lit (.int .u8 0), .lit (.int .u8 0), .lit (.int .u8 0), .lit (.int .u8 0), .lit (.int .u8 0), .lit (.int .u8 0), .lit (.int .u8 0), .lit (.int .u8 0), .lit (.int .u8 0), .lit (.int .u8 0), .lit (.int .u8 0), .lit (.int .u8 0), .lit (.int .u8 0), .lit (.int .u8 0), .lit (.int .u8 0), .lit (.int .u8 0), .lit (.int .u8 0), .lit (.int .u8 0), .lit (.int .u8 0), .lit (.int .u8 0), .lit (.int .u8 0), .lit (.int .u8 0), .lit (.int .u8 0), .lit (.int .u8 0), .lit (.int .u8 0), .lit (.int .u8 0), .lit (.int .u8 0), .lit (.int .u8 0), .lit (.int .u8 0), .lit (.int .u8 0), .lit (.int .u8 0), .lit (.int .u8 0), .lit (.int .u8 0), .lit (.int .u8 0), .lit (.int .u8 0), .lit (.int .u8 0), .lit (.int .u8 0), .lit (.int .u8 0), .lit (.int .u8 0), .lit (.int .u8 0), .lit (.int .u8 0), .lit (.int .u8 0), .lit (.int .u8 0), .lit (.int .u8 0), .lit (.int .u8 0), .lit (.int .u8 0), .lit (.int .u8 0), .lit (.int .u8 0), .lit (.int .u8 0), .lit (.int .u8 0), .lit (.int .u8 0), .lit (.int .u8 0), .lit (.int .u8 0), .lit (.int .u8 0), .lit (.int .u8 0), .lit (.int .u8 0), .lit (.int .u8 0), .lit (.int .u8 0), .lit (.int .u8 0), .lit (.int .u8 0), .lit (.int .u8 0), .lit (.int .u8 0), .lit (.int .u8 0), .lit (.int .u8 0), .lit (.int .u8 0), .lit (.int .u8 0), .lit (.int .u8 0), .lit (.int .u8 0), .lit (.int .u8 0), .lit (.int .u8 0), .lit (.int .u8 0), .lit (.int .u8 0), .lit (.int .u8 0), .lit (.int .u8 0), .lit (.int .u8 0), .lit (.int .u8 0), .lit (.int .u8 0), .lit (.int .u8 0), .lit (.int .u8 0), .lit (.int .u8 0), .lit (.int .u8 0), .lit (.int .u8 0), .lit (.int .u8 0), .lit (.int .u8 0), .lit (.int .u8 0), .lit (.int .u8 0), .lit (.int .u8 0), .lit (.int .u8 0), .lit (.int .u8 0), .lit (.int .u8 0), .lit (.int .u8 0), .lit (.int .u8 0), .lit (.int .u8 0), .lit (.int .u8 0), .lit (.int .u8 0), .lit (.int .u8 0), .lit (.int .u8 0), .lit (.int .u8 0), .lit (.int .u8 0), .lit (.int .u8 0), .lit (.int .u8 0), .lit (.int .u8 0), .lit (.int .u8 0), .lit (.int .u8 0), .lit (.int .u8 0), .lit (.int .u8 0), .lit (.int .u8 0), .lit (.int .u8 0), .lit (.int .u8 0), .lit (.int .u8 0), .lit (.int .u8 0), .lit (.int .u8 0), .lit (.int .u8 0), .lit (.int .u8 0), .lit (.int .u8 0), .lit (.int .u8 0), .lit (.int .u8 0), .lit (.int .u8 0), .lit (.int .u8 0), .lit (.int .u8 0), .lit (.int .u8 0), .lit (.int .u8 0), .lit (.int .u8 0), .lit (.int .u8 0), .lit (.int .u8 0), .lit (.int .u8 0), .lit (.int .u8 0), .lit (.int .u8 0), .lit (.int .u8 0), .lit (.int .u8 0), .lit (.int .u8 0), .lit (.int .u8 0), .lit (.int .u8 0), .lit (.int .u8 0), .lit (.int .u8 0), .lit (.int .u8 0), .lit (.int .u8 0), .lit (.int .u8 0), .lit (.int .u8 0), .lit (.int .u8 0), .lit (.int .u8 0), .lit (.int .u8 0), .lit (.int .u8 0), .lit (.int .u8 0), .lit (.int .u8 0), .lit (.int .u8 0), .lit (.int .u8 0), .lit (.int .u8 0), .lit (.int .u8 0), .lit (.int .u8 0), .lit (.int .u8 0), .lit (.int .u8 0), .lit (.int .u8 0), .lit (.int .u8 0), .lit (.int .u8 0), .lit (.int .u8 0), .lit (.int .u8 0), .lit (.int .u8 0), .lit (.int .u8 0), .lit (.int .u8 0), .lit (.int .u8 0), .lit (.int .u8 0), .lit (.int .u8 0), .lit (.int .u8 0), .lit (.int .u8 0), .lit (.int .u8 0), .lit (.int .u8 0), .lit (.int .u8 0), .lit (.int .u8 0), .lit (.int .u8 0), .lit (.int .u8 0), .lit (.int .u8 0), .lit (.int .u8 0)]

/-- 'portreevelaw18.LinkPlug': WHATEVER THE INPUT: true; the input reads as it did. -/
def linkPlugSpec : ChangeSpec := { name := "linkPlug", fn := fun _ => fun
  | [d1, d2, d3] => { results := [.lit (.bool true)], args := [d1, d2, d3] }
  | _ => none }
def linkPlugRow : OpenClaim := { program := "ytonjofnphkghcaagreatdoor", sum := "a7b2e928d4a16362a567ad64213651bf747b0e9a17751c6471c4ef3c33a88d27", func := "portreeve/portreevelaw18.LinkPlug", spec := "linkPlug", unfollowed := true, recurses := true, named := ["strings.asciiSpace", "unicode.White_Space"], plainKeys := false, apart := false, laid := [("unicode.White_Space", laid_unicode_White_Space), ("strings.asciiSpace", laid_strings_asciiSpace)] }
def LinkPlugSaid : Prop := linkPlugRow.holds Tryz.pinned (OpenSpec.ofChange linkPlugSpec)

/-- ITS FALSE NEIGHBOUR: 'it returns false'. Refute it at one input. -/
def linkPlugWrong : ChangeSpec := { name := "linkPlug", fn := fun _ => fun
  | [d1, d2, d3] => { results := [.lit (.bool false)], args := [d1, d2, d3] }
  | _ => none }
def LinkPlugWrongFalsely : Prop := linkPlugRow.holds Tryz.pinned (OpenSpec.ofChange linkPlugWrong)

/-- 'portreevelaw18.LinkSays': WHATEVER THE INPUT: true; the input reads as it did. -/
def linkSaysSpec : ChangeSpec := { name := "linkSays", fn := fun _ => fun
  | [d1, d2] => { results := [.lit (.bool true)], args := [d1, d2] }
  | _ => none }
def linkSaysRow : OpenClaim := { program := "ytonjofnphkghcaagreatdoor", sum := "a7b2e928d4a16362a567ad64213651bf747b0e9a17751c6471c4ef3c33a88d27", func := "portreeve/portreevelaw18.LinkSays", spec := "linkSays", unfollowed := true, recurses := true, named := ["strings.asciiSpace", "unicode.White_Space"], plainKeys := false, apart := false, laid := [("unicode.White_Space", laid_unicode_White_Space), ("strings.asciiSpace", laid_strings_asciiSpace)] }
def LinkSaysSaid : Prop := linkSaysRow.holds Tryz.pinned (OpenSpec.ofChange linkSaysSpec)

/-- ITS FALSE NEIGHBOUR: 'it returns false'. Refute it at one input. -/
def linkSaysWrong : ChangeSpec := { name := "linkSays", fn := fun _ => fun
  | [d1, d2] => { results := [.lit (.bool false)], args := [d1, d2] }
  | _ => none }
def LinkSaysWrongFalsely : Prop := linkSaysRow.holds Tryz.pinned (OpenSpec.ofChange linkSaysWrong)

/-- 'portreevelaw18.LinkJudged': WHATEVER THE INPUT: true; the input reads as it did. -/
def linkJudgedSpec : ChangeSpec := { name := "linkJudged", fn := fun _ => fun
  | [d] => { results := [.lit (.bool true)], args := [d] }
  | _ => none }
def linkJudgedRow : OpenClaim := { program := "ytonjofnphkghcaagreatdoor", sum := "a7b2e928d4a16362a567ad64213651bf747b0e9a17751c6471c4ef3c33a88d27", func := "portreeve/portreevelaw18.LinkJudged", spec := "linkJudged", unfollowed := true, recurses := true, named := ["strings.asciiSpace", "unicode.White_Space"], plainKeys := false, apart := false, laid := [("unicode.White_Space", laid_unicode_White_Space), ("strings.asciiSpace", laid_strings_asciiSpace)] }
def LinkJudgedSaid : Prop := linkJudgedRow.holds Tryz.pinned (OpenSpec.ofChange linkJudgedSpec)

/-- ITS FALSE NEIGHBOUR: 'it returns false'. Refute it at one input. -/
def linkJudgedWrong : ChangeSpec := { name := "linkJudged", fn := fun _ => fun
  | [d] => { results := [.lit (.bool false)], args := [d] }
  | _ => none }
def LinkJudgedWrongFalsely : Prop := linkJudgedRow.holds Tryz.pinned (OpenSpec.ofChange linkJudgedWrong)

/-- 'portreevelaw14.NegoDoes': WHATEVER THE INPUT: true; the input reads as it did. -/
def negoDoesSpec : ChangeSpec := { name := "negoDoes", fn := fun _ => fun
  | [d1, d2, d3] => { results := [.lit (.bool true)], args := [d1, d2, d3] }
  | _ => none }
def negoDoesRow : OpenClaim := { program := "ytonjofnphkghcaagreatdoor", sum := "a7b2e928d4a16362a567ad64213651bf747b0e9a17751c6471c4ef3c33a88d27", func := "portreeve/portreevelaw14.NegoDoes", spec := "negoDoes", unfollowed := true, recurses := true, named := ["strings.asciiSpace", "unicode.White_Space"], plainKeys := false, apart := false, laid := [("unicode.White_Space", laid_unicode_White_Space), ("strings.asciiSpace", laid_strings_asciiSpace)] }
def NegoDoesSaid : Prop := negoDoesRow.holds Tryz.pinned (OpenSpec.ofChange negoDoesSpec)

/-- ITS FALSE NEIGHBOUR: 'it returns false'. Refute it at one input. -/
def negoDoesWrong : ChangeSpec := { name := "negoDoes", fn := fun _ => fun
  | [d1, d2, d3] => { results := [.lit (.bool false)], args := [d1, d2, d3] }
  | _ => none }
def NegoDoesWrongFalsely : Prop := negoDoesRow.holds Tryz.pinned (OpenSpec.ofChange negoDoesWrong)

/-- 'portreevelaw18.LinkJudges': WHATEVER THE INPUT: true; the input reads as it did. -/
def linkJudgesSpec : ChangeSpec := { name := "linkJudges", fn := fun _ => fun
  | [d] => { results := [.lit (.bool true)], args := [d] }
  | _ => none }
def linkJudgesRow : OpenClaim := { program := "ytonjofnphkghcaagreatdoor", sum := "a7b2e928d4a16362a567ad64213651bf747b0e9a17751c6471c4ef3c33a88d27", func := "portreeve/portreevelaw18.LinkJudges", spec := "linkJudges", unfollowed := true, recurses := true, named := ["strings.asciiSpace", "unicode.White_Space"], plainKeys := false, apart := false, laid := [("unicode.White_Space", laid_unicode_White_Space), ("strings.asciiSpace", laid_strings_asciiSpace)] }
def LinkJudgesSaid : Prop := linkJudgesRow.holds Tryz.pinned (OpenSpec.ofChange linkJudgesSpec)

/-- ITS FALSE NEIGHBOUR: 'it returns false'. Refute it at one input. -/
def linkJudgesWrong : ChangeSpec := { name := "linkJudges", fn := fun _ => fun
  | [d] => { results := [.lit (.bool false)], args := [d] }
  | _ => none }
def LinkJudgesWrongFalsely : Prop := linkJudgesRow.holds Tryz.pinned (OpenSpec.ofChange linkJudgesWrong)

/-- 'portreevelaw18.LinkSilent': WHATEVER THE INPUT: true; the input reads as it did. -/
def linkSilentSpec : ChangeSpec := { name := "linkSilent", fn := fun _ => fun
  | [d1, d2] => { results := [.lit (.bool true)], args := [d1, d2] }
  | _ => none }
def linkSilentRow : OpenClaim := { program := "ytonjofnphkghcaagreatdoor", sum := "a7b2e928d4a16362a567ad64213651bf747b0e9a17751c6471c4ef3c33a88d27", func := "portreeve/portreevelaw18.LinkSilent", spec := "linkSilent", unfollowed := true, recurses := true, named := ["strings.asciiSpace", "unicode.White_Space"], plainKeys := false, apart := false, laid := [("unicode.White_Space", laid_unicode_White_Space), ("strings.asciiSpace", laid_strings_asciiSpace)] }
def LinkSilentSaid : Prop := linkSilentRow.holds Tryz.pinned (OpenSpec.ofChange linkSilentSpec)

/-- ITS FALSE NEIGHBOUR: 'it returns false'. Refute it at one input. -/
def linkSilentWrong : ChangeSpec := { name := "linkSilent", fn := fun _ => fun
  | [d1, d2] => { results := [.lit (.bool false)], args := [d1, d2] }
  | _ => none }
def LinkSilentWrongFalsely : Prop := linkSilentRow.holds Tryz.pinned (OpenSpec.ofChange linkSilentWrong)

/-- 'portreevelaw18.LinkPasses': WHATEVER THE INPUT: true; the input reads as it did. -/
def linkPassesSpec : ChangeSpec := { name := "linkPasses", fn := fun _ => fun
  | [d1, d2] => { results := [.lit (.bool true)], args := [d1, d2] }
  | _ => none }
def linkPassesRow : OpenClaim := { program := "ytonjofnphkghcaagreatdoor", sum := "a7b2e928d4a16362a567ad64213651bf747b0e9a17751c6471c4ef3c33a88d27", func := "portreeve/portreevelaw18.LinkPasses", spec := "linkPasses", unfollowed := true, recurses := true, named := ["strings.asciiSpace", "unicode.White_Space"], plainKeys := false, apart := false, laid := [("unicode.White_Space", laid_unicode_White_Space), ("strings.asciiSpace", laid_strings_asciiSpace)] }
def LinkPassesSaid : Prop := linkPassesRow.holds Tryz.pinned (OpenSpec.ofChange linkPassesSpec)

/-- ITS FALSE NEIGHBOUR: 'it returns false'. Refute it at one input. -/
def linkPassesWrong : ChangeSpec := { name := "linkPasses", fn := fun _ => fun
  | [d1, d2] => { results := [.lit (.bool false)], args := [d1, d2] }
  | _ => none }
def LinkPassesWrongFalsely : Prop := linkPassesRow.holds Tryz.pinned (OpenSpec.ofChange linkPassesWrong)

/-- 'portreevelaw18.LinkCalm': WHATEVER THE INPUT: true; the input reads as it did. -/
def linkCalmSpec : ChangeSpec := { name := "linkCalm", fn := fun _ => fun
  | [d] => { results := [.lit (.bool true)], args := [d] }
  | _ => none }
def linkCalmRow : OpenClaim := { program := "ytonjofnphkghcaagreatdoor", sum := "a7b2e928d4a16362a567ad64213651bf747b0e9a17751c6471c4ef3c33a88d27", func := "portreeve/portreevelaw18.LinkCalm", spec := "linkCalm", unfollowed := true, recurses := true, named := ["strings.asciiSpace", "unicode.White_Space"], plainKeys := false, apart := false, laid := [("unicode.White_Space", laid_unicode_White_Space), ("strings.asciiSpace", laid_strings_asciiSpace)] }
def LinkCalmSaid : Prop := linkCalmRow.holds Tryz.pinned (OpenSpec.ofChange linkCalmSpec)

/-- ITS FALSE NEIGHBOUR: 'it returns false'. Refute it at one input. -/
def linkCalmWrong : ChangeSpec := { name := "linkCalm", fn := fun _ => fun
  | [d] => { results := [.lit (.bool false)], args := [d] }
  | _ => none }
def LinkCalmWrongFalsely : Prop := linkCalmRow.holds Tryz.pinned (OpenSpec.ofChange linkCalmWrong)

/- THE SECOND FORM. 'bulk': how many values and letters a reading holds, each counted each time it is reached (what is shared counts as often as it is met; a slice's spare places count too). A statement '..UptoSaid' is the law's where the arguments, and the package variables that the reading takes, are together of bulk at most 1048576: NARROWER than '..Said'. Prove '..Said' where nothing that the law and all that it calls make is longer than what came in: it says more and counts as full. Else prove '..UptoSaid'. A law counts once. -/
mutual
def uptoBulk {H : Type} : DataW H → Nat
  | .lit (.string bytes) => bytes.length + 1
  | .lit _ => 1
  | .nil => 1
  | .ptr d => uptoBulk d + 1
  | .slice elems spare => uptoBulkAll elems + uptoBulkAll spare + 1
  | .agg parts => uptoBulkAll parts + 1
  | .iface _ d => uptoBulk d + 1
  | .map entries => uptoBulkEntries entries + 1
  | .held _ => 1
def uptoBulkAll {H : Type} : List (DataW H) → Nat
  | [] => 0
  | d :: r => uptoBulk d + uptoBulkAll r
def uptoBulkEntries {H : Type} : List (Lit × DataW H) → Nat
  | [] => 0
  | x :: r => uptoBulkEntry x + uptoBulkEntries r
def uptoBulkEntry {H : Type} : Lit × DataW H → Nat
  | (.string bytes, d) => bytes.length + uptoBulk d + 1
  | (_, d) => uptoBulk d + 1
 end
def uptoSmall : (H : Type) → List (DataW H) → Bool := fun _ ds => decide (uptoBulkAll ds ≤ 1048576)
def OpenSpec.upto (s : _root_.Go.ChangeSpec) : _root_.Go.OpenSpec := { _root_.Go.OpenSpec.ofChange s with cond := some uptoSmall }

/-- 'portreevelaw18.LinkPlug', WHERE WHAT IT READS IS OF BULK AT MOST 1048576: true; the input reads as it did. -/
def linkPlugUptoRow : OpenClaim := { program := "ytonjofnphkghcaagreatdoor", sum := "a7b2e928d4a16362a567ad64213651bf747b0e9a17751c6471c4ef3c33a88d27", func := "portreeve/portreevelaw18.LinkPlug", spec := "linkPlug", unfollowed := true, recurses := true, named := ["strings.asciiSpace", "unicode.White_Space"], plainKeys := false, apart := false, laid := [("unicode.White_Space", laid_unicode_White_Space), ("strings.asciiSpace", laid_strings_asciiSpace)], narrowed := true }
def LinkPlugUptoSaid : Prop := linkPlugUptoRow.holds Tryz.pinned (OpenSpec.upto linkPlugSpec)

/-- 'portreevelaw18.LinkSays', WHERE WHAT IT READS IS OF BULK AT MOST 1048576: true; the input reads as it did. -/
def linkSaysUptoRow : OpenClaim := { program := "ytonjofnphkghcaagreatdoor", sum := "a7b2e928d4a16362a567ad64213651bf747b0e9a17751c6471c4ef3c33a88d27", func := "portreeve/portreevelaw18.LinkSays", spec := "linkSays", unfollowed := true, recurses := true, named := ["strings.asciiSpace", "unicode.White_Space"], plainKeys := false, apart := false, laid := [("unicode.White_Space", laid_unicode_White_Space), ("strings.asciiSpace", laid_strings_asciiSpace)], narrowed := true }
def LinkSaysUptoSaid : Prop := linkSaysUptoRow.holds Tryz.pinned (OpenSpec.upto linkSaysSpec)

/-- 'portreevelaw18.LinkJudged', WHERE WHAT IT READS IS OF BULK AT MOST 1048576: true; the input reads as it did. -/
def linkJudgedUptoRow : OpenClaim := { program := "ytonjofnphkghcaagreatdoor", sum := "a7b2e928d4a16362a567ad64213651bf747b0e9a17751c6471c4ef3c33a88d27", func := "portreeve/portreevelaw18.LinkJudged", spec := "linkJudged", unfollowed := true, recurses := true, named := ["strings.asciiSpace", "unicode.White_Space"], plainKeys := false, apart := false, laid := [("unicode.White_Space", laid_unicode_White_Space), ("strings.asciiSpace", laid_strings_asciiSpace)], narrowed := true }
def LinkJudgedUptoSaid : Prop := linkJudgedUptoRow.holds Tryz.pinned (OpenSpec.upto linkJudgedSpec)

/-- 'portreevelaw14.NegoDoes', WHERE WHAT IT READS IS OF BULK AT MOST 1048576: true; the input reads as it did. -/
def negoDoesUptoRow : OpenClaim := { program := "ytonjofnphkghcaagreatdoor", sum := "a7b2e928d4a16362a567ad64213651bf747b0e9a17751c6471c4ef3c33a88d27", func := "portreeve/portreevelaw14.NegoDoes", spec := "negoDoes", unfollowed := true, recurses := true, named := ["strings.asciiSpace", "unicode.White_Space"], plainKeys := false, apart := false, laid := [("unicode.White_Space", laid_unicode_White_Space), ("strings.asciiSpace", laid_strings_asciiSpace)], narrowed := true }
def NegoDoesUptoSaid : Prop := negoDoesUptoRow.holds Tryz.pinned (OpenSpec.upto negoDoesSpec)

/-- 'portreevelaw18.LinkJudges', WHERE WHAT IT READS IS OF BULK AT MOST 1048576: true; the input reads as it did. -/
def linkJudgesUptoRow : OpenClaim := { program := "ytonjofnphkghcaagreatdoor", sum := "a7b2e928d4a16362a567ad64213651bf747b0e9a17751c6471c4ef3c33a88d27", func := "portreeve/portreevelaw18.LinkJudges", spec := "linkJudges", unfollowed := true, recurses := true, named := ["strings.asciiSpace", "unicode.White_Space"], plainKeys := false, apart := false, laid := [("unicode.White_Space", laid_unicode_White_Space), ("strings.asciiSpace", laid_strings_asciiSpace)], narrowed := true }
def LinkJudgesUptoSaid : Prop := linkJudgesUptoRow.holds Tryz.pinned (OpenSpec.upto linkJudgesSpec)

/-- 'portreevelaw18.LinkSilent', WHERE WHAT IT READS IS OF BULK AT MOST 1048576: true; the input reads as it did. -/
def linkSilentUptoRow : OpenClaim := { program := "ytonjofnphkghcaagreatdoor", sum := "a7b2e928d4a16362a567ad64213651bf747b0e9a17751c6471c4ef3c33a88d27", func := "portreeve/portreevelaw18.LinkSilent", spec := "linkSilent", unfollowed := true, recurses := true, named := ["strings.asciiSpace", "unicode.White_Space"], plainKeys := false, apart := false, laid := [("unicode.White_Space", laid_unicode_White_Space), ("strings.asciiSpace", laid_strings_asciiSpace)], narrowed := true }
def LinkSilentUptoSaid : Prop := linkSilentUptoRow.holds Tryz.pinned (OpenSpec.upto linkSilentSpec)

/-- 'portreevelaw18.LinkPasses', WHERE WHAT IT READS IS OF BULK AT MOST 1048576: true; the input reads as it did. -/
def linkPassesUptoRow : OpenClaim := { program := "ytonjofnphkghcaagreatdoor", sum := "a7b2e928d4a16362a567ad64213651bf747b0e9a17751c6471c4ef3c33a88d27", func := "portreeve/portreevelaw18.LinkPasses", spec := "linkPasses", unfollowed := true, recurses := true, named := ["strings.asciiSpace", "unicode.White_Space"], plainKeys := false, apart := false, laid := [("unicode.White_Space", laid_unicode_White_Space), ("strings.asciiSpace", laid_strings_asciiSpace)], narrowed := true }
def LinkPassesUptoSaid : Prop := linkPassesUptoRow.holds Tryz.pinned (OpenSpec.upto linkPassesSpec)

/-- 'portreevelaw18.LinkCalm', WHERE WHAT IT READS IS OF BULK AT MOST 1048576: true; the input reads as it did. -/
def linkCalmUptoRow : OpenClaim := { program := "ytonjofnphkghcaagreatdoor", sum := "a7b2e928d4a16362a567ad64213651bf747b0e9a17751c6471c4ef3c33a88d27", func := "portreeve/portreevelaw18.LinkCalm", spec := "linkCalm", unfollowed := true, recurses := true, named := ["strings.asciiSpace", "unicode.White_Space"], plainKeys := false, apart := false, laid := [("unicode.White_Space", laid_unicode_White_Space), ("strings.asciiSpace", laid_strings_asciiSpace)], narrowed := true }
def LinkCalmUptoSaid : Prop := linkCalmUptoRow.holds Tryz.pinned (OpenSpec.upto linkCalmSpec)

end Rows
end Go.Proofs.YtonjofnphkghcaaGreatDoor
