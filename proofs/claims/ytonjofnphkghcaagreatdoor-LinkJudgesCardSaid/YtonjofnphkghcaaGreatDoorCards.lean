/-
  DERIVED. GIVEN WITH THE SEED: THE CARDS: each row of YtonjofnphkghcaaGreatDoorRows.lean that lists a variable, with what it lists TIED to the program's text (the seventh form; the later family's looks); each row that meets fmt, with fmt's text TOLD by the authors' own Lean function (tested against real Go, not proved from fmt's source: count such statements apart). THE CARD IS WHAT COUNTS. Prove the row's statement (the work); the ties are given (YtonjofnphkghcaaGreatDoorTie.lean); close each card by the builder's one call (the guide's Derived/Test/ToyasCard.lean, 'card_holds'). Laid BY PROGRAM, IN A SANDBOX (cutbox-door.mjs). By AI agents, Wed Nov 11 2026. No macro, syntax, notation, axiom, sorry.
-/
import Derived.Test.YtonjofnphkghcaaGreatDoorRows
import GoSem.ClaimSeven
namespace Go.Proofs.YtonjofnphkghcaaGreatDoor
namespace Rows

/-- THE TIED CARD OF 'portreevelaw18.LinkPlug'. -/
def linkPlugCard : Claim7 := { stood := { row := linkPlugRow, standIns := [], harness := (true, "c0a8c998641c89cad588d90fec08d04a5e256d923978a8ee92bd971b1ad12cd0"), looks := false }, kinds := [], alts := [], laidByText := true, laidKinds := [.listed, .data], laidTests := true, laidLooks := .later }
def LinkPlugCardSaid : Prop := Claim7.holds Tryz.pinned (.plain (OpenSpec.ofChange linkPlugSpec)) linkPlugCard

/-- THE TIED CARD OF 'portreevelaw18.LinkSays'. -/
def linkSaysCard : Claim7 := { stood := { row := linkSaysRow, standIns := [], harness := (true, "c0a8c998641c89cad588d90fec08d04a5e256d923978a8ee92bd971b1ad12cd0"), looks := false }, kinds := [], alts := [], laidByText := true, laidKinds := [.listed, .data], laidTests := true, laidLooks := .later }
def LinkSaysCardSaid : Prop := Claim7.holds Tryz.pinned (.plain (OpenSpec.ofChange linkSaysSpec)) linkSaysCard

/-- THE TIED CARD OF 'portreevelaw18.LinkJudged'. -/
def linkJudgedCard : Claim7 := { stood := { row := linkJudgedRow, standIns := [], harness := (true, "c0a8c998641c89cad588d90fec08d04a5e256d923978a8ee92bd971b1ad12cd0"), looks := false }, kinds := [], alts := [], laidByText := true, laidKinds := [.listed, .data], laidTests := true, laidLooks := .later }
def LinkJudgedCardSaid : Prop := Claim7.holds Tryz.pinned (.plain (OpenSpec.ofChange linkJudgedSpec)) linkJudgedCard

/-- THE TIED CARD OF 'portreevelaw14.NegoDoes'. -/
def negoDoesCard : Claim7 := { stood := { row := negoDoesRow, standIns := [], harness := (true, "c0a8c998641c89cad588d90fec08d04a5e256d923978a8ee92bd971b1ad12cd0"), looks := false }, kinds := [], alts := [], laidByText := true, laidKinds := [.listed, .data], laidTests := true, laidLooks := .later }
def NegoDoesCardSaid : Prop := Claim7.holds Tryz.pinned (.plain (OpenSpec.ofChange negoDoesSpec)) negoDoesCard

/-- THE TIED CARD OF 'portreevelaw18.LinkJudges'. -/
def linkJudgesCard : Claim7 := { stood := { row := linkJudgesRow, standIns := [], harness := (true, "c0a8c998641c89cad588d90fec08d04a5e256d923978a8ee92bd971b1ad12cd0"), looks := false }, kinds := [], alts := [], laidByText := true, laidKinds := [.listed, .data], laidTests := true, laidLooks := .later }
def LinkJudgesCardSaid : Prop := Claim7.holds Tryz.pinned (.plain (OpenSpec.ofChange linkJudgesSpec)) linkJudgesCard

/-- THE TIED CARD OF 'portreevelaw18.LinkSilent'. -/
def linkSilentCard : Claim7 := { stood := { row := linkSilentRow, standIns := [], harness := (true, "c0a8c998641c89cad588d90fec08d04a5e256d923978a8ee92bd971b1ad12cd0"), looks := false }, kinds := [], alts := [], laidByText := true, laidKinds := [.listed, .data], laidTests := true, laidLooks := .later }
def LinkSilentCardSaid : Prop := Claim7.holds Tryz.pinned (.plain (OpenSpec.ofChange linkSilentSpec)) linkSilentCard

/-- THE TIED CARD OF 'portreevelaw18.LinkPasses'. -/
def linkPassesCard : Claim7 := { stood := { row := linkPassesRow, standIns := [], harness := (true, "c0a8c998641c89cad588d90fec08d04a5e256d923978a8ee92bd971b1ad12cd0"), looks := false }, kinds := [], alts := [], laidByText := true, laidKinds := [.listed, .data], laidTests := true, laidLooks := .later }
def LinkPassesCardSaid : Prop := Claim7.holds Tryz.pinned (.plain (OpenSpec.ofChange linkPassesSpec)) linkPassesCard

/-- THE TIED CARD OF 'portreevelaw18.LinkCalm'. -/
def linkCalmCard : Claim7 := { stood := { row := linkCalmRow, standIns := [], harness := (true, "c0a8c998641c89cad588d90fec08d04a5e256d923978a8ee92bd971b1ad12cd0"), looks := false }, kinds := [], alts := [], laidByText := true, laidKinds := [.listed, .data], laidTests := true, laidLooks := .later }
def LinkCalmCardSaid : Prop := Claim7.holds Tryz.pinned (.plain (OpenSpec.ofChange linkCalmSpec)) linkCalmCard

/-- THE SECOND FORM's CARD OF 'portreevelaw18.LinkPlug'. -/
def linkPlugUptoCard : Claim7 := { stood := { row := linkPlugUptoRow, standIns := [], harness := (true, "c0a8c998641c89cad588d90fec08d04a5e256d923978a8ee92bd971b1ad12cd0"), looks := false }, kinds := [], alts := [], laidByText := true, laidKinds := [.listed, .data], laidTests := true, laidLooks := .later }
def LinkPlugUptoCardSaid : Prop := Claim7.holds Tryz.pinned (.plain (OpenSpec.upto linkPlugSpec)) linkPlugUptoCard

/-- THE SECOND FORM's CARD OF 'portreevelaw18.LinkSays'. -/
def linkSaysUptoCard : Claim7 := { stood := { row := linkSaysUptoRow, standIns := [], harness := (true, "c0a8c998641c89cad588d90fec08d04a5e256d923978a8ee92bd971b1ad12cd0"), looks := false }, kinds := [], alts := [], laidByText := true, laidKinds := [.listed, .data], laidTests := true, laidLooks := .later }
def LinkSaysUptoCardSaid : Prop := Claim7.holds Tryz.pinned (.plain (OpenSpec.upto linkSaysSpec)) linkSaysUptoCard

/-- THE SECOND FORM's CARD OF 'portreevelaw18.LinkJudged'. -/
def linkJudgedUptoCard : Claim7 := { stood := { row := linkJudgedUptoRow, standIns := [], harness := (true, "c0a8c998641c89cad588d90fec08d04a5e256d923978a8ee92bd971b1ad12cd0"), looks := false }, kinds := [], alts := [], laidByText := true, laidKinds := [.listed, .data], laidTests := true, laidLooks := .later }
def LinkJudgedUptoCardSaid : Prop := Claim7.holds Tryz.pinned (.plain (OpenSpec.upto linkJudgedSpec)) linkJudgedUptoCard

/-- THE SECOND FORM's CARD OF 'portreevelaw14.NegoDoes'. -/
def negoDoesUptoCard : Claim7 := { stood := { row := negoDoesUptoRow, standIns := [], harness := (true, "c0a8c998641c89cad588d90fec08d04a5e256d923978a8ee92bd971b1ad12cd0"), looks := false }, kinds := [], alts := [], laidByText := true, laidKinds := [.listed, .data], laidTests := true, laidLooks := .later }
def NegoDoesUptoCardSaid : Prop := Claim7.holds Tryz.pinned (.plain (OpenSpec.upto negoDoesSpec)) negoDoesUptoCard

/-- THE SECOND FORM's CARD OF 'portreevelaw18.LinkJudges'. -/
def linkJudgesUptoCard : Claim7 := { stood := { row := linkJudgesUptoRow, standIns := [], harness := (true, "c0a8c998641c89cad588d90fec08d04a5e256d923978a8ee92bd971b1ad12cd0"), looks := false }, kinds := [], alts := [], laidByText := true, laidKinds := [.listed, .data], laidTests := true, laidLooks := .later }
def LinkJudgesUptoCardSaid : Prop := Claim7.holds Tryz.pinned (.plain (OpenSpec.upto linkJudgesSpec)) linkJudgesUptoCard

/-- THE SECOND FORM's CARD OF 'portreevelaw18.LinkSilent'. -/
def linkSilentUptoCard : Claim7 := { stood := { row := linkSilentUptoRow, standIns := [], harness := (true, "c0a8c998641c89cad588d90fec08d04a5e256d923978a8ee92bd971b1ad12cd0"), looks := false }, kinds := [], alts := [], laidByText := true, laidKinds := [.listed, .data], laidTests := true, laidLooks := .later }
def LinkSilentUptoCardSaid : Prop := Claim7.holds Tryz.pinned (.plain (OpenSpec.upto linkSilentSpec)) linkSilentUptoCard

/-- THE SECOND FORM's CARD OF 'portreevelaw18.LinkPasses'. -/
def linkPassesUptoCard : Claim7 := { stood := { row := linkPassesUptoRow, standIns := [], harness := (true, "c0a8c998641c89cad588d90fec08d04a5e256d923978a8ee92bd971b1ad12cd0"), looks := false }, kinds := [], alts := [], laidByText := true, laidKinds := [.listed, .data], laidTests := true, laidLooks := .later }
def LinkPassesUptoCardSaid : Prop := Claim7.holds Tryz.pinned (.plain (OpenSpec.upto linkPassesSpec)) linkPassesUptoCard

/-- THE SECOND FORM's CARD OF 'portreevelaw18.LinkCalm'. -/
def linkCalmUptoCard : Claim7 := { stood := { row := linkCalmUptoRow, standIns := [], harness := (true, "c0a8c998641c89cad588d90fec08d04a5e256d923978a8ee92bd971b1ad12cd0"), looks := false }, kinds := [], alts := [], laidByText := true, laidKinds := [.listed, .data], laidTests := true, laidLooks := .later }
def LinkCalmUptoCardSaid : Prop := Claim7.holds Tryz.pinned (.plain (OpenSpec.upto linkCalmSpec)) linkCalmUptoCard
end Rows
end Go.Proofs.YtonjofnphkghcaaGreatDoor
