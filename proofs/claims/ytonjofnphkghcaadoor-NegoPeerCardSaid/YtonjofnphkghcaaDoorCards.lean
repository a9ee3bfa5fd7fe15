/-
  DERIVED. GIVEN WITH THE SEED: THE CARDS: each row of YtonjofnphkghcaaDoorRows.lean that lists a variable, with what it lists TIED to the program's text (the seventh form; the later family's looks); each row that meets fmt, with fmt's text TOLD by the authors' own Lean function (tested against real Go, not proved from fmt's source: count such statements apart). THE CARD IS WHAT COUNTS. Prove the row's statement (the work); the ties are given (YtonjofnphkghcaaDoorTie.lean); close each card by the builder's one call (the guide's Derived/Test/ToyasCard.lean, 'card_holds'). Laid BY PROGRAM, IN A SANDBOX (cutbox-door.mjs). By AI agents, Wed Nov 11 2026. No macro, syntax, notation, axiom, sorry.
-/
import Derived.Test.YtonjofnphkghcaaDoorRows
import GoSem.ClaimSeven
namespace Go.Proofs.YtonjofnphkghcaaDoor
namespace Rows

/-- THE TIED CARD OF 'portreevelaw14.NegoRight'. -/
def negoRightCard : Claim7 := { stood := { row := negoRightRow, standIns := [], harness := (true, "17513860bfd2e1a7c8681d4397f10b1ef564f10324ec62577607b0678db139ca"), looks := false }, kinds := [], alts := [], laidByText := true, laidKinds := [.listed, .data], laidTests := true, laidLooks := .later }
def NegoRightCardSaid : Prop := Claim7.holds Tryd.pinned (.plain (OpenSpec.ofChange negoRightSpec)) negoRightCard

/-- THE TIED CARD OF 'portreevelaw14.NegoAcks'. -/
def negoAcksCard : Claim7 := { stood := { row := negoAcksRow, standIns := [], harness := (true, "17513860bfd2e1a7c8681d4397f10b1ef564f10324ec62577607b0678db139ca"), looks := false }, kinds := [], alts := [], laidByText := true, laidKinds := [.listed, .data], laidTests := true, laidLooks := .later }
def NegoAcksCardSaid : Prop := Claim7.holds Tryd.pinned (.plain (OpenSpec.ofChange negoAcksSpec)) negoAcksCard

/-- THE TIED CARD OF 'portreevelaw14.NegoPeer'. -/
def negoPeerCard : Claim7 := { stood := { row := negoPeerRow, standIns := [], harness := (true, "17513860bfd2e1a7c8681d4397f10b1ef564f10324ec62577607b0678db139ca"), looks := false }, kinds := [], alts := [], laidByText := true, laidKinds := [.listed, .data], laidTests := true, laidLooks := .later }
def NegoPeerCardSaid : Prop := Claim7.holds Tryd.pinned (.plain (OpenSpec.ofChange negoPeerSpec)) negoPeerCard

/-- THE TIED CARD OF 'portreevelaw14.NegoCodes'. -/
def negoCodesCard : Claim7 := { stood := { row := negoCodesRow, standIns := [], harness := (true, "17513860bfd2e1a7c8681d4397f10b1ef564f10324ec62577607b0678db139ca"), looks := false }, kinds := [], alts := [], laidByText := true, laidKinds := [.listed, .data], laidTests := true, laidLooks := .later }
def NegoCodesCardSaid : Prop := Claim7.holds Tryd.pinned (.plain (OpenSpec.ofChange negoCodesSpec)) negoCodesCard

/-- THE TIED CARD OF 'portreevelaw14.NegoEchoes'. -/
def negoEchoesCard : Claim7 := { stood := { row := negoEchoesRow, standIns := [], harness := (true, "17513860bfd2e1a7c8681d4397f10b1ef564f10324ec62577607b0678db139ca"), looks := false }, kinds := [], alts := [], laidByText := true, laidKinds := [.listed, .data], laidTests := true, laidLooks := .later }
def NegoEchoesCardSaid : Prop := Claim7.holds Tryd.pinned (.plain (OpenSpec.ofChange negoEchoesSpec)) negoEchoesCard

/-- THE SECOND FORM's CARD OF 'portreevelaw14.NegoRight'. -/
def negoRightUptoCard : Claim7 := { stood := { row := negoRightUptoRow, standIns := [], harness := (true, "17513860bfd2e1a7c8681d4397f10b1ef564f10324ec62577607b0678db139ca"), looks := false }, kinds := [], alts := [], laidByText := true, laidKinds := [.listed, .data], laidTests := true, laidLooks := .later }
def NegoRightUptoCardSaid : Prop := Claim7.holds Tryd.pinned (.plain (OpenSpec.upto negoRightSpec)) negoRightUptoCard

/-- THE SECOND FORM's CARD OF 'portreevelaw14.NegoAcks'. -/
def negoAcksUptoCard : Claim7 := { stood := { row := negoAcksUptoRow, standIns := [], harness := (true, "17513860bfd2e1a7c8681d4397f10b1ef564f10324ec62577607b0678db139ca"), looks := false }, kinds := [], alts := [], laidByText := true, laidKinds := [.listed, .data], laidTests := true, laidLooks := .later }
def NegoAcksUptoCardSaid : Prop := Claim7.holds Tryd.pinned (.plain (OpenSpec.upto negoAcksSpec)) negoAcksUptoCard

/-- THE SECOND FORM's CARD OF 'portreevelaw14.NegoPeer'. -/
def negoPeerUptoCard : Claim7 := { stood := { row := negoPeerUptoRow, standIns := [], harness := (true, "17513860bfd2e1a7c8681d4397f10b1ef564f10324ec62577607b0678db139ca"), looks := false }, kinds := [], alts := [], laidByText := true, laidKinds := [.listed, .data], laidTests := true, laidLooks := .later }
def NegoPeerUptoCardSaid : Prop := Claim7.holds Tryd.pinned (.plain (OpenSpec.upto negoPeerSpec)) negoPeerUptoCard

/-- THE SECOND FORM's CARD OF 'portreevelaw14.NegoCodes'. -/
def negoCodesUptoCard : Claim7 := { stood := { row := negoCodesUptoRow, standIns := [], harness := (true, "17513860bfd2e1a7c8681d4397f10b1ef564f10324ec62577607b0678db139ca"), looks := false }, kinds := [], alts := [], laidByText := true, laidKinds := [.listed, .data], laidTests := true, laidLooks := .later }
def NegoCodesUptoCardSaid : Prop := Claim7.holds Tryd.pinned (.plain (OpenSpec.upto negoCodesSpec)) negoCodesUptoCard

/-- THE SECOND FORM's CARD OF 'portreevelaw14.NegoEchoes'. -/
def negoEchoesUptoCard : Claim7 := { stood := { row := negoEchoesUptoRow, standIns := [], harness := (true, "17513860bfd2e1a7c8681d4397f10b1ef564f10324ec62577607b0678db139ca"), looks := false }, kinds := [], alts := [], laidByText := true, laidKinds := [.listed, .data], laidTests := true, laidLooks := .later }
def NegoEchoesUptoCardSaid : Prop := Claim7.holds Tryd.pinned (.plain (OpenSpec.upto negoEchoesSpec)) negoEchoesUptoCard
end Rows
end Go.Proofs.YtonjofnphkghcaaDoor
