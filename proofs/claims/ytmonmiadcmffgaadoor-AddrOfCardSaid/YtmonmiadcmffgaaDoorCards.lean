/-
  DERIVED. GIVEN WITH THE SEED: THE CARDS: each row of YtmonmiadcmffgaaDoorRows.lean that lists a variable, with what it lists TIED to the program's text (the seventh form; the later family's looks); each row that meets fmt, with fmt's text TOLD by the authors' own Lean function (tested against real Go, not proved from fmt's source: count such statements apart). THE CARD IS WHAT COUNTS. Prove the row's statement (the work); the ties are given (YtmonmiadcmffgaaDoorTie.lean); close each card by the builder's one call (the guide's Derived/Test/ToyasCard.lean, 'card_holds'). Laid BY PROGRAM, IN A SANDBOX (cutbox-door.mjs). By AI agents, Wed Nov 11 2026. No macro, syntax, notation, axiom, sorry.
-/
import Derived.Test.YtmonmiadcmffgaaDoorRows
import GoSem.ClaimSeven
namespace Go.Proofs.YtmonmiadcmffgaaDoor
namespace Rows

/-- THE TIED CARD OF 'dustpanlaw03.ClassOf'. -/
def classOfCard : Claim7 := { stood := { row := classOfRow, standIns := [], harness := (true, "997b4d05e7429e4808af3d48770e9692a807598126ee560a248a20a21d82bcbf"), looks := false }, kinds := [], alts := [], laidByText := true, laidKinds := [.data], laidTests := true, laidLooks := .later }
def ClassOfCardSaid : Prop := Claim7.holds Tryd.pinned (.plain (OpenSpec.ofChange classOfSpec)) classOfCard

/-- THE TIED CARD OF 'dustpanlaw03.ClassLeast'. -/
def classLeastCard : Claim7 := { stood := { row := classLeastRow, standIns := [], harness := (true, "997b4d05e7429e4808af3d48770e9692a807598126ee560a248a20a21d82bcbf"), looks := false }, kinds := [], alts := [], laidByText := true, laidKinds := [.data], laidTests := true, laidLooks := .later }
def ClassLeastCardSaid : Prop := Claim7.holds Tryd.pinned (.plain (OpenSpec.ofChange classLeastSpec)) classLeastCard

/-- THE TIED CARD OF 'dustpanlaw03.ClassOrder'. -/
def classOrderCard : Claim7 := { stood := { row := classOrderRow, standIns := [], harness := (true, "997b4d05e7429e4808af3d48770e9692a807598126ee560a248a20a21d82bcbf"), looks := false }, kinds := [], alts := [], laidByText := true, laidKinds := [.data], laidTests := true, laidLooks := .later }
def ClassOrderCardSaid : Prop := Claim7.holds Tryd.pinned (.plain (OpenSpec.ofChange classOrderSpec)) classOrderCard

/-- THE TIED CARD OF 'dustpanlaw02.ConfigRight'. -/
def configRightCard : Claim7 := { stood := { row := configRightRow, standIns := [], harness := (true, "997b4d05e7429e4808af3d48770e9692a807598126ee560a248a20a21d82bcbf"), looks := false }, kinds := [], alts := [], laidByText := true, laidKinds := [.data], laidTests := true, laidLooks := .later }
def ConfigRightCardSaid : Prop := Claim7.holds Tryd.pinned (.plain (OpenSpec.ofChange configRightSpec)) configRightCard

/-- THE TIED CARD OF 'dustpanlaw03.ClassStarts'. -/
def classStartsCard : Claim7 := { stood := { row := classStartsRow, standIns := [], harness := (true, "997b4d05e7429e4808af3d48770e9692a807598126ee560a248a20a21d82bcbf"), looks := false }, kinds := [], alts := [], laidByText := true, laidKinds := [.data], laidTests := true, laidLooks := .later }
def ClassStartsCardSaid : Prop := Claim7.holds Tryd.pinned (.plain (OpenSpec.ofChange classStartsSpec)) classStartsCard

/-- THE TIED CARD OF 'dustpanlaw05.HeaderApart'. -/
def headerApartCard : Claim7 := { stood := { row := headerApartRow, standIns := [], harness := (true, "997b4d05e7429e4808af3d48770e9692a807598126ee560a248a20a21d82bcbf"), looks := false }, kinds := [], alts := [], laidByText := true, laidKinds := [.data], laidTests := true, laidLooks := .later }
def HeaderApartCardSaid : Prop := Claim7.holds Tryd.pinned (.plain (OpenSpec.ofChange headerApartSpec)) headerApartCard

/-- THE TIED CARD OF 'dustpanlaw05.HeaderObjects'. -/
def headerObjectsCard : Claim7 := { stood := { row := headerObjectsRow, standIns := [], harness := (true, "997b4d05e7429e4808af3d48770e9692a807598126ee560a248a20a21d82bcbf"), looks := false }, kinds := [], alts := [], laidByText := true, laidKinds := [.data], laidTests := true, laidLooks := .later }
def HeaderObjectsCardSaid : Prop := Claim7.holds Tryd.pinned (.plain (OpenSpec.ofChange headerObjectsSpec)) headerObjectsCard

/-- THE TIED CARD OF 'dustpanlaw05.HeaderLinks'. -/
def headerLinksCard : Claim7 := { stood := { row := headerLinksRow, standIns := [], harness := (true, "997b4d05e7429e4808af3d48770e9692a807598126ee560a248a20a21d82bcbf"), looks := false }, kinds := [], alts := [], laidByText := true, laidKinds := [.data], laidTests := true, laidLooks := .later }
def HeaderLinksCardSaid : Prop := Claim7.holds Tryd.pinned (.plain (OpenSpec.ofChange headerLinksSpec)) headerLinksCard

/-- THE TIED CARD OF 'dustpanlaw04.AddrFind'. -/
def addrFindCard : Claim7 := { stood := { row := addrFindRow, standIns := [], harness := (true, "997b4d05e7429e4808af3d48770e9692a807598126ee560a248a20a21d82bcbf"), looks := false }, kinds := [], alts := [], laidByText := true, laidKinds := [.data, .data], laidTests := true, laidLooks := .later }
def AddrFindCardSaid : Prop := Claim7.holds Tryd.pinned (.plain (OpenSpec.ofChange addrFindSpec)) addrFindCard

/-- THE TIED CARD OF 'dustpanlaw04.AddrApart'. -/
def addrApartCard : Claim7 := { stood := { row := addrApartRow, standIns := [], harness := (true, "997b4d05e7429e4808af3d48770e9692a807598126ee560a248a20a21d82bcbf"), looks := false }, kinds := [], alts := [], laidByText := true, laidKinds := [.data, .data], laidTests := true, laidLooks := .later }
def AddrApartCardSaid : Prop := Claim7.holds Tryd.pinned (.plain (OpenSpec.ofChange addrApartSpec)) addrApartCard

/-- THE TIED CARD OF 'dustpanlaw02.ConfigBounds'. -/
def configBoundsCard : Claim7 := { stood := { row := configBoundsRow, standIns := [], harness := (true, "997b4d05e7429e4808af3d48770e9692a807598126ee560a248a20a21d82bcbf"), looks := false }, kinds := [], alts := [], laidByText := true, laidKinds := [.data], laidTests := true, laidLooks := .later }
def ConfigBoundsCardSaid : Prop := Claim7.holds Tryd.pinned (.plain (OpenSpec.ofChange configBoundsSpec)) configBoundsCard

/-- THE TIED CARD OF 'dustpanlaw02.ConfigGrows'. -/
def configGrowsCard : Claim7 := { stood := { row := configGrowsRow, standIns := [], harness := (true, "997b4d05e7429e4808af3d48770e9692a807598126ee560a248a20a21d82bcbf"), looks := false }, kinds := [], alts := [], laidByText := true, laidKinds := [.data], laidTests := true, laidLooks := .later }
def ConfigGrowsCardSaid : Prop := Claim7.holds Tryd.pinned (.plain (OpenSpec.ofChange configGrowsSpec)) configGrowsCard

/-- THE TIED CARD OF 'dustpanlaw04.AddrOf'. -/
def addrOfCard : Claim7 := { stood := { row := addrOfRow, standIns := [], harness := (true, "997b4d05e7429e4808af3d48770e9692a807598126ee560a248a20a21d82bcbf"), looks := false }, kinds := [], alts := [], laidByText := true, laidKinds := [.data, .data], laidTests := true, laidLooks := .later }
def AddrOfCardSaid : Prop := Claim7.holds Tryd.pinned (.plain (OpenSpec.ofChange addrOfSpec)) addrOfCard

/-- THE SECOND FORM's CARD OF 'dustpanlaw03.ClassOf'. -/
def classOfUptoCard : Claim7 := { stood := { row := classOfUptoRow, standIns := [], harness := (true, "997b4d05e7429e4808af3d48770e9692a807598126ee560a248a20a21d82bcbf"), looks := false }, kinds := [], alts := [], laidByText := true, laidKinds := [.data], laidTests := true, laidLooks := .later }
def ClassOfUptoCardSaid : Prop := Claim7.holds Tryd.pinned (.plain (OpenSpec.upto classOfSpec)) classOfUptoCard

/-- THE SECOND FORM's CARD OF 'dustpanlaw03.ClassLeast'. -/
def classLeastUptoCard : Claim7 := { stood := { row := classLeastUptoRow, standIns := [], harness := (true, "997b4d05e7429e4808af3d48770e9692a807598126ee560a248a20a21d82bcbf"), looks := false }, kinds := [], alts := [], laidByText := true, laidKinds := [.data], laidTests := true, laidLooks := .later }
def ClassLeastUptoCardSaid : Prop := Claim7.holds Tryd.pinned (.plain (OpenSpec.upto classLeastSpec)) classLeastUptoCard

/-- THE SECOND FORM's CARD OF 'dustpanlaw03.ClassOrder'. -/
def classOrderUptoCard : Claim7 := { stood := { row := classOrderUptoRow, standIns := [], harness := (true, "997b4d05e7429e4808af3d48770e9692a807598126ee560a248a20a21d82bcbf"), looks := false }, kinds := [], alts := [], laidByText := true, laidKinds := [.data], laidTests := true, laidLooks := .later }
def ClassOrderUptoCardSaid : Prop := Claim7.holds Tryd.pinned (.plain (OpenSpec.upto classOrderSpec)) classOrderUptoCard

/-- THE SECOND FORM's CARD OF 'dustpanlaw02.ConfigRight'. -/
def configRightUptoCard : Claim7 := { stood := { row := configRightUptoRow, standIns := [], harness := (true, "997b4d05e7429e4808af3d48770e9692a807598126ee560a248a20a21d82bcbf"), looks := false }, kinds := [], alts := [], laidByText := true, laidKinds := [.data], laidTests := true, laidLooks := .later }
def ConfigRightUptoCardSaid : Prop := Claim7.holds Tryd.pinned (.plain (OpenSpec.upto configRightSpec)) configRightUptoCard

/-- THE SECOND FORM's CARD OF 'dustpanlaw03.ClassStarts'. -/
def classStartsUptoCard : Claim7 := { stood := { row := classStartsUptoRow, standIns := [], harness := (true, "997b4d05e7429e4808af3d48770e9692a807598126ee560a248a20a21d82bcbf"), looks := false }, kinds := [], alts := [], laidByText := true, laidKinds := [.data], laidTests := true, laidLooks := .later }
def ClassStartsUptoCardSaid : Prop := Claim7.holds Tryd.pinned (.plain (OpenSpec.upto classStartsSpec)) classStartsUptoCard

/-- THE SECOND FORM's CARD OF 'dustpanlaw05.HeaderApart'. -/
def headerApartUptoCard : Claim7 := { stood := { row := headerApartUptoRow, standIns := [], harness := (true, "997b4d05e7429e4808af3d48770e9692a807598126ee560a248a20a21d82bcbf"), looks := false }, kinds := [], alts := [], laidByText := true, laidKinds := [.data], laidTests := true, laidLooks := .later }
def HeaderApartUptoCardSaid : Prop := Claim7.holds Tryd.pinned (.plain (OpenSpec.upto headerApartSpec)) headerApartUptoCard

/-- THE SECOND FORM's CARD OF 'dustpanlaw05.HeaderObjects'. -/
def headerObjectsUptoCard : Claim7 := { stood := { row := headerObjectsUptoRow, standIns := [], harness := (true, "997b4d05e7429e4808af3d48770e9692a807598126ee560a248a20a21d82bcbf"), looks := false }, kinds := [], alts := [], laidByText := true, laidKinds := [.data], laidTests := true, laidLooks := .later }
def HeaderObjectsUptoCardSaid : Prop := Claim7.holds Tryd.pinned (.plain (OpenSpec.upto headerObjectsSpec)) headerObjectsUptoCard

/-- THE SECOND FORM's CARD OF 'dustpanlaw05.HeaderLinks'. -/
def headerLinksUptoCard : Claim7 := { stood := { row := headerLinksUptoRow, standIns := [], harness := (true, "997b4d05e7429e4808af3d48770e9692a807598126ee560a248a20a21d82bcbf"), looks := false }, kinds := [], alts := [], laidByText := true, laidKinds := [.data], laidTests := true, laidLooks := .later }
def HeaderLinksUptoCardSaid : Prop := Claim7.holds Tryd.pinned (.plain (OpenSpec.upto headerLinksSpec)) headerLinksUptoCard

/-- THE SECOND FORM's CARD OF 'dustpanlaw04.AddrFind'. -/
def addrFindUptoCard : Claim7 := { stood := { row := addrFindUptoRow, standIns := [], harness := (true, "997b4d05e7429e4808af3d48770e9692a807598126ee560a248a20a21d82bcbf"), looks := false }, kinds := [], alts := [], laidByText := true, laidKinds := [.data, .data], laidTests := true, laidLooks := .later }
def AddrFindUptoCardSaid : Prop := Claim7.holds Tryd.pinned (.plain (OpenSpec.upto addrFindSpec)) addrFindUptoCard

/-- THE SECOND FORM's CARD OF 'dustpanlaw04.AddrApart'. -/
def addrApartUptoCard : Claim7 := { stood := { row := addrApartUptoRow, standIns := [], harness := (true, "997b4d05e7429e4808af3d48770e9692a807598126ee560a248a20a21d82bcbf"), looks := false }, kinds := [], alts := [], laidByText := true, laidKinds := [.data, .data], laidTests := true, laidLooks := .later }
def AddrApartUptoCardSaid : Prop := Claim7.holds Tryd.pinned (.plain (OpenSpec.upto addrApartSpec)) addrApartUptoCard

/-- THE SECOND FORM's CARD OF 'dustpanlaw02.ConfigBounds'. -/
def configBoundsUptoCard : Claim7 := { stood := { row := configBoundsUptoRow, standIns := [], harness := (true, "997b4d05e7429e4808af3d48770e9692a807598126ee560a248a20a21d82bcbf"), looks := false }, kinds := [], alts := [], laidByText := true, laidKinds := [.data], laidTests := true, laidLooks := .later }
def ConfigBoundsUptoCardSaid : Prop := Claim7.holds Tryd.pinned (.plain (OpenSpec.upto configBoundsSpec)) configBoundsUptoCard

/-- THE SECOND FORM's CARD OF 'dustpanlaw02.ConfigGrows'. -/
def configGrowsUptoCard : Claim7 := { stood := { row := configGrowsUptoRow, standIns := [], harness := (true, "997b4d05e7429e4808af3d48770e9692a807598126ee560a248a20a21d82bcbf"), looks := false }, kinds := [], alts := [], laidByText := true, laidKinds := [.data], laidTests := true, laidLooks := .later }
def ConfigGrowsUptoCardSaid : Prop := Claim7.holds Tryd.pinned (.plain (OpenSpec.upto configGrowsSpec)) configGrowsUptoCard

/-- THE SECOND FORM's CARD OF 'dustpanlaw04.AddrOf'. -/
def addrOfUptoCard : Claim7 := { stood := { row := addrOfUptoRow, standIns := [], harness := (true, "997b4d05e7429e4808af3d48770e9692a807598126ee560a248a20a21d82bcbf"), looks := false }, kinds := [], alts := [], laidByText := true, laidKinds := [.data, .data], laidTests := true, laidLooks := .later }
def AddrOfUptoCardSaid : Prop := Claim7.holds Tryd.pinned (.plain (OpenSpec.upto addrOfSpec)) addrOfUptoCard
end Rows
end Go.Proofs.YtmonmiadcmffgaaDoor
