/-
  DERIVED. GIVEN WITH THE SEED: THE CARDS: each row of YthlogeaejcaggaaGreatDoorRows.lean that lists a variable, with what it lists TIED to the program's text (the seventh form; the later family's looks); each row that meets fmt, with fmt's text TOLD by the authors' own Lean function (tested against real Go, not proved from fmt's source: count such statements apart). THE CARD IS WHAT COUNTS. Prove the row's statement (the work); the ties are given (YthlogeaejcaggaaGreatDoorTie.lean); close each card by the builder's one call (the guide's Derived/Test/ToyasCard.lean, 'card_holds'). Laid BY PROGRAM, IN A SANDBOX (cutbox-door.mjs). By AI agents, Wed Nov 11 2026. No macro, syntax, notation, axiom, sorry.
-/
import Derived.Test.YthlogeaejcaggaaGreatDoorRows
import GoSem.ClaimSeven
namespace Go.Proofs.YthlogeaejcaggaaGreatDoor
namespace Rows

/-- THE TIED CARD OF 'calamuslaw07.JsonRound'. -/
def jsonRoundCard : Claim7 := { stood := { row := jsonRoundRow, standIns := [], harness := (true, "bd3cfbd3f8ee6bd4f7096a75da127d6665713cf83f6e0e57a6088799ef394f05"), looks := true }, kinds := [], alts := [], laidByText := true, laidKinds := [.data, .data, .data, .data, .sentinel, .sentinel, .pinned], laidTests := true, laidLooks := .later }
def JsonRoundCardSaid : Prop := Claim7.holds Tryz.pinned (.plain (OpenSpec.ofChange jsonRoundSpec)) jsonRoundCard

/-- THE TIED CARD OF 'calamuslaw07.JsonLists'. -/
def jsonListsCard : Claim7 := { stood := { row := jsonListsRow, standIns := [], harness := (true, "bd3cfbd3f8ee6bd4f7096a75da127d6665713cf83f6e0e57a6088799ef394f05"), looks := true }, kinds := [], alts := [], laidByText := true, laidKinds := [.data, .data, .data, .data, .sentinel, .sentinel, .pinned], laidTests := true, laidLooks := .later }
def JsonListsCardSaid : Prop := Claim7.holds Tryz.pinned (.plain (OpenSpec.ofChange jsonListsSpec)) jsonListsCard

/-- THE TIED CARD OF 'calamuslaw07.JsonApart'. -/
def jsonApartCard : Claim7 := { stood := { row := jsonApartRow, standIns := [], harness := (true, "bd3cfbd3f8ee6bd4f7096a75da127d6665713cf83f6e0e57a6088799ef394f05"), looks := true }, kinds := [], alts := [], laidByText := true, laidKinds := [.data, .data, .data, .data, .sentinel, .sentinel, .pinned], laidTests := true, laidLooks := .later }
def JsonApartCardSaid : Prop := Claim7.holds Tryz.pinned (.plain (OpenSpec.ofChange jsonApartSpec)) jsonApartCard

/-- THE TIED CARD OF 'calamuslaw10.XmlWrites'. -/
def xmlWritesCard : Claim7 := { stood := { row := xmlWritesRow, standIns := [], harness := (true, "bd3cfbd3f8ee6bd4f7096a75da127d6665713cf83f6e0e57a6088799ef394f05"), looks := true }, kinds := [], alts := [], laidByText := true, laidKinds := [.data, .data, .data, .data, .sentinel, .sentinel, .pinned], laidTests := true, laidLooks := .later }
def XmlWritesCardSaid : Prop := Claim7.holds Tryz.pinned (.plain (OpenSpec.ofChange xmlWritesSpec)) xmlWritesCard

/-- THE TIED CARD OF 'calamuslaw10.XmlLists'. -/
def xmlListsCard : Claim7 := { stood := { row := xmlListsRow, standIns := [], harness := (true, "bd3cfbd3f8ee6bd4f7096a75da127d6665713cf83f6e0e57a6088799ef394f05"), looks := true }, kinds := [], alts := [], laidByText := true, laidKinds := [.data, .data, .data, .data, .sentinel, .sentinel, .pinned], laidTests := true, laidLooks := .later }
def XmlListsCardSaid : Prop := Claim7.holds Tryz.pinned (.plain (OpenSpec.ofChange xmlListsSpec)) xmlListsCard

/-- THE TIED CARD OF 'calamuslaw10.XmlApart'. -/
def xmlApartCard : Claim7 := { stood := { row := xmlApartRow, standIns := [], harness := (true, "bd3cfbd3f8ee6bd4f7096a75da127d6665713cf83f6e0e57a6088799ef394f05"), looks := true }, kinds := [], alts := [], laidByText := true, laidKinds := [.data, .data, .data, .data, .sentinel, .sentinel, .pinned], laidTests := true, laidLooks := .later }
def XmlApartCardSaid : Prop := Claim7.holds Tryz.pinned (.plain (OpenSpec.ofChange xmlApartSpec)) xmlApartCard

/-- THE SECOND FORM's CARD OF 'calamuslaw07.JsonRound'. -/
def jsonRoundUptoCard : Claim7 := { stood := { row := jsonRoundUptoRow, standIns := [], harness := (true, "bd3cfbd3f8ee6bd4f7096a75da127d6665713cf83f6e0e57a6088799ef394f05"), looks := true }, kinds := [], alts := [], laidByText := true, laidKinds := [.data, .data, .data, .data, .sentinel, .sentinel, .pinned], laidTests := true, laidLooks := .later }
def JsonRoundUptoCardSaid : Prop := Claim7.holds Tryz.pinned (.plain (OpenSpec.upto jsonRoundSpec)) jsonRoundUptoCard

/-- THE SECOND FORM's CARD OF 'calamuslaw07.JsonLists'. -/
def jsonListsUptoCard : Claim7 := { stood := { row := jsonListsUptoRow, standIns := [], harness := (true, "bd3cfbd3f8ee6bd4f7096a75da127d6665713cf83f6e0e57a6088799ef394f05"), looks := true }, kinds := [], alts := [], laidByText := true, laidKinds := [.data, .data, .data, .data, .sentinel, .sentinel, .pinned], laidTests := true, laidLooks := .later }
def JsonListsUptoCardSaid : Prop := Claim7.holds Tryz.pinned (.plain (OpenSpec.upto jsonListsSpec)) jsonListsUptoCard

/-- THE SECOND FORM's CARD OF 'calamuslaw07.JsonApart'. -/
def jsonApartUptoCard : Claim7 := { stood := { row := jsonApartUptoRow, standIns := [], harness := (true, "bd3cfbd3f8ee6bd4f7096a75da127d6665713cf83f6e0e57a6088799ef394f05"), looks := true }, kinds := [], alts := [], laidByText := true, laidKinds := [.data, .data, .data, .data, .sentinel, .sentinel, .pinned], laidTests := true, laidLooks := .later }
def JsonApartUptoCardSaid : Prop := Claim7.holds Tryz.pinned (.plain (OpenSpec.upto jsonApartSpec)) jsonApartUptoCard

/-- THE SECOND FORM's CARD OF 'calamuslaw10.XmlWrites'. -/
def xmlWritesUptoCard : Claim7 := { stood := { row := xmlWritesUptoRow, standIns := [], harness := (true, "bd3cfbd3f8ee6bd4f7096a75da127d6665713cf83f6e0e57a6088799ef394f05"), looks := true }, kinds := [], alts := [], laidByText := true, laidKinds := [.data, .data, .data, .data, .sentinel, .sentinel, .pinned], laidTests := true, laidLooks := .later }
def XmlWritesUptoCardSaid : Prop := Claim7.holds Tryz.pinned (.plain (OpenSpec.upto xmlWritesSpec)) xmlWritesUptoCard

/-- THE SECOND FORM's CARD OF 'calamuslaw10.XmlLists'. -/
def xmlListsUptoCard : Claim7 := { stood := { row := xmlListsUptoRow, standIns := [], harness := (true, "bd3cfbd3f8ee6bd4f7096a75da127d6665713cf83f6e0e57a6088799ef394f05"), looks := true }, kinds := [], alts := [], laidByText := true, laidKinds := [.data, .data, .data, .data, .sentinel, .sentinel, .pinned], laidTests := true, laidLooks := .later }
def XmlListsUptoCardSaid : Prop := Claim7.holds Tryz.pinned (.plain (OpenSpec.upto xmlListsSpec)) xmlListsUptoCard

/-- THE SECOND FORM's CARD OF 'calamuslaw10.XmlApart'. -/
def xmlApartUptoCard : Claim7 := { stood := { row := xmlApartUptoRow, standIns := [], harness := (true, "bd3cfbd3f8ee6bd4f7096a75da127d6665713cf83f6e0e57a6088799ef394f05"), looks := true }, kinds := [], alts := [], laidByText := true, laidKinds := [.data, .data, .data, .data, .sentinel, .sentinel, .pinned], laidTests := true, laidLooks := .later }
def XmlApartUptoCardSaid : Prop := Claim7.holds Tryz.pinned (.plain (OpenSpec.upto xmlApartSpec)) xmlApartUptoCard
end Rows
end Go.Proofs.YthlogeaejcaggaaGreatDoor
