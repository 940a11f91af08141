/-
  DERIVED. GIVEN WITH THE SEED: THE CARDS: each row of YtmfccecjphfkiaaDoorRows.lean that lists a variable, with what it lists TIED to the program's text (the seventh form; the later family's looks); each row that meets fmt, with fmt's text TOLD by the authors' own Lean function (tested against real Go, not proved from fmt's source: count such statements apart). THE CARD IS WHAT COUNTS. Prove the row's statement (the work); the ties are given (YtmfccecjphfkiaaDoorTie.lean); close each card by the builder's one call (the guide's Derived/Test/ToyasCard.lean, 'card_holds'). Laid BY PROGRAM, IN A SANDBOX (cutbox-door.mjs). By AI agents, Wed Nov 11 2026. No macro, syntax, notation, axiom, sorry.
-/
import Derived.Test.YtmfccecjphfkiaaDoorRows
import GoSem.ClaimSeven
namespace Go.Proofs.YtmfccecjphfkiaaDoor
namespace Rows

/-- THE TIED CARD OF 'typebarlaw16.KeysOne'. -/
def keysOneCard : Claim7 := { stood := { row := keysOneRow, standIns := [], harness := (true, "f002bf454d90078f1b30596084b108edafc48f3ad0eda15cce43ea2957bdc6b3"), looks := false }, kinds := [], alts := [], laidByText := true, laidKinds := [.data, .pinned], laidTests := true, laidLooks := .later }
def KeysOneCardSaid : Prop := Claim7.holds Tryd.pinned (.plain (OpenSpec.ofChange keysOneSpec)) keysOneCard

/-- THE TIED CARD OF 'typebarlaw16.KeysRest'. -/
def keysRestCard : Claim7 := { stood := { row := keysRestRow, standIns := [], harness := (true, "f002bf454d90078f1b30596084b108edafc48f3ad0eda15cce43ea2957bdc6b3"), looks := false }, kinds := [], alts := [], laidByText := true, laidKinds := [.data, .pinned], laidTests := true, laidLooks := .later }
def KeysRestCardSaid : Prop := Claim7.holds Tryd.pinned (.plain (OpenSpec.ofChange keysRestSpec)) keysRestCard

/-- THE TIED CARD OF 'typebarlaw16.KeysFeed'. -/
def keysFeedCard : Claim7 := { stood := { row := keysFeedRow, standIns := [], harness := (true, "f002bf454d90078f1b30596084b108edafc48f3ad0eda15cce43ea2957bdc6b3"), looks := false }, kinds := [], alts := [], laidByText := true, laidKinds := [.data, .pinned], laidTests := true, laidLooks := .later }
def KeysFeedCardSaid : Prop := Claim7.holds Tryd.pinned (.plain (OpenSpec.ofChange keysFeedSpec)) keysFeedCard

/-- THE TIED CARD OF 'typebarlaw16.KeysStays'. -/
def keysStaysCard : Claim7 := { stood := { row := keysStaysRow, standIns := [], harness := (true, "f002bf454d90078f1b30596084b108edafc48f3ad0eda15cce43ea2957bdc6b3"), looks := false }, kinds := [], alts := [], laidByText := true, laidKinds := [.data, .pinned], laidTests := true, laidLooks := .later }
def KeysStaysCardSaid : Prop := Claim7.holds Tryd.pinned (.plain (OpenSpec.ofChange keysStaysSpec)) keysStaysCard

/-- THE TIED CARD OF 'typebarlaw16.KeysWhole'. -/
def keysWholeCard : Claim7 := { stood := { row := keysWholeRow, standIns := [], harness := (true, "f002bf454d90078f1b30596084b108edafc48f3ad0eda15cce43ea2957bdc6b3"), looks := false }, kinds := [], alts := [], laidByText := true, laidKinds := [.data, .pinned], laidTests := true, laidLooks := .later }
def KeysWholeCardSaid : Prop := Claim7.holds Tryd.pinned (.plain (OpenSpec.ofChange keysWholeSpec)) keysWholeCard

/-- THE TIED CARD OF 'typebarlaw16.KeysLate'. -/
def keysLateCard : Claim7 := { stood := { row := keysLateRow, standIns := [], harness := (true, "f002bf454d90078f1b30596084b108edafc48f3ad0eda15cce43ea2957bdc6b3"), looks := false }, kinds := [], alts := [], laidByText := true, laidKinds := [.data, .pinned], laidTests := true, laidLooks := .later }
def KeysLateCardSaid : Prop := Claim7.holds Tryd.pinned (.plain (OpenSpec.ofChange keysLateSpec)) keysLateCard

/-- THE SECOND FORM's CARD OF 'typebarlaw16.KeysOne'. -/
def keysOneUptoCard : Claim7 := { stood := { row := keysOneUptoRow, standIns := [], harness := (true, "f002bf454d90078f1b30596084b108edafc48f3ad0eda15cce43ea2957bdc6b3"), looks := false }, kinds := [], alts := [], laidByText := true, laidKinds := [.data, .pinned], laidTests := true, laidLooks := .later }
def KeysOneUptoCardSaid : Prop := Claim7.holds Tryd.pinned (.plain (OpenSpec.upto keysOneSpec)) keysOneUptoCard

/-- THE SECOND FORM's CARD OF 'typebarlaw16.KeysRest'. -/
def keysRestUptoCard : Claim7 := { stood := { row := keysRestUptoRow, standIns := [], harness := (true, "f002bf454d90078f1b30596084b108edafc48f3ad0eda15cce43ea2957bdc6b3"), looks := false }, kinds := [], alts := [], laidByText := true, laidKinds := [.data, .pinned], laidTests := true, laidLooks := .later }
def KeysRestUptoCardSaid : Prop := Claim7.holds Tryd.pinned (.plain (OpenSpec.upto keysRestSpec)) keysRestUptoCard

/-- THE SECOND FORM's CARD OF 'typebarlaw16.KeysFeed'. -/
def keysFeedUptoCard : Claim7 := { stood := { row := keysFeedUptoRow, standIns := [], harness := (true, "f002bf454d90078f1b30596084b108edafc48f3ad0eda15cce43ea2957bdc6b3"), looks := false }, kinds := [], alts := [], laidByText := true, laidKinds := [.data, .pinned], laidTests := true, laidLooks := .later }
def KeysFeedUptoCardSaid : Prop := Claim7.holds Tryd.pinned (.plain (OpenSpec.upto keysFeedSpec)) keysFeedUptoCard

/-- THE SECOND FORM's CARD OF 'typebarlaw16.KeysStays'. -/
def keysStaysUptoCard : Claim7 := { stood := { row := keysStaysUptoRow, standIns := [], harness := (true, "f002bf454d90078f1b30596084b108edafc48f3ad0eda15cce43ea2957bdc6b3"), looks := false }, kinds := [], alts := [], laidByText := true, laidKinds := [.data, .pinned], laidTests := true, laidLooks := .later }
def KeysStaysUptoCardSaid : Prop := Claim7.holds Tryd.pinned (.plain (OpenSpec.upto keysStaysSpec)) keysStaysUptoCard

/-- THE SECOND FORM's CARD OF 'typebarlaw16.KeysWhole'. -/
def keysWholeUptoCard : Claim7 := { stood := { row := keysWholeUptoRow, standIns := [], harness := (true, "f002bf454d90078f1b30596084b108edafc48f3ad0eda15cce43ea2957bdc6b3"), looks := false }, kinds := [], alts := [], laidByText := true, laidKinds := [.data, .pinned], laidTests := true, laidLooks := .later }
def KeysWholeUptoCardSaid : Prop := Claim7.holds Tryd.pinned (.plain (OpenSpec.upto keysWholeSpec)) keysWholeUptoCard

/-- THE SECOND FORM's CARD OF 'typebarlaw16.KeysLate'. -/
def keysLateUptoCard : Claim7 := { stood := { row := keysLateUptoRow, standIns := [], harness := (true, "f002bf454d90078f1b30596084b108edafc48f3ad0eda15cce43ea2957bdc6b3"), looks := false }, kinds := [], alts := [], laidByText := true, laidKinds := [.data, .pinned], laidTests := true, laidLooks := .later }
def KeysLateUptoCardSaid : Prop := Claim7.holds Tryd.pinned (.plain (OpenSpec.upto keysLateSpec)) keysLateUptoCard
end Rows
end Go.Proofs.YtmfccecjphfkiaaDoor
