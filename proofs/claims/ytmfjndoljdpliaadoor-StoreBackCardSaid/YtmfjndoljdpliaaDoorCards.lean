/-
  DERIVED. GIVEN WITH THE SEED: THE CARDS: each row of YtmfjndoljdpliaaDoorRows.lean that lists a variable, with what it lists TIED to the program's text (the seventh form; the later family's looks); each row that meets fmt, with fmt's text TOLD by the authors' own Lean function (tested against real Go, not proved from fmt's source: count such statements apart). THE CARD IS WHAT COUNTS. Prove the row's statement (the work); the ties are given (YtmfjndoljdpliaaDoorTie.lean); close each card by the builder's one call (the guide's Derived/Test/ToyasCard.lean, 'card_holds'). Laid BY PROGRAM, IN A SANDBOX (cutbox-door.mjs). By AI agents, Wed Nov 11 2026. No macro, syntax, notation, axiom, sorry.
-/
import Derived.Test.YtmfjndoljdpliaaDoorRows
import GoSem.ClaimSeven
namespace Go.Proofs.YtmfjndoljdpliaaDoor
namespace Rows

/-- THE TIED CARD OF 'typebarlaw22.StoreBack'. -/
def storeBackCard : Claim7 := { stood := { row := storeBackRow, standIns := [], harness := (true, "544e66b4dcb1fccfc5a3966a89e38ef6be4d3fd8f59d71c27b911aaeb3b84cb9"), looks := false }, kinds := [], alts := [], laidByText := true, laidKinds := [.data, .pinned], laidTests := true, laidLooks := .later }
def StoreBackCardSaid : Prop := Claim7.holds Tryd.pinned (.plain (OpenSpec.ofChange storeBackSpec)) storeBackCard

/-- THE TIED CARD OF 'typebarlaw22.StoreMore'. -/
def storeMoreCard : Claim7 := { stood := { row := storeMoreRow, standIns := [], harness := (true, "544e66b4dcb1fccfc5a3966a89e38ef6be4d3fd8f59d71c27b911aaeb3b84cb9"), looks := false }, kinds := [], alts := [], laidByText := true, laidKinds := [.data, .pinned], laidTests := true, laidLooks := .later }
def StoreMoreCardSaid : Prop := Claim7.holds Tryd.pinned (.plain (OpenSpec.ofChange storeMoreSpec)) storeMoreCard

/-- THE TIED CARD OF 'typebarlaw22.StorePuts'. -/
def storePutsCard : Claim7 := { stood := { row := storePutsRow, standIns := [], harness := (true, "544e66b4dcb1fccfc5a3966a89e38ef6be4d3fd8f59d71c27b911aaeb3b84cb9"), looks := false }, kinds := [], alts := [], laidByText := true, laidKinds := [.data, .pinned], laidTests := true, laidLooks := .later }
def StorePutsCardSaid : Prop := Claim7.holds Tryd.pinned (.plain (OpenSpec.ofChange storePutsSpec)) storePutsCard

/-- THE TIED CARD OF 'typebarlaw22.StoreGets'. -/
def storeGetsCard : Claim7 := { stood := { row := storeGetsRow, standIns := [], harness := (true, "544e66b4dcb1fccfc5a3966a89e38ef6be4d3fd8f59d71c27b911aaeb3b84cb9"), looks := false }, kinds := [], alts := [], laidByText := true, laidKinds := [.data, .pinned], laidTests := true, laidLooks := .later }
def StoreGetsCardSaid : Prop := Claim7.holds Tryd.pinned (.plain (OpenSpec.ofChange storeGetsSpec)) storeGetsCard

/-- THE SECOND FORM's CARD OF 'typebarlaw22.StoreBack'. -/
def storeBackUptoCard : Claim7 := { stood := { row := storeBackUptoRow, standIns := [], harness := (true, "544e66b4dcb1fccfc5a3966a89e38ef6be4d3fd8f59d71c27b911aaeb3b84cb9"), looks := false }, kinds := [], alts := [], laidByText := true, laidKinds := [.data, .pinned], laidTests := true, laidLooks := .later }
def StoreBackUptoCardSaid : Prop := Claim7.holds Tryd.pinned (.plain (OpenSpec.upto storeBackSpec)) storeBackUptoCard

/-- THE SECOND FORM's CARD OF 'typebarlaw22.StoreMore'. -/
def storeMoreUptoCard : Claim7 := { stood := { row := storeMoreUptoRow, standIns := [], harness := (true, "544e66b4dcb1fccfc5a3966a89e38ef6be4d3fd8f59d71c27b911aaeb3b84cb9"), looks := false }, kinds := [], alts := [], laidByText := true, laidKinds := [.data, .pinned], laidTests := true, laidLooks := .later }
def StoreMoreUptoCardSaid : Prop := Claim7.holds Tryd.pinned (.plain (OpenSpec.upto storeMoreSpec)) storeMoreUptoCard

/-- THE SECOND FORM's CARD OF 'typebarlaw22.StorePuts'. -/
def storePutsUptoCard : Claim7 := { stood := { row := storePutsUptoRow, standIns := [], harness := (true, "544e66b4dcb1fccfc5a3966a89e38ef6be4d3fd8f59d71c27b911aaeb3b84cb9"), looks := false }, kinds := [], alts := [], laidByText := true, laidKinds := [.data, .pinned], laidTests := true, laidLooks := .later }
def StorePutsUptoCardSaid : Prop := Claim7.holds Tryd.pinned (.plain (OpenSpec.upto storePutsSpec)) storePutsUptoCard

/-- THE SECOND FORM's CARD OF 'typebarlaw22.StoreGets'. -/
def storeGetsUptoCard : Claim7 := { stood := { row := storeGetsUptoRow, standIns := [], harness := (true, "544e66b4dcb1fccfc5a3966a89e38ef6be4d3fd8f59d71c27b911aaeb3b84cb9"), looks := false }, kinds := [], alts := [], laidByText := true, laidKinds := [.data, .pinned], laidTests := true, laidLooks := .later }
def StoreGetsUptoCardSaid : Prop := Claim7.holds Tryd.pinned (.plain (OpenSpec.upto storeGetsSpec)) storeGetsUptoCard
end Rows
end Go.Proofs.YtmfjndoljdpliaaDoor
