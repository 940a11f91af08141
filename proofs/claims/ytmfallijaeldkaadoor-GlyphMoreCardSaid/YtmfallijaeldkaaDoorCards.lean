/-
  DERIVED. GIVEN WITH THE SEED: THE CARDS: each row of YtmfallijaeldkaaDoorRows.lean that lists a variable, with what it lists TIED to the program's text (the seventh form; the later family's looks); each row that meets fmt, with fmt's text TOLD by the authors' own Lean function (tested against real Go, not proved from fmt's source: count such statements apart). THE CARD IS WHAT COUNTS. Prove the row's statement (the work); the ties are given (YtmfallijaeldkaaDoorTie.lean); close each card by the builder's one call (the guide's Derived/Test/ToyasCard.lean, 'card_holds'). Laid BY PROGRAM, IN A SANDBOX (cutbox-door.mjs). By AI agents, Wed Nov 11 2026. No macro, syntax, notation, axiom, sorry.
-/
import Derived.Test.YtmfallijaeldkaaDoorRows
import GoSem.ClaimSeven
namespace Go.Proofs.YtmfallijaeldkaaDoor
namespace Rows

/-- THE TIED CARD OF 'typebarlaw01.GlyphPuts'. -/
def glyphPutsCard : Claim7 := { stood := { row := glyphPutsRow, standIns := [], harness := (true, "50a9a107750a265137ef696963df45661a8a9e46aa0ecb3b0d336151069a715a"), looks := false }, kinds := [], alts := [], laidByText := true, laidKinds := [.data, .pinned], laidTests := true, laidLooks := .later }
def GlyphPutsCardSaid : Prop := Claim7.holds Tryd.pinned (.plain (OpenSpec.ofChange glyphPutsSpec)) glyphPutsCard

/-- THE TIED CARD OF 'typebarlaw01.GlyphNext'. -/
def glyphNextCard : Claim7 := { stood := { row := glyphNextRow, standIns := [], harness := (true, "50a9a107750a265137ef696963df45661a8a9e46aa0ecb3b0d336151069a715a"), looks := false }, kinds := [], alts := [], laidByText := true, laidKinds := [.data, .pinned], laidTests := true, laidLooks := .later }
def GlyphNextCardSaid : Prop := Claim7.holds Tryd.pinned (.plain (OpenSpec.ofChange glyphNextSpec)) glyphNextCard

/-- THE TIED CARD OF 'typebarlaw01.GlyphLists'. -/
def glyphListsCard : Claim7 := { stood := { row := glyphListsRow, standIns := [], harness := (true, "50a9a107750a265137ef696963df45661a8a9e46aa0ecb3b0d336151069a715a"), looks := false }, kinds := [], alts := [], laidByText := true, laidKinds := [.data, .pinned], laidTests := true, laidLooks := .later }
def GlyphListsCardSaid : Prop := Claim7.holds Tryd.pinned (.plain (OpenSpec.ofChange glyphListsSpec)) glyphListsCard

/-- THE TIED CARD OF 'typebarlaw01.GlyphBack'. -/
def glyphBackCard : Claim7 := { stood := { row := glyphBackRow, standIns := [], harness := (true, "50a9a107750a265137ef696963df45661a8a9e46aa0ecb3b0d336151069a715a"), looks := false }, kinds := [], alts := [], laidByText := true, laidKinds := [.data, .pinned], laidTests := true, laidLooks := .later }
def GlyphBackCardSaid : Prop := Claim7.holds Tryd.pinned (.plain (OpenSpec.ofChange glyphBackSpec)) glyphBackCard

/-- THE TIED CARD OF 'typebarlaw01.GlyphGoes'. -/
def glyphGoesCard : Claim7 := { stood := { row := glyphGoesRow, standIns := [], harness := (true, "50a9a107750a265137ef696963df45661a8a9e46aa0ecb3b0d336151069a715a"), looks := false }, kinds := [], alts := [], laidByText := true, laidKinds := [.data, .pinned], laidTests := true, laidLooks := .later }
def GlyphGoesCardSaid : Prop := Claim7.holds Tryd.pinned (.plain (OpenSpec.ofChange glyphGoesSpec)) glyphGoesCard

/-- THE TIED CARD OF 'typebarlaw01.GlyphMore'. -/
def glyphMoreCard : Claim7 := { stood := { row := glyphMoreRow, standIns := [], harness := (true, "50a9a107750a265137ef696963df45661a8a9e46aa0ecb3b0d336151069a715a"), looks := false }, kinds := [], alts := [], laidByText := true, laidKinds := [.data, .pinned], laidTests := true, laidLooks := .later }
def GlyphMoreCardSaid : Prop := Claim7.holds Tryd.pinned (.plain (OpenSpec.ofChange glyphMoreSpec)) glyphMoreCard

/-- THE SECOND FORM's CARD OF 'typebarlaw01.GlyphPuts'. -/
def glyphPutsUptoCard : Claim7 := { stood := { row := glyphPutsUptoRow, standIns := [], harness := (true, "50a9a107750a265137ef696963df45661a8a9e46aa0ecb3b0d336151069a715a"), looks := false }, kinds := [], alts := [], laidByText := true, laidKinds := [.data, .pinned], laidTests := true, laidLooks := .later }
def GlyphPutsUptoCardSaid : Prop := Claim7.holds Tryd.pinned (.plain (OpenSpec.upto glyphPutsSpec)) glyphPutsUptoCard

/-- THE SECOND FORM's CARD OF 'typebarlaw01.GlyphNext'. -/
def glyphNextUptoCard : Claim7 := { stood := { row := glyphNextUptoRow, standIns := [], harness := (true, "50a9a107750a265137ef696963df45661a8a9e46aa0ecb3b0d336151069a715a"), looks := false }, kinds := [], alts := [], laidByText := true, laidKinds := [.data, .pinned], laidTests := true, laidLooks := .later }
def GlyphNextUptoCardSaid : Prop := Claim7.holds Tryd.pinned (.plain (OpenSpec.upto glyphNextSpec)) glyphNextUptoCard

/-- THE SECOND FORM's CARD OF 'typebarlaw01.GlyphLists'. -/
def glyphListsUptoCard : Claim7 := { stood := { row := glyphListsUptoRow, standIns := [], harness := (true, "50a9a107750a265137ef696963df45661a8a9e46aa0ecb3b0d336151069a715a"), looks := false }, kinds := [], alts := [], laidByText := true, laidKinds := [.data, .pinned], laidTests := true, laidLooks := .later }
def GlyphListsUptoCardSaid : Prop := Claim7.holds Tryd.pinned (.plain (OpenSpec.upto glyphListsSpec)) glyphListsUptoCard

/-- THE SECOND FORM's CARD OF 'typebarlaw01.GlyphBack'. -/
def glyphBackUptoCard : Claim7 := { stood := { row := glyphBackUptoRow, standIns := [], harness := (true, "50a9a107750a265137ef696963df45661a8a9e46aa0ecb3b0d336151069a715a"), looks := false }, kinds := [], alts := [], laidByText := true, laidKinds := [.data, .pinned], laidTests := true, laidLooks := .later }
def GlyphBackUptoCardSaid : Prop := Claim7.holds Tryd.pinned (.plain (OpenSpec.upto glyphBackSpec)) glyphBackUptoCard

/-- THE SECOND FORM's CARD OF 'typebarlaw01.GlyphGoes'. -/
def glyphGoesUptoCard : Claim7 := { stood := { row := glyphGoesUptoRow, standIns := [], harness := (true, "50a9a107750a265137ef696963df45661a8a9e46aa0ecb3b0d336151069a715a"), looks := false }, kinds := [], alts := [], laidByText := true, laidKinds := [.data, .pinned], laidTests := true, laidLooks := .later }
def GlyphGoesUptoCardSaid : Prop := Claim7.holds Tryd.pinned (.plain (OpenSpec.upto glyphGoesSpec)) glyphGoesUptoCard

/-- THE SECOND FORM's CARD OF 'typebarlaw01.GlyphMore'. -/
def glyphMoreUptoCard : Claim7 := { stood := { row := glyphMoreUptoRow, standIns := [], harness := (true, "50a9a107750a265137ef696963df45661a8a9e46aa0ecb3b0d336151069a715a"), looks := false }, kinds := [], alts := [], laidByText := true, laidKinds := [.data, .pinned], laidTests := true, laidLooks := .later }
def GlyphMoreUptoCardSaid : Prop := Claim7.holds Tryd.pinned (.plain (OpenSpec.upto glyphMoreSpec)) glyphMoreUptoCard
end Rows
end Go.Proofs.YtmfallijaeldkaaDoor
