/-
  NARROWER THAN 'FOR EVERY INPUT', by the rows' own cells (each row's printed sentence says how): GlyphPuts: laid · GlyphNext: laid · GlyphLists: laid · GlyphBack: laid · GlyphGoes: laid · GlyphMore: laid.
  DERIVED. THE GIVEN ROWS OF THIS SEAT. 6 by the template 'for every input the law returns true; each argument reads behind the call as it read before'; 0 by the template 'total and deterministic' (their statements: YtmfallijaeldkaaDoorTotals.lean).
  GIVEN WITH THE SEED: the statements are not yours to turn. If you find one false, say at which input.
  Laid BY PROGRAM, IN A SANDBOX (cutbox-rows.mjs): the forced cells as the released guide's own fill.sh prints them over the translation c2ac30d1aca5be71… (all of the seat's roots in one cut). By AI agents, Wed Nov 11 2026. No macro, syntax, notation, axiom, sorry.
-/
import Derived.Test.YtmfallijaeldkaaDoorChecked
import GoSem.PinnedTables
import GoSem.Claim
import GoSem.ClaimJoined
import GoSem.ClaimMapViews
import Derived.JoinedTies
import Derived.KernelRfl
namespace Go.Proofs.YtmfallijaeldkaaDoor
/- THE CELL 'sum', in the pinned program and in every row, IS THE sha256 OF THE DUMP (.gsa) THAT YtmfallijaeldkaaDoorProg.lean LOADS. Nothing in Lean hashes anything: it is a label: what it is worth is what the hold of that sum in a sandbox is worth. -/
noncomputable def Tryd.pinned : Pinned := { name := "ytmfallijaeldkaadoor", sum := "c2ac30d1aca5be7137b01e78db20f325a9a9cf1eee20fb2e7b4929868ea05bec", checked := Tryd.checked }
namespace Rows
def none {H : Type} : Left H := { results := [], args := [] }

/- WHAT THE LISTED PACKAGE-LEVEL VARIABLES READ AS WHEN THE CALL BEGINS. Each datum BY PROGRAM (the guide's laid-datum.mjs) off the statement by which the dump's own 'gosem.cut.vars' lays the variable. In a bare row this is a premise. The card (YtmfallijaeldkaaDoorCards.lean) ties it to the program's text. -/
def laid_unicode_utf8_acceptRanges {H : Type} : DataW H := .agg [.agg [.lit (.int .u8 128), .lit (.int .u8 191)], .agg [.lit (.int .u8 160), .lit (.int .u8 191)], .agg [.lit (.int .u8 128), .lit (.int .u8 159)], .agg [.lit (.int .u8 144), .lit (.int .u8 191)], .agg [.lit (.int .u8 128), .lit (.int .u8 143)], .agg [.lit (.int .u8 0), .lit (.int .u8 0)], .agg [.lit (.int .u8 0), .lit (.int .u8 0)], .agg [.lit (.int .u8 0), .lit (.int .u8 0)], .agg [.lit (.int .u8 0), .lit (.int .u8 0)], .agg [.lit (.int .u8 0), .lit (.int .u8 0)], .agg [.lit (.int .u8 0), .lit (.int .u8 0)], .agg [.lit (.int .u8 0), .lit (.int .u8 0)], .agg [.lit (.int .u8 0), .lit (.int .u8 0)], .agg [.lit (.int .u8 0), .lit (.int .u8 0)], .agg [.lit (.int .u8 0), .lit (.int .u8 0)], .agg [.lit (.int .u8 0), .lit (.int .u8 0)]]
/-- One of Go's own tables, pinned by name: the form's constant. -/
def laid_unicode_utf8_first : DataW Unit := Go.Pinned.utf8First

/-- 'typebarlaw01.GlyphPuts': WHATEVER THE INPUT: true; the input reads as it did. -/
def glyphPutsSpec : ChangeSpec := { name := "glyphPuts", fn := fun _ => fun
  | [d] => { results := [.lit (.bool true)], args := [d] }
  | _ => none }
def glyphPutsRow : OpenClaim := { program := "ytmfallijaeldkaadoor", sum := "c2ac30d1aca5be7137b01e78db20f325a9a9cf1eee20fb2e7b4929868ea05bec", func := "typebar/typebarlaw01.GlyphPuts", spec := "glyphPuts", named := ["unicode/utf8.first", "unicode/utf8.acceptRanges"], apart := false, laid := [("unicode/utf8.acceptRanges", laid_unicode_utf8_acceptRanges), ("unicode/utf8.first", laid_unicode_utf8_first)] }
def GlyphPutsSaid : Prop := glyphPutsRow.holds Tryd.pinned (OpenSpec.ofChange glyphPutsSpec)

/-- ITS FALSE NEIGHBOUR: 'it returns false'. Refute it at one input. -/
def glyphPutsWrong : ChangeSpec := { name := "glyphPuts", fn := fun _ => fun
  | [d] => { results := [.lit (.bool false)], args := [d] }
  | _ => none }
def GlyphPutsWrongFalsely : Prop := glyphPutsRow.holds Tryd.pinned (OpenSpec.ofChange glyphPutsWrong)

/-- 'typebarlaw01.GlyphNext': WHATEVER THE INPUT: true; the input reads as it did. -/
def glyphNextSpec : ChangeSpec := { name := "glyphNext", fn := fun _ => fun
  | [d] => { results := [.lit (.bool true)], args := [d] }
  | _ => none }
def glyphNextRow : OpenClaim := { program := "ytmfallijaeldkaadoor", sum := "c2ac30d1aca5be7137b01e78db20f325a9a9cf1eee20fb2e7b4929868ea05bec", func := "typebar/typebarlaw01.GlyphNext", spec := "glyphNext", named := ["unicode/utf8.first", "unicode/utf8.acceptRanges"], apart := false, laid := [("unicode/utf8.acceptRanges", laid_unicode_utf8_acceptRanges), ("unicode/utf8.first", laid_unicode_utf8_first)] }
def GlyphNextSaid : Prop := glyphNextRow.holds Tryd.pinned (OpenSpec.ofChange glyphNextSpec)

/-- ITS FALSE NEIGHBOUR: 'it returns false'. Refute it at one input. -/
def glyphNextWrong : ChangeSpec := { name := "glyphNext", fn := fun _ => fun
  | [d] => { results := [.lit (.bool false)], args := [d] }
  | _ => none }
def GlyphNextWrongFalsely : Prop := glyphNextRow.holds Tryd.pinned (OpenSpec.ofChange glyphNextWrong)

/-- 'typebarlaw01.GlyphLists': WHATEVER THE INPUT: true; the input reads as it did. -/
def glyphListsSpec : ChangeSpec := { name := "glyphLists", fn := fun _ => fun
  | [d1, d2] => { results := [.lit (.bool true)], args := [d1, d2] }
  | _ => none }
def glyphListsRow : OpenClaim := { program := "ytmfallijaeldkaadoor", sum := "c2ac30d1aca5be7137b01e78db20f325a9a9cf1eee20fb2e7b4929868ea05bec", func := "typebar/typebarlaw01.GlyphLists", spec := "glyphLists", named := ["unicode/utf8.first", "unicode/utf8.acceptRanges"], apart := false, laid := [("unicode/utf8.acceptRanges", laid_unicode_utf8_acceptRanges), ("unicode/utf8.first", laid_unicode_utf8_first)] }
def GlyphListsSaid : Prop := glyphListsRow.holds Tryd.pinned (OpenSpec.ofChange glyphListsSpec)

/-- ITS FALSE NEIGHBOUR: 'it returns false'. Refute it at one input. -/
def glyphListsWrong : ChangeSpec := { name := "glyphLists", fn := fun _ => fun
  | [d1, d2] => { results := [.lit (.bool false)], args := [d1, d2] }
  | _ => none }
def GlyphListsWrongFalsely : Prop := glyphListsRow.holds Tryd.pinned (OpenSpec.ofChange glyphListsWrong)

/-- 'typebarlaw01.GlyphBack': WHATEVER THE INPUT: true; the input reads as it did. -/
def glyphBackSpec : ChangeSpec := { name := "glyphBack", fn := fun _ => fun
  | [d1, d2] => { results := [.lit (.bool true)], args := [d1, d2] }
  | _ => none }
def glyphBackRow : OpenClaim := { program := "ytmfallijaeldkaadoor", sum := "c2ac30d1aca5be7137b01e78db20f325a9a9cf1eee20fb2e7b4929868ea05bec", func := "typebar/typebarlaw01.GlyphBack", spec := "glyphBack", named := ["unicode/utf8.first", "unicode/utf8.acceptRanges"], apart := false, laid := [("unicode/utf8.acceptRanges", laid_unicode_utf8_acceptRanges), ("unicode/utf8.first", laid_unicode_utf8_first)] }
def GlyphBackSaid : Prop := glyphBackRow.holds Tryd.pinned (OpenSpec.ofChange glyphBackSpec)

/-- ITS FALSE NEIGHBOUR: 'it returns false'. Refute it at one input. -/
def glyphBackWrong : ChangeSpec := { name := "glyphBack", fn := fun _ => fun
  | [d1, d2] => { results := [.lit (.bool false)], args := [d1, d2] }
  | _ => none }
def GlyphBackWrongFalsely : Prop := glyphBackRow.holds Tryd.pinned (OpenSpec.ofChange glyphBackWrong)

/-- 'typebarlaw01.GlyphGoes': WHATEVER THE INPUT: true; the input reads as it did. -/
def glyphGoesSpec : ChangeSpec := { name := "glyphGoes", fn := fun _ => fun
  | [d1, d2] => { results := [.lit (.bool true)], args := [d1, d2] }
  | _ => none }
def glyphGoesRow : OpenClaim := { program := "ytmfallijaeldkaadoor", sum := "c2ac30d1aca5be7137b01e78db20f325a9a9cf1eee20fb2e7b4929868ea05bec", func := "typebar/typebarlaw01.GlyphGoes", spec := "glyphGoes", named := ["unicode/utf8.first", "unicode/utf8.acceptRanges"], apart := false, laid := [("unicode/utf8.acceptRanges", laid_unicode_utf8_acceptRanges), ("unicode/utf8.first", laid_unicode_utf8_first)] }
def GlyphGoesSaid : Prop := glyphGoesRow.holds Tryd.pinned (OpenSpec.ofChange glyphGoesSpec)

/-- ITS FALSE NEIGHBOUR: 'it returns false'. Refute it at one input. -/
def glyphGoesWrong : ChangeSpec := { name := "glyphGoes", fn := fun _ => fun
  | [d1, d2] => { results := [.lit (.bool false)], args := [d1, d2] }
  | _ => none }
def GlyphGoesWrongFalsely : Prop := glyphGoesRow.holds Tryd.pinned (OpenSpec.ofChange glyphGoesWrong)

/-- 'typebarlaw01.GlyphMore': WHATEVER THE INPUT: true; the input reads as it did. -/
def glyphMoreSpec : ChangeSpec := { name := "glyphMore", fn := fun _ => fun
  | [d1, d2] => { results := [.lit (.bool true)], args := [d1, d2] }
  | _ => none }
def glyphMoreRow : OpenClaim := { program := "ytmfallijaeldkaadoor", sum := "c2ac30d1aca5be7137b01e78db20f325a9a9cf1eee20fb2e7b4929868ea05bec", func := "typebar/typebarlaw01.GlyphMore", spec := "glyphMore", named := ["unicode/utf8.first", "unicode/utf8.acceptRanges"], apart := false, laid := [("unicode/utf8.acceptRanges", laid_unicode_utf8_acceptRanges), ("unicode/utf8.first", laid_unicode_utf8_first)] }
def GlyphMoreSaid : Prop := glyphMoreRow.holds Tryd.pinned (OpenSpec.ofChange glyphMoreSpec)

/-- ITS FALSE NEIGHBOUR: 'it returns false'. Refute it at one input. -/
def glyphMoreWrong : ChangeSpec := { name := "glyphMore", fn := fun _ => fun
  | [d1, d2] => { results := [.lit (.bool false)], args := [d1, d2] }
  | _ => none }
def GlyphMoreWrongFalsely : Prop := glyphMoreRow.holds Tryd.pinned (OpenSpec.ofChange glyphMoreWrong)

/- THE SECOND FORM. 'bulk': how many values and letters a reading holds, each counted each time it is reached (what is shared counts as often as it is met; a slice's spare places count too). A statement '..UptoSaid' is the law's where the arguments, and the package variables that the reading takes, are together of bulk at most 1048576: NARROWER than '..Said'. Prove '..Said' where nothing that the law and all that it calls make is longer than what came in: it says more and counts as full. Else prove '..UptoSaid'. A law counts once. -/
mutual
def uptoBulk {H : Type} : DataW H → Nat
  | .lit (.string bytes) => bytes.length + 1
  | .lit _ => 1
  | .nil => 1
  | .ptr d => uptoBulk d + 1
  | .slice elems spare => uptoBulkAll elems + uptoBulkAll spare + 1
  | .agg parts => uptoBulkAll parts + 1
  | .iface _ d => uptoBulk d + 1
  | .map entries => uptoBulkEntries entries + 1
  | .held _ => 1
def uptoBulkAll {H : Type} : List (DataW H) → Nat
  | [] => 0
  | d :: r => uptoBulk d + uptoBulkAll r
def uptoBulkEntries {H : Type} : List (Lit × DataW H) → Nat
  | [] => 0
  | x :: r => uptoBulkEntry x + uptoBulkEntries r
def uptoBulkEntry {H : Type} : Lit × DataW H → Nat
  | (.string bytes, d) => bytes.length + uptoBulk d + 1
  | (_, d) => uptoBulk d + 1
 end
def uptoSmall : (H : Type) → List (DataW H) → Bool := fun _ ds => decide (uptoBulkAll ds ≤ 1048576)
def OpenSpec.upto (s : _root_.Go.ChangeSpec) : _root_.Go.OpenSpec := { _root_.Go.OpenSpec.ofChange s with cond := some uptoSmall }

/-- 'typebarlaw01.GlyphPuts', WHERE WHAT IT READS IS OF BULK AT MOST 1048576: true; the input reads as it did. -/
def glyphPutsUptoRow : OpenClaim := { program := "ytmfallijaeldkaadoor", sum := "c2ac30d1aca5be7137b01e78db20f325a9a9cf1eee20fb2e7b4929868ea05bec", func := "typebar/typebarlaw01.GlyphPuts", spec := "glyphPuts", named := ["unicode/utf8.first", "unicode/utf8.acceptRanges"], apart := false, laid := [("unicode/utf8.acceptRanges", laid_unicode_utf8_acceptRanges), ("unicode/utf8.first", laid_unicode_utf8_first)], narrowed := true }
def GlyphPutsUptoSaid : Prop := glyphPutsUptoRow.holds Tryd.pinned (OpenSpec.upto glyphPutsSpec)

/-- 'typebarlaw01.GlyphNext', WHERE WHAT IT READS IS OF BULK AT MOST 1048576: true; the input reads as it did. -/
def glyphNextUptoRow : OpenClaim := { program := "ytmfallijaeldkaadoor", sum := "c2ac30d1aca5be7137b01e78db20f325a9a9cf1eee20fb2e7b4929868ea05bec", func := "typebar/typebarlaw01.GlyphNext", spec := "glyphNext", named := ["unicode/utf8.first", "unicode/utf8.acceptRanges"], apart := false, laid := [("unicode/utf8.acceptRanges", laid_unicode_utf8_acceptRanges), ("unicode/utf8.first", laid_unicode_utf8_first)], narrowed := true }
def GlyphNextUptoSaid : Prop := glyphNextUptoRow.holds Tryd.pinned (OpenSpec.upto glyphNextSpec)

/-- 'typebarlaw01.GlyphLists', WHERE WHAT IT READS IS OF BULK AT MOST 1048576: true; the input reads as it did. -/
def glyphListsUptoRow : OpenClaim := { program := "ytmfallijaeldkaadoor", sum := "c2ac30d1aca5be7137b01e78db20f325a9a9cf1eee20fb2e7b4929868ea05bec", func := "typebar/typebarlaw01.GlyphLists", spec := "glyphLists", named := ["unicode/utf8.first", "unicode/utf8.acceptRanges"], apart := false, laid := [("unicode/utf8.acceptRanges", laid_unicode_utf8_acceptRanges), ("unicode/utf8.first", laid_unicode_utf8_first)], narrowed := true }
def GlyphListsUptoSaid : Prop := glyphListsUptoRow.holds Tryd.pinned (OpenSpec.upto glyphListsSpec)

/-- 'typebarlaw01.GlyphBack', WHERE WHAT IT READS IS OF BULK AT MOST 1048576: true; the input reads as it did. -/
def glyphBackUptoRow : OpenClaim := { program := "ytmfallijaeldkaadoor", sum := "c2ac30d1aca5be7137b01e78db20f325a9a9cf1eee20fb2e7b4929868ea05bec", func := "typebar/typebarlaw01.GlyphBack", spec := "glyphBack", named := ["unicode/utf8.first", "unicode/utf8.acceptRanges"], apart := false, laid := [("unicode/utf8.acceptRanges", laid_unicode_utf8_acceptRanges), ("unicode/utf8.first", laid_unicode_utf8_first)], narrowed := true }
def GlyphBackUptoSaid : Prop := glyphBackUptoRow.holds Tryd.pinned (OpenSpec.upto glyphBackSpec)

/-- 'typebarlaw01.GlyphGoes', WHERE WHAT IT READS IS OF BULK AT MOST 1048576: true; the input reads as it did. -/
def glyphGoesUptoRow : OpenClaim := { program := "ytmfallijaeldkaadoor", sum := "c2ac30d1aca5be7137b01e78db20f325a9a9cf1eee20fb2e7b4929868ea05bec", func := "typebar/typebarlaw01.GlyphGoes", spec := "glyphGoes", named := ["unicode/utf8.first", "unicode/utf8.acceptRanges"], apart := false, laid := [("unicode/utf8.acceptRanges", laid_unicode_utf8_acceptRanges), ("unicode/utf8.first", laid_unicode_utf8_first)], narrowed := true }
def GlyphGoesUptoSaid : Prop := glyphGoesUptoRow.holds Tryd.pinned (OpenSpec.upto glyphGoesSpec)

/-- 'typebarlaw01.GlyphMore', WHERE WHAT IT READS IS OF BULK AT MOST 1048576: true; the input reads as it did. -/
def glyphMoreUptoRow : OpenClaim := { program := "ytmfallijaeldkaadoor", sum := "c2ac30d1aca5be7137b01e78db20f325a9a9cf1eee20fb2e7b4929868ea05bec", func := "typebar/typebarlaw01.GlyphMore", spec := "glyphMore", named := ["unicode/utf8.first", "unicode/utf8.acceptRanges"], apart := false, laid := [("unicode/utf8.acceptRanges", laid_unicode_utf8_acceptRanges), ("unicode/utf8.first", laid_unicode_utf8_first)], narrowed := true }
def GlyphMoreUptoSaid : Prop := glyphMoreUptoRow.holds Tryd.pinned (OpenSpec.upto glyphMoreSpec)

end Rows
end Go.Proofs.YtmfallijaeldkaaDoor
