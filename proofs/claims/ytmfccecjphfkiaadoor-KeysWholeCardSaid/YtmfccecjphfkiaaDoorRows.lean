/-
  NARROWER THAN 'FOR EVERY INPUT', by the rows' own cells (each row's printed sentence says how): KeysOne: laid · KeysRest: laid · KeysFeed: laid · KeysStays: laid · KeysWhole: laid · KeysLate: laid.
  DERIVED. THE GIVEN ROWS OF THIS SEAT. 6 by the template 'for every input the law returns true; each argument reads behind the call as it read before'; 0 by the template 'total and deterministic' (their statements: YtmfccecjphfkiaaDoorTotals.lean).
  GIVEN WITH THE SEED: the statements are not yours to turn. If you find one false, say at which input.
  Laid BY PROGRAM, IN A SANDBOX (cutbox-rows.mjs): the forced cells as the released guide's own fill.sh prints them over the translation 262f6192b58e08df… (all of the seat's roots in one cut). By AI agents, Wed Nov 11 2026. No macro, syntax, notation, axiom, sorry.
-/
import Derived.Test.YtmfccecjphfkiaaDoorChecked
import GoSem.PinnedTables
import GoSem.Claim
import GoSem.ClaimJoined
import GoSem.ClaimMapViews
import Derived.JoinedTies
import Derived.KernelRfl
namespace Go.Proofs.YtmfccecjphfkiaaDoor
/- THE CELL 'sum', in the pinned program and in every row, IS THE sha256 OF THE DUMP (.gsa) THAT YtmfccecjphfkiaaDoorProg.lean LOADS. Nothing in Lean hashes anything: it is a label: what it is worth is what the hold of that sum in a sandbox is worth. -/
noncomputable def Tryd.pinned : Pinned := { name := "ytmfccecjphfkiaadoor", sum := "262f6192b58e08df5028300570c4ad15caf9acf610432683f227a9bd61411b86", checked := Tryd.checked }
namespace Rows
def none {H : Type} : Left H := { results := [], args := [] }

/- WHAT THE LISTED PACKAGE-LEVEL VARIABLES READ AS WHEN THE CALL BEGINS. Each datum BY PROGRAM (the guide's laid-datum.mjs) off the statement by which the dump's own 'gosem.cut.vars' lays the variable. In a bare row this is a premise. The card (YtmfccecjphfkiaaDoorCards.lean) ties it to the program's text. -/
def laid_unicode_utf8_acceptRanges {H : Type} : DataW H := .agg [.agg [.lit (.int .u8 128), .lit (.int .u8 191)], .agg [.lit (.int .u8 160), .lit (.int .u8 191)], .agg [.lit (.int .u8 128), .lit (.int .u8 159)], .agg [.lit (.int .u8 144), .lit (.int .u8 191)], .agg [.lit (.int .u8 128), .lit (.int .u8 143)], .agg [.lit (.int .u8 0), .lit (.int .u8 0)], .agg [.lit (.int .u8 0), .lit (.int .u8 0)], .agg [.lit (.int .u8 0), .lit (.int .u8 0)], .agg [.lit (.int .u8 0), .lit (.int .u8 0)], .agg [.lit (.int .u8 0), .lit (.int .u8 0)], .agg [.lit (.int .u8 0), .lit (.int .u8 0)], .agg [.lit (.int .u8 0), .lit (.int .u8 0)], .agg [.lit (.int .u8 0), .lit (.int .u8 0)], .agg [.lit (.int .u8 0), .lit (.int .u8 0)], .agg [.lit (.int .u8 0), .lit (.int .u8 0)], .agg [.lit (.int .u8 0), .lit (.int .u8 0)]]
/-- One of Go's own tables, pinned by name: the form's constant. -/
def laid_unicode_utf8_first : DataW Unit := Go.Pinned.utf8First

/-- 'typebarlaw16.KeysOne': WHATEVER THE INPUT: true; the input reads as it did. -/
def keysOneSpec : ChangeSpec := { name := "keysOne", fn := fun _ => fun
  | [d] => { results := [.lit (.bool true)], args := [d] }
  | _ => none }
def keysOneRow : OpenClaim := { program := "ytmfccecjphfkiaadoor", sum := "262f6192b58e08df5028300570c4ad15caf9acf610432683f227a9bd61411b86", func := "typebar/typebarlaw16.KeysOne", spec := "keysOne", named := ["unicode/utf8.first", "unicode/utf8.acceptRanges"], apart := false, laid := [("unicode/utf8.acceptRanges", laid_unicode_utf8_acceptRanges), ("unicode/utf8.first", laid_unicode_utf8_first)] }
def KeysOneSaid : Prop := keysOneRow.holds Tryd.pinned (OpenSpec.ofChange keysOneSpec)

/-- ITS FALSE NEIGHBOUR: 'it returns false'. Refute it at one input. -/
def keysOneWrong : ChangeSpec := { name := "keysOne", fn := fun _ => fun
  | [d] => { results := [.lit (.bool false)], args := [d] }
  | _ => none }
def KeysOneWrongFalsely : Prop := keysOneRow.holds Tryd.pinned (OpenSpec.ofChange keysOneWrong)

/-- 'typebarlaw16.KeysRest': WHATEVER THE INPUT: true; the input reads as it did. -/
def keysRestSpec : ChangeSpec := { name := "keysRest", fn := fun _ => fun
  | [d1, d2, d3, d4] => { results := [.lit (.bool true)], args := [d1, d2, d3, d4] }
  | _ => none }
def keysRestRow : OpenClaim := { program := "ytmfccecjphfkiaadoor", sum := "262f6192b58e08df5028300570c4ad15caf9acf610432683f227a9bd61411b86", func := "typebar/typebarlaw16.KeysRest", spec := "keysRest", named := ["unicode/utf8.first", "unicode/utf8.acceptRanges"], apart := false, laid := [("unicode/utf8.acceptRanges", laid_unicode_utf8_acceptRanges), ("unicode/utf8.first", laid_unicode_utf8_first)] }
def KeysRestSaid : Prop := keysRestRow.holds Tryd.pinned (OpenSpec.ofChange keysRestSpec)

/-- ITS FALSE NEIGHBOUR: 'it returns false'. Refute it at one input. -/
def keysRestWrong : ChangeSpec := { name := "keysRest", fn := fun _ => fun
  | [d1, d2, d3, d4] => { results := [.lit (.bool false)], args := [d1, d2, d3, d4] }
  | _ => none }
def KeysRestWrongFalsely : Prop := keysRestRow.holds Tryd.pinned (OpenSpec.ofChange keysRestWrong)

/-- 'typebarlaw16.KeysFeed': WHATEVER THE INPUT: true; the input reads as it did. -/
def keysFeedSpec : ChangeSpec := { name := "keysFeed", fn := fun _ => fun
  | [d1, d2, d3] => { results := [.lit (.bool true)], args := [d1, d2, d3] }
  | _ => none }
def keysFeedRow : OpenClaim := { program := "ytmfccecjphfkiaadoor", sum := "262f6192b58e08df5028300570c4ad15caf9acf610432683f227a9bd61411b86", func := "typebar/typebarlaw16.KeysFeed", spec := "keysFeed", named := ["unicode/utf8.first", "unicode/utf8.acceptRanges"], apart := false, laid := [("unicode/utf8.acceptRanges", laid_unicode_utf8_acceptRanges), ("unicode/utf8.first", laid_unicode_utf8_first)] }
def KeysFeedSaid : Prop := keysFeedRow.holds Tryd.pinned (OpenSpec.ofChange keysFeedSpec)

/-- ITS FALSE NEIGHBOUR: 'it returns false'. Refute it at one input. -/
def keysFeedWrong : ChangeSpec := { name := "keysFeed", fn := fun _ => fun
  | [d1, d2, d3] => { results := [.lit (.bool false)], args := [d1, d2, d3] }
  | _ => none }
def KeysFeedWrongFalsely : Prop := keysFeedRow.holds Tryd.pinned (OpenSpec.ofChange keysFeedWrong)

/-- 'typebarlaw16.KeysStays': WHATEVER THE INPUT: true; the input reads as it did. -/
def keysStaysSpec : ChangeSpec := { name := "keysStays", fn := fun _ => fun
  | [d1, d2] => { results := [.lit (.bool true)], args := [d1, d2] }
  | _ => none }
def keysStaysRow : OpenClaim := { program := "ytmfccecjphfkiaadoor", sum := "262f6192b58e08df5028300570c4ad15caf9acf610432683f227a9bd61411b86", func := "typebar/typebarlaw16.KeysStays", spec := "keysStays", named := ["unicode/utf8.first", "unicode/utf8.acceptRanges"], apart := false, laid := [("unicode/utf8.acceptRanges", laid_unicode_utf8_acceptRanges), ("unicode/utf8.first", laid_unicode_utf8_first)] }
def KeysStaysSaid : Prop := keysStaysRow.holds Tryd.pinned (OpenSpec.ofChange keysStaysSpec)

/-- ITS FALSE NEIGHBOUR: 'it returns false'. Refute it at one input. -/
def keysStaysWrong : ChangeSpec := { name := "keysStays", fn := fun _ => fun
  | [d1, d2] => { results := [.lit (.bool false)], args := [d1, d2] }
  | _ => none }
def KeysStaysWrongFalsely : Prop := keysStaysRow.holds Tryd.pinned (OpenSpec.ofChange keysStaysWrong)

/-- 'typebarlaw16.KeysWhole': WHATEVER THE INPUT: true; the input reads as it did. -/
def keysWholeSpec : ChangeSpec := { name := "keysWhole", fn := fun _ => fun
  | [d1, d2, d3] => { results := [.lit (.bool true)], args := [d1, d2, d3] }
  | _ => none }
def keysWholeRow : OpenClaim := { program := "ytmfccecjphfkiaadoor", sum := "262f6192b58e08df5028300570c4ad15caf9acf610432683f227a9bd61411b86", func := "typebar/typebarlaw16.KeysWhole", spec := "keysWhole", named := ["unicode/utf8.first", "unicode/utf8.acceptRanges"], apart := false, laid := [("unicode/utf8.acceptRanges", laid_unicode_utf8_acceptRanges), ("unicode/utf8.first", laid_unicode_utf8_first)] }
def KeysWholeSaid : Prop := keysWholeRow.holds Tryd.pinned (OpenSpec.ofChange keysWholeSpec)

/-- ITS FALSE NEIGHBOUR: 'it returns false'. Refute it at one input. -/
def keysWholeWrong : ChangeSpec := { name := "keysWhole", fn := fun _ => fun
  | [d1, d2, d3] => { results := [.lit (.bool false)], args := [d1, d2, d3] }
  | _ => none }
def KeysWholeWrongFalsely : Prop := keysWholeRow.holds Tryd.pinned (OpenSpec.ofChange keysWholeWrong)

/-- 'typebarlaw16.KeysLate': WHATEVER THE INPUT: true; the input reads as it did. -/
def keysLateSpec : ChangeSpec := { name := "keysLate", fn := fun _ => fun
  | [d1, d2, d3, d4, d5] => { results := [.lit (.bool true)], args := [d1, d2, d3, d4, d5] }
  | _ => none }
def keysLateRow : OpenClaim := { program := "ytmfccecjphfkiaadoor", sum := "262f6192b58e08df5028300570c4ad15caf9acf610432683f227a9bd61411b86", func := "typebar/typebarlaw16.KeysLate", spec := "keysLate", named := ["unicode/utf8.first", "unicode/utf8.acceptRanges"], apart := false, laid := [("unicode/utf8.acceptRanges", laid_unicode_utf8_acceptRanges), ("unicode/utf8.first", laid_unicode_utf8_first)] }
def KeysLateSaid : Prop := keysLateRow.holds Tryd.pinned (OpenSpec.ofChange keysLateSpec)

/-- ITS FALSE NEIGHBOUR: 'it returns false'. Refute it at one input. -/
def keysLateWrong : ChangeSpec := { name := "keysLate", fn := fun _ => fun
  | [d1, d2, d3, d4, d5] => { results := [.lit (.bool false)], args := [d1, d2, d3, d4, d5] }
  | _ => none }
def KeysLateWrongFalsely : Prop := keysLateRow.holds Tryd.pinned (OpenSpec.ofChange keysLateWrong)

/- THE SECOND FORM. 'bulk': how many values and letters a reading holds, each counted each time it is reached (what is shared counts as often as it is met; a slice's spare places count too). A statement '..UptoSaid' is the law's where the arguments, and the package variables that the reading takes, are together of bulk at most 1048576: NARROWER than '..Said'. Prove '..Said' where nothing that the law and all that it calls make is longer than what came in: it says more and counts as full. Else prove '..UptoSaid'. A law counts once. -/
mutual
def uptoBulk {H : Type} : DataW H → Nat
  | .lit (.string bytes) => bytes.length + 1
  | .lit _ => 1
  | .nil => 1
  | .ptr d => uptoBulk d + 1
  | .slice elems spare => uptoBulkAll elems + uptoBulkAll spare + 1
  | .agg parts => uptoBulkAll parts + 1
  | .iface _ d => uptoBulk d + 1
  | .map entries => uptoBulkEntries entries + 1
  | .held _ => 1
def uptoBulkAll {H : Type} : List (DataW H) → Nat
  | [] => 0
  | d :: r => uptoBulk d + uptoBulkAll r
def uptoBulkEntries {H : Type} : List (Lit × DataW H) → Nat
  | [] => 0
  | x :: r => uptoBulkEntry x + uptoBulkEntries r
def uptoBulkEntry {H : Type} : Lit × DataW H → Nat
  | (.string bytes, d) => bytes.length + uptoBulk d + 1
  | (_, d) => uptoBulk d + 1
 end
def uptoSmall : (H : Type) → List (DataW H) → Bool := fun _ ds => decide (uptoBulkAll ds ≤ 1048576)
def OpenSpec.upto (s : _root_.Go.ChangeSpec) : _root_.Go.OpenSpec := { _root_.Go.OpenSpec.ofChange s with cond := some uptoSmall }

/-- 'typebarlaw16.KeysOne', WHERE WHAT IT READS IS OF BULK AT MOST 1048576: true; the input reads as it did. -/
def keysOneUptoRow : OpenClaim := { program := "ytmfccecjphfkiaadoor", sum := "262f6192b58e08df5028300570c4ad15caf9acf610432683f227a9bd61411b86", func := "typebar/typebarlaw16.KeysOne", spec := "keysOne", named := ["unicode/utf8.first", "unicode/utf8.acceptRanges"], apart := false, laid := [("unicode/utf8.acceptRanges", laid_unicode_utf8_acceptRanges), ("unicode/utf8.first", laid_unicode_utf8_first)], narrowed := true }
def KeysOneUptoSaid : Prop := keysOneUptoRow.holds Tryd.pinned (OpenSpec.upto keysOneSpec)

/-- 'typebarlaw16.KeysRest', WHERE WHAT IT READS IS OF BULK AT MOST 1048576: true; the input reads as it did. -/
def keysRestUptoRow : OpenClaim := { program := "ytmfccecjphfkiaadoor", sum := "262f6192b58e08df5028300570c4ad15caf9acf610432683f227a9bd61411b86", func := "typebar/typebarlaw16.KeysRest", spec := "keysRest", named := ["unicode/utf8.first", "unicode/utf8.acceptRanges"], apart := false, laid := [("unicode/utf8.acceptRanges", laid_unicode_utf8_acceptRanges), ("unicode/utf8.first", laid_unicode_utf8_first)], narrowed := true }
def KeysRestUptoSaid : Prop := keysRestUptoRow.holds Tryd.pinned (OpenSpec.upto keysRestSpec)

/-- 'typebarlaw16.KeysFeed', WHERE WHAT IT READS IS OF BULK AT MOST 1048576: true; the input reads as it did. -/
def keysFeedUptoRow : OpenClaim := { program := "ytmfccecjphfkiaadoor", sum := "262f6192b58e08df5028300570c4ad15caf9acf610432683f227a9bd61411b86", func := "typebar/typebarlaw16.KeysFeed", spec := "keysFeed", named := ["unicode/utf8.first", "unicode/utf8.acceptRanges"], apart := false, laid := [("unicode/utf8.acceptRanges", laid_unicode_utf8_acceptRanges), ("unicode/utf8.first", laid_unicode_utf8_first)], narrowed := true }
def KeysFeedUptoSaid : Prop := keysFeedUptoRow.holds Tryd.pinned (OpenSpec.upto keysFeedSpec)

/-- 'typebarlaw16.KeysStays', WHERE WHAT IT READS IS OF BULK AT MOST 1048576: true; the input reads as it did. -/
def keysStaysUptoRow : OpenClaim := { program := "ytmfccecjphfkiaadoor", sum := "262f6192b58e08df5028300570c4ad15caf9acf610432683f227a9bd61411b86", func := "typebar/typebarlaw16.KeysStays", spec := "keysStays", named := ["unicode/utf8.first", "unicode/utf8.acceptRanges"], apart := false, laid := [("unicode/utf8.acceptRanges", laid_unicode_utf8_acceptRanges), ("unicode/utf8.first", laid_unicode_utf8_first)], narrowed := true }
def KeysStaysUptoSaid : Prop := keysStaysUptoRow.holds Tryd.pinned (OpenSpec.upto keysStaysSpec)

/-- 'typebarlaw16.KeysWhole', WHERE WHAT IT READS IS OF BULK AT MOST 1048576: true; the input reads as it did. -/
def keysWholeUptoRow : OpenClaim := { program := "ytmfccecjphfkiaadoor", sum := "262f6192b58e08df5028300570c4ad15caf9acf610432683f227a9bd61411b86", func := "typebar/typebarlaw16.KeysWhole", spec := "keysWhole", named := ["unicode/utf8.first", "unicode/utf8.acceptRanges"], apart := false, laid := [("unicode/utf8.acceptRanges", laid_unicode_utf8_acceptRanges), ("unicode/utf8.first", laid_unicode_utf8_first)], narrowed := true }
def KeysWholeUptoSaid : Prop := keysWholeUptoRow.holds Tryd.pinned (OpenSpec.upto keysWholeSpec)

/-- 'typebarlaw16.KeysLate', WHERE WHAT IT READS IS OF BULK AT MOST 1048576: true; the input reads as it did. -/
def keysLateUptoRow : OpenClaim := { program := "ytmfccecjphfkiaadoor", sum := "262f6192b58e08df5028300570c4ad15caf9acf610432683f227a9bd61411b86", func := "typebar/typebarlaw16.KeysLate", spec := "keysLate", named := ["unicode/utf8.first", "unicode/utf8.acceptRanges"], apart := false, laid := [("unicode/utf8.acceptRanges", laid_unicode_utf8_acceptRanges), ("unicode/utf8.first", laid_unicode_utf8_first)], narrowed := true }
def KeysLateUptoSaid : Prop := keysLateUptoRow.holds Tryd.pinned (OpenSpec.upto keysLateSpec)

end Rows
end Go.Proofs.YtmfccecjphfkiaaDoor
