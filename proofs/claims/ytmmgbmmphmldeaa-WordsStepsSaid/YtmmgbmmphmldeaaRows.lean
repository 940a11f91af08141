/-
  No cell of these rows narrows 'for every input' (looked for: loops, veiled, ifaces, maps, wideKeys, modest, calm, conditions, laid).
  DERIVED. THE GIVEN ROWS OF THIS SEAT. 6 by the template 'for every input the law returns true; each argument reads behind the call as it read before'; 0 by the template 'total and deterministic' (their statements: YtmmgbmmphmldeaaTotals.lean).
  GIVEN WITH THE SEED: the statements are not yours to turn. If you find one false, say at which input.
  Laid BY PROGRAM, IN A SANDBOX (cutbox-rows.mjs): the forced cells as the released guide's own fill.sh prints them over the translation 904b9aaa6c00d6f8… (all of the seat's roots in one cut). By AI agents, Wed Nov 11 2026. No macro, syntax, notation, axiom, sorry.
-/
import Derived.Test.YtmmgbmmphmldeaaChecked
import GoSem.Claim
import GoSem.ClaimJoined
import GoSem.ClaimMapViews
import Derived.JoinedTies
import Derived.KernelRfl
namespace Go.Proofs.Ytmmgbmmphmldeaa
/- THE CELL 'sum', in the pinned program and in every row, IS THE sha256 OF THE DUMP (.gsa) THAT YtmmgbmmphmldeaaProg.lean LOADS. Nothing in Lean hashes anything: it is a label: what it is worth is what the hold of that sum in a sandbox is worth. -/
noncomputable def Try.pinned : Pinned := { name := "ytmmgbmmphmldeaa", sum := "904b9aaa6c00d6f8296f5fca0a1c4f18d88bdedb0f018328e3930b51ed36f0e9", checked := Try.checked }
namespace Rows
def none {H : Type} : Left H := { results := [], args := [] }

/-- 'typebarlaw11.WordsKinds': WHATEVER THE INPUT: true; the input reads as it did. -/
def wordsKindsSpec : ChangeSpec := { name := "wordsKinds", fn := fun _ => fun
  | [d] => { results := [.lit (.bool true)], args := [d] }
  | _ => none }
def wordsKindsRow : OpenClaim := { program := "ytmmgbmmphmldeaa", sum := "904b9aaa6c00d6f8296f5fca0a1c4f18d88bdedb0f018328e3930b51ed36f0e9", func := "typebar/typebarlaw11.WordsKinds", spec := "wordsKinds", unfollowed := true, recurses := true, apart := false }
def WordsKindsSaid : Prop := wordsKindsRow.holds Try.pinned (OpenSpec.ofChange wordsKindsSpec)

/-- ITS FALSE NEIGHBOUR: 'it returns false'. Refute it at one input. -/
def wordsKindsWrong : ChangeSpec := { name := "wordsKinds", fn := fun _ => fun
  | [d] => { results := [.lit (.bool false)], args := [d] }
  | _ => none }
def WordsKindsWrongFalsely : Prop := wordsKindsRow.holds Try.pinned (OpenSpec.ofChange wordsKindsWrong)

/-- 'typebarlaw11.WordsEnds': WHATEVER THE INPUT: true; the input reads as it did. -/
def wordsEndsSpec : ChangeSpec := { name := "wordsEnds", fn := fun _ => fun
  | [d1, d2] => { results := [.lit (.bool true)], args := [d1, d2] }
  | _ => none }
def wordsEndsRow : OpenClaim := { program := "ytmmgbmmphmldeaa", sum := "904b9aaa6c00d6f8296f5fca0a1c4f18d88bdedb0f018328e3930b51ed36f0e9", func := "typebar/typebarlaw11.WordsEnds", spec := "wordsEnds", unfollowed := true, recurses := true, apart := false }
def WordsEndsSaid : Prop := wordsEndsRow.holds Try.pinned (OpenSpec.ofChange wordsEndsSpec)

/-- ITS FALSE NEIGHBOUR: 'it returns false'. Refute it at one input. -/
def wordsEndsWrong : ChangeSpec := { name := "wordsEnds", fn := fun _ => fun
  | [d1, d2] => { results := [.lit (.bool false)], args := [d1, d2] }
  | _ => none }
def WordsEndsWrongFalsely : Prop := wordsEndsRow.holds Try.pinned (OpenSpec.ofChange wordsEndsWrong)

/-- 'typebarlaw11.WordsBegins': WHATEVER THE INPUT: true; the input reads as it did. -/
def wordsBeginsSpec : ChangeSpec := { name := "wordsBegins", fn := fun _ => fun
  | [d1, d2] => { results := [.lit (.bool true)], args := [d1, d2] }
  | _ => none }
def wordsBeginsRow : OpenClaim := { program := "ytmmgbmmphmldeaa", sum := "904b9aaa6c00d6f8296f5fca0a1c4f18d88bdedb0f018328e3930b51ed36f0e9", func := "typebar/typebarlaw11.WordsBegins", spec := "wordsBegins", unfollowed := true, recurses := true, apart := false }
def WordsBeginsSaid : Prop := wordsBeginsRow.holds Try.pinned (OpenSpec.ofChange wordsBeginsSpec)

/-- ITS FALSE NEIGHBOUR: 'it returns false'. Refute it at one input. -/
def wordsBeginsWrong : ChangeSpec := { name := "wordsBegins", fn := fun _ => fun
  | [d1, d2] => { results := [.lit (.bool false)], args := [d1, d2] }
  | _ => none }
def WordsBeginsWrongFalsely : Prop := wordsBeginsRow.holds Try.pinned (OpenSpec.ofChange wordsBeginsWrong)

/-- 'typebarlaw11.WordsMirror': WHATEVER THE INPUT: true; the input reads as it did. -/
def wordsMirrorSpec : ChangeSpec := { name := "wordsMirror", fn := fun _ => fun
  | [d1, d2] => { results := [.lit (.bool true)], args := [d1, d2] }
  | _ => none }
def wordsMirrorRow : OpenClaim := { program := "ytmmgbmmphmldeaa", sum := "904b9aaa6c00d6f8296f5fca0a1c4f18d88bdedb0f018328e3930b51ed36f0e9", func := "typebar/typebarlaw11.WordsMirror", spec := "wordsMirror", unfollowed := true, recurses := true, apart := false }
def WordsMirrorSaid : Prop := wordsMirrorRow.holds Try.pinned (OpenSpec.ofChange wordsMirrorSpec)

/-- ITS FALSE NEIGHBOUR: 'it returns false'. Refute it at one input. -/
def wordsMirrorWrong : ChangeSpec := { name := "wordsMirror", fn := fun _ => fun
  | [d1, d2] => { results := [.lit (.bool false)], args := [d1, d2] }
  | _ => none }
def WordsMirrorWrongFalsely : Prop := wordsMirrorRow.holds Try.pinned (OpenSpec.ofChange wordsMirrorWrong)

/-- 'typebarlaw11.WordsPass': WHATEVER THE INPUT: true; the input reads as it did. -/
def wordsPassSpec : ChangeSpec := { name := "wordsPass", fn := fun _ => fun
  | [d1, d2] => { results := [.lit (.bool true)], args := [d1, d2] }
  | _ => none }
def wordsPassRow : OpenClaim := { program := "ytmmgbmmphmldeaa", sum := "904b9aaa6c00d6f8296f5fca0a1c4f18d88bdedb0f018328e3930b51ed36f0e9", func := "typebar/typebarlaw11.WordsPass", spec := "wordsPass", unfollowed := true, recurses := true, apart := false }
def WordsPassSaid : Prop := wordsPassRow.holds Try.pinned (OpenSpec.ofChange wordsPassSpec)

/-- ITS FALSE NEIGHBOUR: 'it returns false'. Refute it at one input. -/
def wordsPassWrong : ChangeSpec := { name := "wordsPass", fn := fun _ => fun
  | [d1, d2] => { results := [.lit (.bool false)], args := [d1, d2] }
  | _ => none }
def WordsPassWrongFalsely : Prop := wordsPassRow.holds Try.pinned (OpenSpec.ofChange wordsPassWrong)

/-- 'typebarlaw11.WordsSteps': WHATEVER THE INPUT: true; the input reads as it did. -/
def wordsStepsSpec : ChangeSpec := { name := "wordsSteps", fn := fun _ => fun
  | [d] => { results := [.lit (.bool true)], args := [d] }
  | _ => none }
def wordsStepsRow : OpenClaim := { program := "ytmmgbmmphmldeaa", sum := "904b9aaa6c00d6f8296f5fca0a1c4f18d88bdedb0f018328e3930b51ed36f0e9", func := "typebar/typebarlaw11.WordsSteps", spec := "wordsSteps", unfollowed := true, recurses := true, apart := false }
def WordsStepsSaid : Prop := wordsStepsRow.holds Try.pinned (OpenSpec.ofChange wordsStepsSpec)

/-- ITS FALSE NEIGHBOUR: 'it returns false'. Refute it at one input. -/
def wordsStepsWrong : ChangeSpec := { name := "wordsSteps", fn := fun _ => fun
  | [d] => { results := [.lit (.bool false)], args := [d] }
  | _ => none }
def WordsStepsWrongFalsely : Prop := wordsStepsRow.holds Try.pinned (OpenSpec.ofChange wordsStepsWrong)

/- THE SECOND FORM. 'bulk': how many values and letters a reading holds, each counted each time it is reached (what is shared counts as often as it is met; a slice's spare places count too). A statement '..UptoSaid' is the law's where the arguments, and the package variables that the reading takes, are together of bulk at most 1048576: NARROWER than '..Said'. Prove '..Said' where nothing that the law and all that it calls make is longer than what came in: it says more and counts as full. Else prove '..UptoSaid'. A law counts once. -/
mutual
def uptoBulk {H : Type} : DataW H → Nat
  | .lit (.string bytes) => bytes.length + 1
  | .lit _ => 1
  | .nil => 1
  | .ptr d => uptoBulk d + 1
  | .slice elems spare => uptoBulkAll elems + uptoBulkAll spare + 1
  | .agg parts => uptoBulkAll parts + 1
  | .iface _ d => uptoBulk d + 1
  | .map entries => uptoBulkEntries entries + 1
  | .held _ => 1
def uptoBulkAll {H : Type} : List (DataW H) → Nat
  | [] => 0
  | d :: r => uptoBulk d + uptoBulkAll r
def uptoBulkEntries {H : Type} : List (Lit × DataW H) → Nat
  | [] => 0
  | x :: r => uptoBulkEntry x + uptoBulkEntries r
def uptoBulkEntry {H : Type} : Lit × DataW H → Nat
  | (.string bytes, d) => bytes.length + uptoBulk d + 1
  | (_, d) => uptoBulk d + 1
 end
def uptoSmall : (H : Type) → List (DataW H) → Bool := fun _ ds => decide (uptoBulkAll ds ≤ 1048576)
def OpenSpec.upto (s : _root_.Go.ChangeSpec) : _root_.Go.OpenSpec := { _root_.Go.OpenSpec.ofChange s with cond := some uptoSmall }

/-- 'typebarlaw11.WordsKinds', WHERE WHAT IT READS IS OF BULK AT MOST 1048576: true; the input reads as it did. -/
def wordsKindsUptoRow : OpenClaim := { program := "ytmmgbmmphmldeaa", sum := "904b9aaa6c00d6f8296f5fca0a1c4f18d88bdedb0f018328e3930b51ed36f0e9", func := "typebar/typebarlaw11.WordsKinds", spec := "wordsKinds", unfollowed := true, recurses := true, apart := false, narrowed := true }
def WordsKindsUptoSaid : Prop := wordsKindsUptoRow.holds Try.pinned (OpenSpec.upto wordsKindsSpec)

/-- 'typebarlaw11.WordsEnds', WHERE WHAT IT READS IS OF BULK AT MOST 1048576: true; the input reads as it did. -/
def wordsEndsUptoRow : OpenClaim := { program := "ytmmgbmmphmldeaa", sum := "904b9aaa6c00d6f8296f5fca0a1c4f18d88bdedb0f018328e3930b51ed36f0e9", func := "typebar/typebarlaw11.WordsEnds", spec := "wordsEnds", unfollowed := true, recurses := true, apart := false, narrowed := true }
def WordsEndsUptoSaid : Prop := wordsEndsUptoRow.holds Try.pinned (OpenSpec.upto wordsEndsSpec)

/-- 'typebarlaw11.WordsBegins', WHERE WHAT IT READS IS OF BULK AT MOST 1048576: true; the input reads as it did. -/
def wordsBeginsUptoRow : OpenClaim := { program := "ytmmgbmmphmldeaa", sum := "904b9aaa6c00d6f8296f5fca0a1c4f18d88bdedb0f018328e3930b51ed36f0e9", func := "typebar/typebarlaw11.WordsBegins", spec := "wordsBegins", unfollowed := true, recurses := true, apart := false, narrowed := true }
def WordsBeginsUptoSaid : Prop := wordsBeginsUptoRow.holds Try.pinned (OpenSpec.upto wordsBeginsSpec)

/-- 'typebarlaw11.WordsMirror', WHERE WHAT IT READS IS OF BULK AT MOST 1048576: true; the input reads as it did. -/
def wordsMirrorUptoRow : OpenClaim := { program := "ytmmgbmmphmldeaa", sum := "904b9aaa6c00d6f8296f5fca0a1c4f18d88bdedb0f018328e3930b51ed36f0e9", func := "typebar/typebarlaw11.WordsMirror", spec := "wordsMirror", unfollowed := true, recurses := true, apart := false, narrowed := true }
def WordsMirrorUptoSaid : Prop := wordsMirrorUptoRow.holds Try.pinned (OpenSpec.upto wordsMirrorSpec)

/-- 'typebarlaw11.WordsPass', WHERE WHAT IT READS IS OF BULK AT MOST 1048576: true; the input reads as it did. -/
def wordsPassUptoRow : OpenClaim := { program := "ytmmgbmmphmldeaa", sum := "904b9aaa6c00d6f8296f5fca0a1c4f18d88bdedb0f018328e3930b51ed36f0e9", func := "typebar/typebarlaw11.WordsPass", spec := "wordsPass", unfollowed := true, recurses := true, apart := false, narrowed := true }
def WordsPassUptoSaid : Prop := wordsPassUptoRow.holds Try.pinned (OpenSpec.upto wordsPassSpec)

/-- 'typebarlaw11.WordsSteps', WHERE WHAT IT READS IS OF BULK AT MOST 1048576: true; the input reads as it did. -/
def wordsStepsUptoRow : OpenClaim := { program := "ytmmgbmmphmldeaa", sum := "904b9aaa6c00d6f8296f5fca0a1c4f18d88bdedb0f018328e3930b51ed36f0e9", func := "typebar/typebarlaw11.WordsSteps", spec := "wordsSteps", unfollowed := true, recurses := true, apart := false, narrowed := true }
def WordsStepsUptoSaid : Prop := wordsStepsUptoRow.holds Try.pinned (OpenSpec.upto wordsStepsSpec)

end Rows
end Go.Proofs.Ytmmgbmmphmldeaa
