/-
  No cell of these rows narrows 'for every input' (looked for: loops, veiled, ifaces, maps, wideKeys, modest, calm, conditions, laid).
  DERIVED. THE GIVEN ROWS OF THIS SEAT. 4 by the template 'for every input the law returns true; each argument reads behind the call as it read before'; 0 by the template 'total and deterministic' (their statements: YtifaccolbmcgjaaTotals.lean).
  GIVEN WITH THE SEED: the statements are not yours to turn. If you find one false, say at which input.
  Laid BY PROGRAM, IN A SANDBOX (cutbox-rows.mjs): the forced cells as the released guide's own fill.sh prints them over the translation f41108b851cbb5de… (all of the seat's roots in one cut). By AI agents, Wed Nov 11 2026. No macro, syntax, notation, axiom, sorry.
-/
import Derived.Test.YtifaccolbmcgjaaChecked
import GoSem.Claim
import GoSem.ClaimJoined
import GoSem.ClaimMapViews
import Derived.JoinedTies
import Derived.KernelRfl
namespace Go.Proofs.Ytifaccolbmcgjaa
/- THE CELL 'sum', in the pinned program and in every row, IS THE sha256 OF THE DUMP (.gsa) THAT YtifaccolbmcgjaaProg.lean LOADS. Nothing in Lean hashes anything: it is a label: what it is worth is what the hold of that sum in a sandbox is worth. -/
noncomputable def Try.pinned : Pinned := { name := "ytifaccolbmcgjaa", sum := "f41108b851cbb5de09f875f9285e46ac41f226bb9808172a1817804099729b93", checked := Try.checked }
namespace Rows
def none {H : Type} : Left H := { results := [], args := [] }

/-- 'typebarlaw15.CountDoes': WHATEVER THE INPUT: true; the input reads as it did. -/
def countDoesSpec : ChangeSpec := { name := "countDoes", fn := fun _ => fun
  | [d1, d2] => { results := [.lit (.bool true)], args := [d1, d2] }
  | _ => none }
def countDoesRow : OpenClaim := { program := "ytifaccolbmcgjaa", sum := "f41108b851cbb5de09f875f9285e46ac41f226bb9808172a1817804099729b93", func := "typebar/typebarlaw15.CountDoes", spec := "countDoes", apart := false }
def CountDoesSaid : Prop := countDoesRow.holds Try.pinned (OpenSpec.ofChange countDoesSpec)

/-- ITS FALSE NEIGHBOUR: 'it returns false'. Refute it at one input. -/
def countDoesWrong : ChangeSpec := { name := "countDoes", fn := fun _ => fun
  | [d1, d2] => { results := [.lit (.bool false)], args := [d1, d2] }
  | _ => none }
def CountDoesWrongFalsely : Prop := countDoesRow.holds Try.pinned (OpenSpec.ofChange countDoesWrong)

/-- 'typebarlaw15.CountTells': WHATEVER THE INPUT: true; the input reads as it did. -/
def countTellsSpec : ChangeSpec := { name := "countTells", fn := fun _ => fun
  | [d] => { results := [.lit (.bool true)], args := [d] }
  | _ => none }
def countTellsRow : OpenClaim := { program := "ytifaccolbmcgjaa", sum := "f41108b851cbb5de09f875f9285e46ac41f226bb9808172a1817804099729b93", func := "typebar/typebarlaw15.CountTells", spec := "countTells", apart := false }
def CountTellsSaid : Prop := countTellsRow.holds Try.pinned (OpenSpec.ofChange countTellsSpec)

/-- ITS FALSE NEIGHBOUR: 'it returns false'. Refute it at one input. -/
def countTellsWrong : ChangeSpec := { name := "countTells", fn := fun _ => fun
  | [d] => { results := [.lit (.bool false)], args := [d] }
  | _ => none }
def CountTellsWrongFalsely : Prop := countTellsRow.holds Try.pinned (OpenSpec.ofChange countTellsWrong)

/-- 'typebarlaw15.CountStays': WHATEVER THE INPUT: true; the input reads as it did. -/
def countStaysSpec : ChangeSpec := { name := "countStays", fn := fun _ => fun
  | [d1, d2] => { results := [.lit (.bool true)], args := [d1, d2] }
  | _ => none }
def countStaysRow : OpenClaim := { program := "ytifaccolbmcgjaa", sum := "f41108b851cbb5de09f875f9285e46ac41f226bb9808172a1817804099729b93", func := "typebar/typebarlaw15.CountStays", spec := "countStays", apart := false }
def CountStaysSaid : Prop := countStaysRow.holds Try.pinned (OpenSpec.ofChange countStaysSpec)

/-- ITS FALSE NEIGHBOUR: 'it returns false'. Refute it at one input. -/
def countStaysWrong : ChangeSpec := { name := "countStays", fn := fun _ => fun
  | [d1, d2] => { results := [.lit (.bool false)], args := [d1, d2] }
  | _ => none }
def CountStaysWrongFalsely : Prop := countStaysRow.holds Try.pinned (OpenSpec.ofChange countStaysWrong)

/-- 'typebarlaw15.CountReads': WHATEVER THE INPUT: true; the input reads as it did. -/
def countReadsSpec : ChangeSpec := { name := "countReads", fn := fun _ => fun
  | [d1, d2, d3] => { results := [.lit (.bool true)], args := [d1, d2, d3] }
  | _ => none }
def countReadsRow : OpenClaim := { program := "ytifaccolbmcgjaa", sum := "f41108b851cbb5de09f875f9285e46ac41f226bb9808172a1817804099729b93", func := "typebar/typebarlaw15.CountReads", spec := "countReads", apart := false }
def CountReadsSaid : Prop := countReadsRow.holds Try.pinned (OpenSpec.ofChange countReadsSpec)

/-- ITS FALSE NEIGHBOUR: 'it returns false'. Refute it at one input. -/
def countReadsWrong : ChangeSpec := { name := "countReads", fn := fun _ => fun
  | [d1, d2, d3] => { results := [.lit (.bool false)], args := [d1, d2, d3] }
  | _ => none }
def CountReadsWrongFalsely : Prop := countReadsRow.holds Try.pinned (OpenSpec.ofChange countReadsWrong)

/- THE SECOND FORM. 'bulk': how many values and letters a reading holds, each counted each time it is reached (what is shared counts as often as it is met; a slice's spare places count too). A statement '..UptoSaid' is the law's where the arguments, and the package variables that the reading takes, are together of bulk at most 1048576: NARROWER than '..Said'. Prove '..Said' where nothing that the law and all that it calls make is longer than what came in: it says more and counts as full. Else prove '..UptoSaid'. A law counts once. -/
mutual
def uptoBulk {H : Type} : DataW H → Nat
  | .lit (.string bytes) => bytes.length + 1
  | .lit _ => 1
  | .nil => 1
  | .ptr d => uptoBulk d + 1
  | .slice elems spare => uptoBulkAll elems + uptoBulkAll spare + 1
  | .agg parts => uptoBulkAll parts + 1
  | .iface _ d => uptoBulk d + 1
  | .map entries => uptoBulkEntries entries + 1
  | .held _ => 1
def uptoBulkAll {H : Type} : List (DataW H) → Nat
  | [] => 0
  | d :: r => uptoBulk d + uptoBulkAll r
def uptoBulkEntries {H : Type} : List (Lit × DataW H) → Nat
  | [] => 0
  | x :: r => uptoBulkEntry x + uptoBulkEntries r
def uptoBulkEntry {H : Type} : Lit × DataW H → Nat
  | (.string bytes, d) => bytes.length + uptoBulk d + 1
  | (_, d) => uptoBulk d + 1
 end
def uptoSmall : (H : Type) → List (DataW H) → Bool := fun _ ds => decide (uptoBulkAll ds ≤ 1048576)
def OpenSpec.upto (s : _root_.Go.ChangeSpec) : _root_.Go.OpenSpec := { _root_.Go.OpenSpec.ofChange s with cond := some uptoSmall }

/-- 'typebarlaw15.CountDoes', WHERE WHAT IT READS IS OF BULK AT MOST 1048576: true; the input reads as it did. -/
def countDoesUptoRow : OpenClaim := { program := "ytifaccolbmcgjaa", sum := "f41108b851cbb5de09f875f9285e46ac41f226bb9808172a1817804099729b93", func := "typebar/typebarlaw15.CountDoes", spec := "countDoes", apart := false, narrowed := true }
def CountDoesUptoSaid : Prop := countDoesUptoRow.holds Try.pinned (OpenSpec.upto countDoesSpec)

/-- 'typebarlaw15.CountTells', WHERE WHAT IT READS IS OF BULK AT MOST 1048576: true; the input reads as it did. -/
def countTellsUptoRow : OpenClaim := { program := "ytifaccolbmcgjaa", sum := "f41108b851cbb5de09f875f9285e46ac41f226bb9808172a1817804099729b93", func := "typebar/typebarlaw15.CountTells", spec := "countTells", apart := false, narrowed := true }
def CountTellsUptoSaid : Prop := countTellsUptoRow.holds Try.pinned (OpenSpec.upto countTellsSpec)

/-- 'typebarlaw15.CountStays', WHERE WHAT IT READS IS OF BULK AT MOST 1048576: true; the input reads as it did. -/
def countStaysUptoRow : OpenClaim := { program := "ytifaccolbmcgjaa", sum := "f41108b851cbb5de09f875f9285e46ac41f226bb9808172a1817804099729b93", func := "typebar/typebarlaw15.CountStays", spec := "countStays", apart := false, narrowed := true }
def CountStaysUptoSaid : Prop := countStaysUptoRow.holds Try.pinned (OpenSpec.upto countStaysSpec)

/-- 'typebarlaw15.CountReads', WHERE WHAT IT READS IS OF BULK AT MOST 1048576: true; the input reads as it did. -/
def countReadsUptoRow : OpenClaim := { program := "ytifaccolbmcgjaa", sum := "f41108b851cbb5de09f875f9285e46ac41f226bb9808172a1817804099729b93", func := "typebar/typebarlaw15.CountReads", spec := "countReads", apart := false, narrowed := true }
def CountReadsUptoSaid : Prop := countReadsUptoRow.holds Try.pinned (OpenSpec.upto countReadsSpec)

end Rows
end Go.Proofs.Ytifaccolbmcgjaa
