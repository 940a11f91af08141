/-
  What the rows of this seat list: the library's two tables; a world that holds them; what the list gives the walks. No condition. (The frame is turned from the kit's worked row over a table.)
-/
import Derived.Test.YtmfjndoljdpliaaDoorCards
import Derived.Test.YtmfjndoljdpliaaDoorTie
import Derived.Test.YtmfjndoljdpliaaDoorWalk01a
import Derived.Deep.DeepHandedRow
import Derived.Lib.LaidTab
import Derived.Lib.LaidU8
import Derived.ProofKit
namespace Go.Proofs.YtmfjndoljdpliaaDoor.door
open Go.RowKit

theorem own : ownKnob Tryd.prog.godebug = none := by kernel_rfl
theorem laidOut : laidOutB Tryd.prog = true := by kernel_rfl
theorem first_is : Rows.laid_unicode_utf8_first = Lib.firstData := by kernel_rfl
theorem accept_is : (Rows.laid_unicode_utf8_acceptRanges : DataW Unit) = Lib.acceptData := by kernel_rfl
theorem tabs {W : World} (h : laidMetH Tryd.prog [("unicode/utf8.acceptRanges", Rows.laid_unicode_utf8_acceptRanges), ("unicode/utf8.first", Rows.laid_unicode_utf8_first)] W) : walk.TB W := by
  have h4 := Lib.laidMet.reads h (.head _)
  have h3 := Lib.laidMet.reads h (.tail _ (.head _))
  rw [first_is] at h3
  rw [accept_is] at h4
  exact utf8Tabs_of_reads Tryd.lays260 ⟨by kernel_rfl, by kernel_rfl, by kernel_rfl, by kernel_rfl, by kernel_rfl, by kernel_rfl, by kernel_rfl⟩ h3 h4

def put (h : Array Obj) (g : Nat) (cs : Array Value) : Array Obj := h.modify g fun
  | .cells _ t frozen => .cells cs t frozen
  | o => o
noncomputable def laidWorld (os : Os) : World :=
  { World.holding Tryd.prog os ⟨#[], #[], []⟩ with
    heap := put (put (World.holding Tryd.prog os ⟨#[], #[], []⟩).heap 1 (Lib.firstTab.map fun z => Value.int .u8 z).toArray) 2
      ((List.range 16).flatMap fun i => [Value.int .u8 (Lib.accLo i), Value.int .u8 (Lib.accHi i)]).toArray }
theorem laid_met (os : Os) (args : Array Value) : laidMet Tryd.prog [("unicode/utf8.acceptRanges", Rows.laid_unicode_utf8_acceptRanges), ("unicode/utf8.first", Rows.laid_unicode_utf8_first)] ((laidWorld os).forCall (fun _ _ => 0) ⟨#[], args, []⟩).memory :=
  laidMet_of_run' 8 (by kernel_rfl) (by kernel_rfl)
end Go.Proofs.YtmfjndoljdpliaaDoor.door
