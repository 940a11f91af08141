/-
  The walk of the law StorePuts: it returns true for every input. No condition but the library's two tables.
-/
import Derived.Test.YtmfjndoljdpliaaDoorWalk22m
import Derived.Test.YtmfjndoljdpliaaDoorWalk22k
import Derived.Test.YtmfjndoljdpliaaDoorOpen22
namespace Go.Proofs.YtmfjndoljdpliaaDoor.walk
open Go.RowKit Go.Proofs.YtmfjndoljdpliaaDoor.kit Go.Proofs.YtmfjndoljdpliaaDoor.plain
set_option linter.unusedVariables false

/-- both puts answer alike -/
theorem put_both (R D : Int) (A : Option Addr) (n cap : Nat) (ls : List (List Int)) (hs : Short ls) :
    ∃ (S : ByteArray) (e : Int), (okPast R D ls = true → S = mkS (putL R D ls) ∧ e = 0) ∧ (okPast R D ls = false → S = ⟨#[]⟩ ∧ e = 1) ∧
      (∀ W, RowsIn W A n ls → Calls Tryd.prog 8 #[.agg #[.int .i64 R, .int .i64 D, .slice A n cap]] W fun e' W' => e' = .returned (.tuple #[.string S, .int .i64 e]) ∧ Nx W W') ∧
      (∀ W, RowsIn W A n ls → Calls Tryd.prog 16 #[.agg #[.int .i64 R, .int .i64 D, .slice A n cap]] W fun e' W' => e' = .returned (.tuple #[.string S, .int .i64 e]) ∧ Nx W W') := by
  cases h : okPast R D ls with
  | true => exact ⟨_, 0, fun _ => ⟨rfl, rfl⟩, (fun h => by cases h), fun W hz => putp_ok R D A n cap ls W hz hs h, fun W hz => rputp_ok R D A n cap ls W hz hs h⟩
  | false => exact ⟨_, 1, (fun h => by cases h), fun _ => ⟨rfl, rfl⟩, fun W hz => putp_bad R D A n cap ls W hz hs h, fun W hz => rputp_bad R D A n cap ls W hz hs h⟩
theorem short_of {ls : List (List Int)} (h : ∀ l ∈ ls, l.length ≤ 1000) : Short ls := fun l hl => by have := h l hl; omega

set_option maxRecDepth 100000 in
set_option maxHeartbeats 4000000 in
theorem storePuts_walk (w : World) (hT : TB w) (R D : Int) (A : Option Addr) (n cap : Nat) (ls : List (List Int)) (hz : RowsIn w A n ls ∧ n ≤ cap ∧ cap ≤ maxLen) :
    Calls Tryd.prog 5 #[.agg #[.int .i64 R, .int .i64 D, .slice A n cap]] w fun e w' => e = .returned (.bool true) ∧ Below w.heap.size w w' := by
  have n1 := (Nx.refl w).alloc (.cells #[.int .i64 R, .int .i64 D, .slice A n cap] 24)
  have hB := Blk.new w 24 #[.int .i64 R, .int .i64 D, .slice A n cap]
  have CB := Lib.hid (fun s W hw => big_any R D A n cap ls s W hw)
  have HZ := Lib.hid hz.1
  clear hz
  have b0 := blk3 hB
  go_enter Tryd.func5, Tryd.ntmps5
  go_wp2_with fail
  refine (CB.out _ _ (HZ.out.keep n1)).mono ?_
  clear b0
  rintro e w1 ⟨rfl | ⟨rfl, hl, hm, hk⟩, x1⟩
  · go_wp2_with fail
    go_ret
    exact ⟨rfl, n1.trans x1⟩
  · have hs := short_of hm
    have n2 := n1.trans x1
    have hB1 := hB.nx x1
    obtain ⟨S, E, _, _, c1, c2⟩ := put_both R D A n cap ls hs
    have C1 := Lib.hid c1
    have C2 := Lib.hid c2
    clear hB CB c1 c2 hl hm hk hs x1 n1
    have b1 := blk3 hB1
    go_wp2_with fail
    refine (C1.out _ (HZ.out.keep n2)).mono ?_
    rintro e w2 ⟨rfl, x2⟩
    have n3 := n2.trans x2
    have hB2 := hB1.nx x2
    clear hB1 b1 x2 n2 C1
    have b2 := blk3 hB2
    go_wp2_with fail
    refine (C2.out _ (HZ.out.keep n3)).mono ?_
    rintro e w3 ⟨rfl, x3⟩
    have n4 := n3.trans x3
    clear hB2 b2 x3 n3 C2
    have CS := Lib.hid (stored_any w3 (hT.nx n4))
    go_wp2_with fail
    refine CS.out.mono ?_
    rintro e w4 ⟨rfl, x4⟩
    clear CS
    go_wp2_with fail
    go_ret
    exact ⟨by simp, n4.trans x4⟩
end Go.Proofs.YtmfjndoljdpliaaDoor.walk
