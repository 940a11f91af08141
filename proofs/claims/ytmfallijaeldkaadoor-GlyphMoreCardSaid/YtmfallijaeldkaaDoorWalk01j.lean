/-
  Signs: the chapter's example comes out true. No condition but the library's two tables.
-/
import Derived.Test.YtmfallijaeldkaaDoorWalk01i
namespace Go.Proofs.YtmfallijaeldkaaDoor.walk
open Go.RowKit Go.Proofs.YtmfallijaeldkaaDoor.kit Go.Proofs.YtmfallijaeldkaaDoor.plain
set_option linter.unusedVariables false

theorem blk_ints {w : World} {g : Nat} {t : TypeId} {k : IntKind} (zs : List Int) (h : Blk w g t (zs.map (Value.int k)).toArray) : IntsIn k w (some ⟨g, 0, none⟩) zs.length zs :=
  ⟨rfl, fun _ => ⟨g, 0, rfl, h.lt, fun j hj => by rw [Nat.zero_add, h.cell]; simp [nth, hj]⟩⟩
theorem own_read {w : World} {base : Nat} {A : Option Addr} {n cap : Nat} {zs : List Int} (h : w.ownsRow base 21 1 (.slice A n cap) n (zs.map (Value.int .i32))) : IntsIn .i32 w A n zs ∧ n = zs.length ∧ n ≤ maxLen := by
  obtain ⟨A', cap', hv, hi, h1, h2⟩ := own_ints h
  injection hv with e1 _ e3
  subst e1 e3
  exact ⟨hi, by have := h.1; simpa using this.symm, Nat.le_trans h1 h2⟩
theorem dec_ex : decI (L ⟨#[97, 228, 184]⟩) = [97, 65533, 65533] := by kernel_rfl
theorem enc_ex : mkS (encs [97, -1]) = ⟨#[97, 239, 191, 189]⟩ := by kernel_rfl

set_option maxRecDepth 100000 in
set_option maxHeartbeats 4000000 in
theorem glyphs_any (w : World) (hT : TB w) : Calls Tryd.prog 11 #[] w fun e w' => e = .returned (.bool true) ∧ Nx w w' := by
  have e1 : Utf8.encode 20013 = ⟨#[228, 184, 173]⟩ := by kernel_rfl
  have c1 := put_ok 20013 w (by kernel_rfl)
  rw [e1] at c1
  have C1 := Lib.hid c1
  clear c1 e1
  go_enter Tryd.func11, Tryd.ntmps11
  go_wp2_with fail
  refine C1.out.mono ?_
  rintro e w1 ⟨rfl, rfl⟩
  clear C1
  go_wp2_with fail
  refine (put_bad 55296 _ (by kernel_rfl)).mono ?_
  rintro e w1 ⟨rfl, rfl⟩
  go_wp2_with fail
  refine (next_any _ _ hT).mono ?_
  rw [show nxV (L (⟨#[228, 184, 173]⟩ ++ ⟨#[97]⟩)) = .tuple #[.int .i32 20013, .int .i64 3, .int .i64 0] by kernel_rfl]
  rintro e w2 ⟨rfl, x2⟩
  go_wp2_with fail
  refine (next_any _ _ (hT.nx x2)).mono ?_
  rw [show nxV (L ((⟨#[228, 184, 173]⟩ : ByteArray).extract 0 2)) = .tuple #[.int .i32 0, .int .i64 0, .int .i64 3] by kernel_rfl]
  rintro e w3 ⟨rfl, x3⟩
  have x3' := x2.trans x3
  clear x2 x3
  go_wp2_with fail
  refine (next_any _ _ (hT.nx x3')).mono ?_
  rw [show nxV (L ⟨#[]⟩) = .tuple #[.int .i32 0, .int .i64 0, .int .i64 6] by kernel_rfl]
  rintro e w4 ⟨rfl, x4⟩
  have x4' := x3'.trans x4
  clear x3' x4
  go_wp2_with fail
  refine (next_any _ _ (hT.nx x4')).mono ?_
  rw [show nxV (L ⟨#[255, 97]⟩) = .tuple #[.int .i32 65533, .int .i64 1, .int .i64 0] by kernel_rfl]
  rintro e w5 ⟨rfl, x5⟩
  have x5' := x4'.trans x5
  clear x4' x5
  go_wp2_with fail
  refine (decode_any _ _ (by decide)).mono ?_
  rw [dec_ex]
  rintro e w6 ⟨A, n, cap, rfl, ho, x6⟩
  have x6' := x5'.trans x6
  obtain ⟨hi, hn, _⟩ := own_read ho
  rw [show ([97, 65533, 65533] : List Int).length = 3 from rfl] at hn
  subst hn
  clear x5' x6 ho
  have hi' := hi.keep ((Nx.refl w6).alloc (.cells #[.int .i32 97, .int .i32 65533, .int .i32 65533] 21))
  have hj' := blk_ints (k := .i32) [97, 65533, 65533] (Blk.new w6 21 _)
  go_wp2_with fail
  refine (same_eq _ _ _ _ _ _ _ hi' hj' (by omega)).mono ?_
  rintro e w7 ⟨rfl, x7⟩
  have x7' := (x6'.alloc _).trans x7
  clear x6' x7 hi hi' hj'
  have hl' := blk_ints (k := .i32) [97, -1] (Blk.new w7 21 _)
  go_wp2_with fail
  refine (encode_any _ _ _ _ _ hl' (by decide) (by decide)).mono ?_
  rw [enc_ex]
  rintro e w8 ⟨rfl, x8⟩
  have x8' := (x7'.alloc _).trans x8
  clear x7' x8 hl'
  go_wp2_with fail
  refine (is_any _ _).mono ?_
  rw [show vB 97 = true by kernel_rfl]
  rintro e w9 ⟨rfl, rfl⟩
  go_wp2_with fail
  refine (is_any _ _).mono ?_
  rw [show vB 55296 = false by kernel_rfl]
  rintro e w9 ⟨rfl, rfl⟩
  go_wp2_with fail
  go_ret
  exact ⟨rfl, x8'⟩
end Go.Proofs.YtmfallijaeldkaaDoor.walk
