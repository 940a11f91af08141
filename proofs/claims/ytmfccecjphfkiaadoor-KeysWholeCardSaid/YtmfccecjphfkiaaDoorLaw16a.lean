/-
  The walks of the laws KeysOne and KeysFeed: each returns true for every input. No condition but the library's two tables.
-/
import Derived.Test.YtmfccecjphfkiaaDoorWalk16o
namespace Go.Proofs.YtmfccecjphfkiaaDoor.walk
open Go.RowKit Go.Proofs.YtmfccecjphfkiaaDoor.kit Go.Proofs.YtmfccecjphfkiaaDoor.plain
set_option linter.unusedVariables false

set_option maxRecDepth 100000 in
set_option maxHeartbeats 2000000 in
theorem keysOne_walk (w : World) (hT : TB w) (s : ByteArray) (ws : s.size ≤ 9223372036854775807) :
    Calls Tryd.prog 3 #[.string s] w fun e w' => e = .returned (.bool true) ∧ Below w.heap.size w w' := by
  by_cases hs : 1000 < s.size
  · have d1 : decide ((1000 : Int) < (s.size : Int)) = true := decide_eq_true (by omega)
    go_enter Tryd.func3, Tryd.ntmps3
    go_wp2_with fail
    go_ret
    exact ⟨rfl, Nx.refl _⟩
  · have d1 : decide ((1000 : Int) < (s.size : Int)) = false := decide_eq_false (by omega)
    have c1 := one_any s w hT (by omega)
    have c2 := fun W => rone_any s W (by omega)
    obtain ⟨a, b, c, d, e⟩ := keyV_form (one (L s))
    rw [e] at c1 c2
    have C1 := Lib.hid c1
    have C2 := Lib.hid c2
    clear c1 c2 e
    go_enter Tryd.func3, Tryd.ntmps3
    go_wp2_with fail
    refine C1.out.mono ?_
    rintro e w1 ⟨rfl, x1⟩
    clear C1
    have n1 := x1.alloc (.cells #[.int .i64 a, .int .i32 b] 23)
    have hA := Blk.new w1 23 #[.int .i64 a, .int .i32 b]
    go_wp2_with fail
    refine (C2.out _).mono ?_
    rintro e w2 ⟨rfl, x2⟩
    clear C2
    have n2 := (n1.trans x2).alloc (.cells #[.int .i64 a, .int .i32 b] 23)
    have hA2 := (hA.nx x2).alloc (.cells #[.int .i64 a, .int .i32 b] 23)
    have hB2 := Blk.new w2 23 #[.int .i64 a, .int .i32 b]
    clear hA n1 x1 x2
    go_wp2_with fail
    refine (keyed_any _ (hT.nx n2)).mono ?_
    rintro e w3 ⟨rfl, x3⟩
    obtain ⟨a0, a1, _, _⟩ := blk_cells (hA2.nx x3)
    obtain ⟨b0, b1, _, _⟩ := blk_cells (hB2.nx x3)
    go_wp2_with fail
    go_ret
    exact ⟨rfl, n2.trans x3⟩

/-- Feed of either side: refused alike, or answered alike -/
theorem feed_both (p : ByteArray) (at' b t wait : Int) (hs : p.size ≤ 1000000) :
    ((∀ w, TB w → Calls Tryd.prog 21 #[.agg #[.string p, .int .i64 at'], .agg #[.int .u8 b, .int .i64 t], .int .i64 wait] w fun e w' => e = .returned (.tuple #[.agg #[.string ⟨#[]⟩, .int .i64 0], .slice none 0 0, .int .i64 1]) ∧ Nx w w') ∧
      (∀ w, Calls Tryd.prog 22 #[.agg #[.string p, .int .i64 at'], .agg #[.int .u8 b, .int .i64 t], .int .i64 wait] w fun e w' => e = .returned (.tuple #[.agg #[.string ⟨#[]⟩, .int .i64 0], .slice none 0 0, .int .i64 1]) ∧ Nx w w')) ∨
    ∃ (q : ByteArray) (a : Int) (ks : List KEY), ks.length ≤ 1000000 ∧ (∀ w, TB w → Calls Tryd.prog 21 #[.agg #[.string p, .int .i64 at'], .agg #[.int .u8 b, .int .i64 t], .int .i64 wait] w (FX q a ks w)) ∧
      (∀ w, Calls Tryd.prog 22 #[.agg #[.string p, .int .i64 at'], .agg #[.int .u8 b, .int .i64 t], .int .i64 wait] w (FX q a ks w)) := by
  by_cases hbad : isK (L p) at' = false ∨ waitB wait = false ∨ tickB t = false ∨ t < at'
  · exact .inl ⟨fun w hT => feed_bad p at' b t wait w hT hs hbad, fun w => rfeed_bad p at' b t wait w hs hbad⟩
  · have h1 : isK (L p) at' = true := by
      cases h : isK (L p) at' with
      | true => rfl
      | false => exact absurd (.inl h) hbad
    have h2 : waitB wait = true := by
      cases h : waitB wait with
      | true => rfl
      | false => exact absurd (.inr (.inl h)) hbad
    have h3 : tickB t = true := by
      cases h : tickB t with
      | true => rfl
      | false => exact absurd (.inr (.inr (.inl h))) hbad
    have h4 : at' ≤ t := by
      rcases Int.lt_or_le t at' with h | h
      · exact absurd (.inr (.inr (.inr h))) hbad
      · exact h
    refine .inr ⟨_, _, _, ?_, fun w hT => (feed_ok p at' b t wait w hT h1 h2 h3 h4).mono fun e w' h => h.fx, fun w => (rfeed_ok p at' b t wait w h1 h2 h3 h4).mono fun e w' h => h.fx⟩
    have e1 := isK_len h1
    have e2 := settle_len (L p)
    have e3 := keys_len (pendK (L p) at' t wait ++ [UInt8.ofNat b.toNat])
    rw [List.length_append] at e3 ⊢
    have e4 : (pendK (L p) at' t wait).length ≤ 10 := by unfold pendK; split; simp; exact e1
    have e5 : (preK (L p) at' t wait).length ≤ 10 := by unfold preK; split; omega; simp
    simp at e3
    omega

set_option maxRecDepth 100000 in
set_option maxHeartbeats 2000000 in
theorem keysFeed_walk (w : World) (hT : TB w) (p : ByteArray) (at' b t wait : Int) (wf : (Lit.int .i64 wait).wf = true) :
    Calls Tryd.prog 5 #[.agg #[.string p, .int .i64 at'], .agg #[.int .u8 b, .int .i64 t], .int .i64 wait] w fun e w' => e = .returned (.bool true) ∧ Below w.heap.size w w' := by
  clear wf
  have n0 := ((Nx.refl w).alloc (.cells #[.string p, .int .i64 at'] 30)).alloc (.cells #[.int .u8 b, .int .i64 t] 40)
  have hK := (Blk.new w 30 #[.string p, .int .i64 at']).alloc (.cells #[.int .u8 b, .int .i64 t] 40)
  have hS := Blk.new (w.alloc (.cells #[.string p, .int .i64 at'] 30)) 40 #[.int .u8 b, .int .i64 t]
  rw [World.size_alloc] at hS
  by_cases hs : 1000 < p.size
  · have d1 : decide ((1000 : Int) < (p.size : Int)) = true := decide_eq_true (by omega)
    clear hK hS
    go_enter Tryd.func5, Tryd.ntmps5
    go_wp2_with fail
    go_ret
    exact ⟨rfl, n0⟩
  have d1 : decide ((1000 : Int) < (p.size : Int)) = false := decide_eq_false (by omega)
  rcases feed_both p at' b t wait (by omega) with ⟨c1, c2⟩ | ⟨q, a, ks, hks, c1, c2⟩
  · have C1 := Lib.hid c1
    have C2 := Lib.hid c2
    clear c1 c2
    go_enter Tryd.func5, Tryd.ntmps5
    go_wp2_with fail
    refine (C1.out _ (hT.nx n0)).mono ?_
    rintro e w1 ⟨rfl, x1⟩
    clear C1
    have n1 := (n0.trans x1).alloc (.cells #[.string ⟨#[]⟩, .int .i64 0] 30)
    have hK1 := (hK.nx x1).alloc (.cells #[.string ⟨#[]⟩, .int .i64 0] 30)
    have hS1 := (hS.nx x1).alloc (.cells #[.string ⟨#[]⟩, .int .i64 0] 30)
    have hX1 := Blk.new w1 30 #[.string ⟨#[]⟩, .int .i64 0]
    obtain ⟨k0, k1, _, _⟩ := blk_cells hK1
    obtain ⟨s0, s1, _, _⟩ := blk_cells hS1
    clear hK hS n0 hK1 hS1 x1
    go_wp2_with fail
    refine (C2.out _).mono ?_
    rintro e w2 ⟨rfl, x2⟩
    clear C2 k0 k1 s0 s1
    have n2 := (n1.trans x2).alloc (.cells #[.string ⟨#[]⟩, .int .i64 0] 30)
    have hX2 := (hX1.nx x2).alloc (.cells #[.string ⟨#[]⟩, .int .i64 0] 30)
    have hY2 := Blk.new w2 30 #[.string ⟨#[]⟩, .int .i64 0]
    clear n1 hX1 x2
    go_wp2_with fail
    refine (keyed_any _ (hT.nx n2)).mono ?_
    rintro e w3 ⟨rfl, x3⟩
    obtain ⟨a0, a1, _, _⟩ := blk_cells (hX2.nx x3)
    obtain ⟨b0, b1, _, _⟩ := blk_cells (hY2.nx x3)
    have n3 := n2.trans x3
    clear n2 hX2 hY2 x3
    go_wp2_with fail
    refine (same_keys _ none none 0 _ _ [] ⟨rfl, fun h => absurd h (by omega)⟩ ⟨rfl, fun h => absurd h (by omega)⟩ (by decide)).mono ?_
    rintro e w4 ⟨rfl, x4⟩
    go_wp2_with fail
    go_ret
    exact ⟨rfl, n3.trans x4⟩
  · have C1 := Lib.hid c1
    have C2 := Lib.hid c2
    clear c1 c2
    go_enter Tryd.func5, Tryd.ntmps5
    go_wp2_with fail
    refine (C1.out _ (hT.nx n0)).mono ?_
    rintro e w1 ⟨A1, m1, cap1, rfl, i1, l1, x1⟩
    subst l1
    clear C1
    have n1 := (n0.trans x1).alloc (.cells #[.string q, .int .i64 a] 30)
    have hK1 := (hK.nx x1).alloc (.cells #[.string q, .int .i64 a] 30)
    have hS1 := (hS.nx x1).alloc (.cells #[.string q, .int .i64 a] 30)
    have hX1 := Blk.new w1 30 #[.string q, .int .i64 a]
    have I1 := Lib.hid (i1.keep ((Nx.refl w1).alloc (.cells #[.string q, .int .i64 a] 30)))
    obtain ⟨k0, k1, _, _⟩ := blk_cells hK1
    obtain ⟨s0, s1, _, _⟩ := blk_cells hS1
    clear hK hS n0 hK1 hS1 x1 i1
    go_wp2_with fail
    refine (C2.out _).mono ?_
    rintro e w2 ⟨A2, m2, cap2, rfl, i2, l2, x2⟩
    subst l2
    clear C2 k0 k1 s0 s1
    have n2 := (n1.trans x2).alloc (.cells #[.string q, .int .i64 a] 30)
    have hX2 := (hX1.nx x2).alloc (.cells #[.string q, .int .i64 a] 30)
    have hY2 := Blk.new w2 30 #[.string q, .int .i64 a]
    have J1 := Lib.hid (I1.out.keep (x2.alloc (.cells #[.string q, .int .i64 a] 30)))
    have J2 := Lib.hid (i2.keep ((Nx.refl w2).alloc (.cells #[.string q, .int .i64 a] 30)))
    clear n1 hX1 x2 I1 i2
    go_wp2_with fail
    refine (keyed_any _ (hT.nx n2)).mono ?_
    rintro e w3 ⟨rfl, x3⟩
    obtain ⟨a0, a1, _, _⟩ := blk_cells (hX2.nx x3)
    obtain ⟨b0, b1, _, _⟩ := blk_cells (hY2.nx x3)
    have n3 := n2.trans x3
    have H1 := Lib.hid (J1.out.keep x3)
    have H2 := Lib.hid (J2.out.keep x3)
    clear n2 hX2 hY2 x3 J1 J2
    go_wp2_with fail
    refine (same_keys _ A1 A2 _ _ _ ks H1.out H2.out (by omega)).mono ?_
    rintro e w4 ⟨rfl, x4⟩
    go_wp2_with fail
    go_ret
    exact ⟨rfl, n3.trans x4⟩
end Go.Proofs.YtmfccecjphfkiaaDoor.walk
