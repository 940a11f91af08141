/-
  Bytes read as a past (store.Get): the past that has them, or none. No condition but the library's two tables and a bound on the bytes.
-/
import Derived.Test.YtmfjndoljdpliaaDoorWalk22h
namespace Go.Proofs.YtmfjndoljdpliaaDoor.walk
open Go.RowKit Go.Proofs.YtmfjndoljdpliaaDoor.kit Go.Proofs.YtmfjndoljdpliaaDoor.plain
set_option linter.unusedVariables false

/-- what was read of a past -/
def GS (b : List UInt8) (y z : UInt8) (ls : List (List Int)) (a : List UInt8) : Prop := b = 80 :: y :: z :: (lns ls ++ a) ∧ allV ls
theorem GS.start {b : List UInt8} {y z : UInt8} {a : List UInt8} (h : b = 80 :: y :: z :: a) : GS b y z [] a := ⟨h, fun l hl => by cases hl⟩
theorem GS.unended {b : List UInt8} {y z : UInt8} {ls : List (List Int)} {a : List UInt8} (h : GS b y z ls a) (ha : a ≠ []) (h10 : (10 : UInt8) ∉ a) : noPast b := by
  rw [h.1]; exact noPast_unended h.2 h10 ha
theorem GS.bad {b : List UInt8} {y z : UInt8} {ls : List (List Int)} {a x t : List UInt8} (h : GS b y z ls a) (e : a = x ++ 10 :: t) (h10 : (10 : UInt8) ∉ x) (hn : noLine x) : noPast b := by
  rw [h.1, e]; exact noPast_line h.2 h10 hn
theorem GS.step {b : List UInt8} {y z : UInt8} {ls : List (List Int)} {a x t : List UInt8} (h : GS b y z ls a) (e : a = x ++ 10 :: t) {l : List Int} (hl : escs l = x) (hv : ∀ r ∈ l, valI r = true) : GS b y z (ls ++ [l]) t := by
  refine ⟨?_, fun m hm => ?_⟩
  · rw [h.1, e, lns_snoc, hl]; simp
  · rcases List.mem_append.1 hm with hm | hm
    · exact h.2 m hm
    · simp at hm; subst hm; exact hv
theorem drop_at (s : ByteArray) (k : Nat) (h : k < s.size) : (L s).drop k = s[k] :: (L s).drop (k + 1) := by
  rw [List.drop_eq_getElem_cons (by rw [L_length]; exact h)]; rfl
theorem three_any (s : ByteArray) (h3 : 3 ≤ s.size) : L s = s[0] :: s[1] :: s[2] :: (L s).drop 3 := by
  rw [← drop_at s 2 (by omega), ← drop_at s 1 (by omega), ← drop_at s 0 (by omega), List.drop_zero]
theorem three_bytes (s : ByteArray) (h3 : 3 ≤ s.size) (hp : (s[0]'(by omega)).toNat = 80) : L s = (80 : UInt8) :: (s[1]'(by omega)) :: (s[2]'(by omega)) :: L (s.extract 3 s.size) := by
  rw [(size_rest s 3).2, three_any s h3]
  rw [show s[0]'(by omega) = 80 from UInt8.toNat_inj.1 hp]
  rfl

theorem wraps_byte (y : UInt8) : IntKind.i64.wrap (y.toNat : Int) = (y.toNat : Int) ∧ IntKind.i64.wrap ((y.toNat : Int) - 48) = (y.toNat : Int) - 48 ∧ wrap64 (y.toNat : Int) = (y.toNat : Int) ∧ wrap64 ((y.toNat : Int) - 48) = (y.toNat : Int) - 48 := by
  have := y.toNat_lt
  refine ⟨IntWalk.i64_in _ (by omega), IntWalk.i64_in _ (by omega), ?_, ?_⟩ <;> (simp only [wrap64]; omega)

theorem lns_line {ls : List (List Int)} {l : List Int} (h : l ∈ ls) : l.length ≤ (lns ls).length := by
  induction ls with
  | nil => cases h
  | cons m ls ih =>
    rw [lns_cons, List.length_append, List.length_cons]
    rcases List.mem_cons.1 h with rfl | h
    · have := (escs_length l).2; omega
    · have := ih h; omega

/-- at the head of Get's loop -/
def GR (s : ByteArray) (w : World) (y z : UInt8) (S : ByteArray) (ls : List (List Int)) (v : Value) (wr : World) : Prop :=
  RowsOwn wr (w.heap.size + 2) v ls.length ls ∧ GS (L s) y z ls (L S) ∧ ls.length + S.size ≤ s.size ∧ Blk wr w.heap.size 24 #[.int .i64 0, .int .i64 0, .slice none 0 0] ∧
  Blk wr (w.heap.size + 1) 24 #[.int .i64 ((y.toNat : Int) - 48), .int .i64 ((z.toNat : Int) - 48), v] ∧ Nx w wr

set_option maxRecDepth 100000 in
set_option maxHeartbeats 4000000 in
theorem getp_any (s : ByteArray) (w : World) (hT : TB w) (hs : s.size ≤ 1000000) :
    Calls Tryd.prog 9 #[.string s] w (GetP (L s) w) := by
  obtain ⟨i0, hi, hz0, hzs, hz2⟩ := info_parts infoL
  have I0 := Lib.hid (And.intro hi (And.intro hz0 (And.intro hzs hz2)))
  clear hi hz0 hzs hz2
  have hB := Blk.new w 24 #[.int .i64 0, .int .i64 0, .slice none 0 0]
  have hB' := hB.alloc (.cells #[.int .i64 0, .int .i64 0, .slice none 0 0] 24)
  have hC := Blk.new (w.alloc (.cells #[.int .i64 0, .int .i64 0, .slice none 0 0] 24)) 24 #[.int .i64 0, .int .i64 0, .slice none 0 0]
  have nn := ((Nx.refl w).alloc (.cells #[.int .i64 0, .int .i64 0, .slice none 0 0] 24)).alloc (.cells #[.int .i64 0, .int .i64 0, .slice none 0 0] 24)
  rw [World.size_alloc] at hC
  by_cases hbad : s.size < 3 ∨ ∃ h : 3 ≤ s.size, (s[0]'(by omega)).toNat ≠ 80
  · have HN : Hid (noPast (L s)) := Lib.hid (by
      rcases hbad with h | ⟨h, h0⟩
      · exact noPast_short (by rw [L_length]; exact h)
      · refine noPast_head fun e => h0 ?_
        rw [three_any s h] at e
        injection e with e
        rw [e]; rfl)
    have b0 := blk3 hB'
    have b1 := blk3f hB'
    have N3 := Lib.hid nn
    clear hB hB' hC nn
    rcases hbad with h3 | ⟨h3, h0⟩
    · have d1 : decide ((s.size : Int) < 3) = true := decide_eq_true (by omega)
      have d1' : decide (s.size < 3) = true := decide_eq_true h3
      go_enter Tryd.func9, Tryd.ntmps9
      go_wp2_with fail
      refine wp_scope_ahead 0 rfl ?_
      intro J hJ
      have HJ := Lib.hid hJ
      clear hJ
      go_wp2_with fail
      go_step3
      refine ⟨rfl, HJ.out _ _ ?_⟩
      clear HJ
      go_wp2_with fail
      simp only [Exit.jump]
      refine bodyPost_ret (v := .tuple #[.agg #[.int .i64 0, .int .i64 0, .slice none 0 0], .int .i64 2]) (by simp [results, Tryd.results9, go_sem]) rfl ?_
      exact .inr ⟨rfl, HN.out, N3.out⟩
    · have d1 : decide ((s.size : Int) < 3) = false := decide_eq_false (by omega)
      have d1' : decide (s.size < 3) = false := decide_eq_false (by omega)
      have hs0 : 0 < s.size := by omega
      have f0 : (((s[0]'hs0).toNat : Int) != 80) = true := by simp only [bne_iff_ne, ne_eq]; omega
      go_enter Tryd.func9, Tryd.ntmps9
      go_wp2_with fail
      refine wp_scope_ahead 0 rfl ?_
      intro J hJ
      have HJ := Lib.hid hJ
      clear hJ
      go_wp2_with fail
      go_step3
      refine ⟨rfl, HJ.out _ _ ?_⟩
      clear HJ
      go_wp2_with fail
      simp only [Exit.jump]
      refine bodyPost_ret (v := .tuple #[.agg #[.int .i64 0, .int .i64 0, .slice none 0 0], .int .i64 2]) (by simp [results, Tryd.results9, go_sem]) rfl ?_
      exact .inr ⟨rfl, HN.out, N3.out⟩
  · have h3 : 3 ≤ s.size := Nat.le_of_not_lt fun h => hbad (.inl h)
    have hs0 : 0 < s.size := by omega
    have hs1 : 1 < s.size := by omega
    have hs2 : 2 < s.size := by omega
    have h0 : (s[0]'hs0).toNat = 80 := Classical.byContradiction fun h => hbad (.inr ⟨h3, h⟩)
    clear hbad
    have d1 : decide ((s.size : Int) < 3) = false := decide_eq_false (by omega)
    have d1' : decide (s.size < 3) = false := decide_eq_false (by omega)
    have f0 : (((s[0]'hs0).toNat : Int) != 80) = false := by rw [h0]; rfl
    obtain ⟨y, hy⟩ : ∃ y, s[1]'hs1 = y := ⟨_, rfl⟩
    obtain ⟨z, hz⟩ : ∃ z, s[2]'hs2 = z := ⟨_, rfl⟩
    obtain ⟨S0, hS0⟩ : ∃ S0, s.extract 3 s.size = S0 := ⟨_, rfl⟩
    have w1 : ((s[1]'hs1).toNat : Int) - 48 = (y.toNat : Int) - 48 := by rw [hy]
    have w2 : ((s[2]'hs2).toNat : Int) - 48 = (z.toNat : Int) - 48 := by rw [hz]
    have W1 := Lib.hid w1
    have W2 := Lib.hid w2
    have h3b := three_bytes s h3 h0
    have hz3 := (size_rest s 3).1
    rw [hy, hz, hS0] at h3b
    rw [hS0] at hz3
    have GS0 := Lib.hid (GS.start h3b)
    have HS0 := Lib.hid hS0
    clear w1 w2 hy hz hS0 h3b
    have c0 : (3 : Int) ≤ (s.size : Int) := by omega
    have b0 := blk3 hC.drew
    have b1 := blk3f hC.drew
    have i1 : (1 : Int) < (s.size : Int) := by omega
    have i2 : (2 : Int) < (s.size : Int) := by omega
    have HB := Lib.hid hB'
    have HC := Lib.hid hC
    have NN := Lib.hid nn
    clear hB hB' hC nn h0
    go_enter Tryd.func9, Tryd.ntmps9
    go_wp2_with fail
    refine wp_scope_ahead 0 rfl ?_
    intro J hJ
    have HJ := Lib.hid hJ
    clear hJ
    go_wp2_with fail
    generalize (w.alloc (.cells #[.int .i64 0, .int .i64 0, .slice none 0 0] 24)).alloc (.cells #[.int .i64 0, .int .i64 0, .slice none 0 0] 24) = W at *
    have b2 := blk3 HC.out
    have b3 := blk3f HC.out
    obtain ⟨v1, v3, v5, v7⟩ := wraps_byte (s[1]'hs1)
    obtain ⟨v2, v4, v6, v8⟩ := wraps_byte (s[2]'hs2)
    go_cut [5] (fun s5 wx => s5 = .string S0 ∧ Blk wx w.heap.size 24 #[.int .i64 0, .int .i64 0, .slice none 0 0] ∧ Blk wx (w.heap.size + 1) 24 #[.int .i64 ((y.toNat : Int) - 48), .int .i64 ((z.toNat : Int) - 48), .slice none 0 0] ∧ Nx w wx)
    case first =>
      go_region
      clear b0 b1 b2 b3
      go_wp2_with fail
      go_meet
      case rel =>
        rw [W1.out, W2.out]
        exact ⟨congrArg Value.string HS0.out, (HB.out.drew.far (by simp) _).far (by simp) _, (HC.out.drew.set_ 0 _).set_ 1 _, (NN.out.drew.setCell (by simp) _).setCell (by simp) _⟩
    case rest =>
      clear b0 b1 b2 b3 v1 v2 v3 v4 v5 v6 v7 v8 HB HC NN W1 W2 HS0 i1 i2 f0 c0 hs0 hs1 hs2 d1 d1'
      obtain ⟨rfl, hB, hC, hN⟩ := hcut
      have HR0 : Hid (GR s w y z S0 [] (.slice none 0 0) wc) := Lib.hid ⟨RowsOwn.nil _ _, GS0.out, by simp; omega, hB, hC, hN⟩
      clear hB hC hN GS0 hz3
      go_wp2_with fail
      go_loopw [5, 6, 7, 8, 9, 10] (fun x _ _ _ _ _ wr => ∃ (S : ByteArray) (ls : List (List Int)) (v : Value), x = .string S ∧ GR s w y z S ls v wr) (fun x _ _ _ _ _ _ => strLen x)
      case atStart => exact ⟨S0, [], _, rfl, HR0.out⟩
      case round =>
        clear HR0
        obtain ⟨S, ls, v, rfl, hO, hG, hlen, hB, hC, hN⟩ := hrel
        have hsz := hN.size
        have hlc := hC.lt
        have HB := Lib.hid hB
        have HC := Lib.hid hC
        have HG := Lib.hid hG
        have HO := Lib.hid hO
        clear hB hC hG hO
        by_cases hp : 1 ≤ S.size
        · have t1 := (str_ne hp).1
          have t2 := (str_ne hp).2
          have hne := L_ne hp
          have hSs : S.size ≤ 1000000 := by omega
          rcases cut_any S hSs with ⟨x, u, e, h10, cc⟩ | ⟨h10, cc⟩
          · have hsx : x.size + 1 + u.size = S.size := by
              have := congrArg List.length e
              rw [List.length_append, List.length_cons, L_length, L_length, L_length] at this
              omega
            have CC := Lib.hid (cc wr)
            have CL := Lib.hid (fun W hW => sline_any x W hW (by omega) h10)
            have HE := Lib.hid e
            have H10 := Lib.hid h10
            clear cc h10 hne e
            go_wp2_with fail
            refine CC.out.mono ?_
            rintro e w1 ⟨rfl, x1⟩
            clear CC
            go_wp2_with fail
            have n1 := hN.trans x1
            refine (CL.out _ (hT.nx n1)).mono ?_
            rintro e w2 (⟨A, n, cap, zs, rfl, hown, hesc, hval, x2⟩ | ⟨rfl, hno, x2⟩)
            · have hO1 := HO.out.nx x1
              have hu := Lain.fresh (base := w.heap.size + 2) (own := v.ownBlock) hown (by have := n1.size; have := x1.size; omega) (fun g hg => (hO1.lt g hg).2)
              have hO2 := hO1.nx x2
              obtain ⟨vs, ho, push⟩ := hO2.push hu
              obtain ⟨A', cap', hv⟩ := own_form ho
              subst hv
              have hC2 := ((HC.out.nx x1).nx x2).alloc (.cells #[.slice A n cap] 34)
              have hB2 := ((HB.out.nx x1).nx x2).alloc (.cells #[.slice A n cap] 34)
              have b0 := blk3 ((HC.out.nx x1).nx x2)
              have n2 := n1.trans x2
              have hs2 := n2.size
              have hs12 := x2.size
              have hs01 := x1.size
              have HC2 := Lib.hid hC2
              have HB2 := Lib.hid hB2
              have HG2 := Lib.hid (HG.out.step HE.out hesc hval)
              have HP := Lib.hid push
              have HLT := Lib.hid ho.lt
              have HOO := Lib.hid ho
              clear x1 x2 n1 CL hN HB HC HO hO1 hu hO2 hC2 hB2 HG HE H10 hown hesc hval push ho
              go_wp2_with (at_builtin; refine wpList_append_lies _ rfl (.tmp 51) (.tmp 53) _ rfl (w.heap.size + 2) 34 i0 _ 1 24 Tryd.underlying22 I0.out.1 I0.out.2.1 I0.out.2.2.1 I0.out.2.2.2 rfl (by omega) (.slice A' ls.length cap') ls.length vs rfl (HOO.out.alloc _) ⟨w2.heap.size, 0, none⟩ 1 1 [_] rfl rfl (one_new _ _ _) RowsOwn.one_ (by omega) (by unfold maxLen; omega) (by omega) ?_ (w2.heap.size + 1) (by simp) ?_)
              · rw [World.size_alloc]; omega
              · intro g4 c4 w4 r1 r2 r3 r4
                have hR := HP.out (w2.alloc (.cells #[.slice A n cap] 34)) w4 g4 c4 (w2.heap.size + 1) ((Nx.refl w2).alloc _) r1 r2 r3 (by omega)
                have hBk := HB2.out.grown r2 (fun h => by have := (HLT.out _ h.symm).1; omega)
                have hCk := HC2.out.grown r2 (fun h => by have := (HLT.out _ h.symm).1; omega)
                have n4 := (n2.alloc (.cells #[.slice A n cap] 34)).grown r2 (fun k hk => by have := (HLT.out k hk).1; omega)
                have b4 := blk3 hCk
                have b5 := blk3f hCk
                have hl : (ls ++ [zs]).length = ls.length + 1 := by simp
                have HR4 : Hid (GR s w y z u (ls ++ [zs]) (.slice (some ⟨g4, 0, none⟩) (ls.length + 1) c4) (w4.setCell ⟨w.heap.size + 1, 2, none⟩ (.slice (some ⟨g4, 0, none⟩) (ls.length + 1) c4))) := Lib.hid ⟨by rw [hl]; exact hR.set_ (by simp) _, HG2.out, by omega, hBk.far (by simp) _, hCk.set_ 2 _, n4.setCell (by simp) _⟩
                clear hR hBk hCk n4 hl HP HB2 HC2 HG2 HLT HOO r1 r2 r3 r4 n2 b0
                go_wp2_with fail
                go_roundw
                case rel => exact ⟨u, _, _, rfl, HR4.out⟩
                case measure => simp [strLen]; omega
            · have HN := Lib.hid (HG.out.bad HE.out H10.out hno)
              clear HG HE H10 hno HO
              have hBw := (HB.out.nx x1).nx x2
              have b0 := blk3 hBw
              have b1 := blk3f hBw
              have n2 := n1.trans x2
              have hB3 := blk_three (.int .i64 0) (.int .i64 0) (.slice none 0 0) hBw
              have n3 := nx_three n2 (Nat.le_refl _) (.int .i64 0) (.int .i64 0) (.slice none 0 0)
              have HB3 := Lib.hid hB3
              have N3 := Lib.hid n3
              clear x1 x2 n1 n2 CL hN HB HC hBw hB3 n3
              go_wp2_with fail
              go_step3
              refine And.intro rfl (HJ.out _ _ ?_)
              clear HJ
              go_wp2_with fail
              simp only [Exit.jump]
              obtain ⟨c0, c1, c2⟩ := blk3 HB3.out
              clear b0 b1
              generalize (((w2.setCell _ _).setCell _ _).setCell _ _) = W3 at *
              refine bodyPost_ret (v := .tuple #[.agg #[.int .i64 0, .int .i64 0, .slice none 0 0], .int .i64 2]) (by simp [results, Tryd.results9, go_sem, c0, c1, c2]) rfl ?_
              exact .inr ⟨rfl, HN.out, N3.out⟩
          · have CC := Lib.hid (cc wr)
            have HN := Lib.hid (HG.out.unended hne h10)
            have CL := Lib.hid (fun W hW => sline_any S W hW hSs h10)
            clear cc h10 hne HG HO
            go_wp2_with fail
            refine CC.out.mono ?_
            rintro e w1 ⟨rfl, x1⟩
            clear CC
            go_wp2_with fail
            have n1 := hN.trans x1
            refine (CL.out _ (hT.nx n1)).mono ?_
            rintro e w2 (⟨A, n, cap, zs, rfl, _, _, _, x2⟩ | ⟨rfl, _, x2⟩)
            · skip
              have hBw := (HB.out.nx x1).nx x2
              have b0 := blk3 hBw
              have b1 := blk3f hBw
              have n2 := n1.trans x2
              have hB3 := blk_three (.int .i64 0) (.int .i64 0) (.slice none 0 0) hBw
              have n3 := nx_three n2 (Nat.le_refl _) (.int .i64 0) (.int .i64 0) (.slice none 0 0)
              have HB3 := Lib.hid hB3
              have N3 := Lib.hid n3
              clear x1 x2 n1 n2 CL hN HB HC hBw hB3 n3
              go_wp2_with fail
              go_step3
              refine And.intro rfl (HJ.out _ _ ?_)
              clear HJ
              go_wp2_with fail
              simp only [Exit.jump]
              obtain ⟨c0, c1, c2⟩ := blk3 HB3.out
              clear b0 b1
              generalize (((w2.setCell _ _).setCell _ _).setCell _ _) = W3 at *
              refine bodyPost_ret (v := .tuple #[.agg #[.int .i64 0, .int .i64 0, .slice none 0 0], .int .i64 2]) (by simp [results, Tryd.results9, go_sem, c0, c1, c2]) rfl ?_
              exact .inr ⟨rfl, HN.out, N3.out⟩
            · skip
              have hBw := (HB.out.nx x1).nx x2
              have b0 := blk3 hBw
              have b1 := blk3f hBw
              have n2 := n1.trans x2
              have hB3 := blk_three (.int .i64 0) (.int .i64 0) (.slice none 0 0) hBw
              have n3 := nx_three n2 (Nat.le_refl _) (.int .i64 0) (.int .i64 0) (.slice none 0 0)
              have HB3 := Lib.hid hB3
              have N3 := Lib.hid n3
              clear x1 x2 n1 n2 CL hN HB HC hBw hB3 n3
              go_wp2_with fail
              go_step3
              refine And.intro rfl (HJ.out _ _ ?_)
              clear HJ
              go_wp2_with fail
              simp only [Exit.jump]
              obtain ⟨c0, c1, c2⟩ := blk3 HB3.out
              clear b0 b1
              generalize (((w2.setCell _ _).setCell _ _).setCell _ _) = W3 at *
              refine bodyPost_ret (v := .tuple #[.agg #[.int .i64 0, .int .i64 0, .slice none 0 0], .int .i64 2]) (by simp [results, Tryd.results9, go_sem, c0, c1, c2]) rfl ?_
              exact .inr ⟨rfl, HN.out, N3.out⟩
        · obtain rfl := size_nil (show S.size = 0 by omega)
          have hO' := HO.out
          obtain ⟨A', cap', rfl, hz, hcl, hcm⟩ := HO.out.rowsIn
          have HO2 := Lib.hid hO'
          clear hO' HO
          have hsh : Short ls := by
            intro l hl
            have h1 := lns_line hl
            have h2 := congrArg List.length HG.out.1
            rw [L_length] at h2
            simp only [List.length_cons, List.length_append] at h2
            omega
          have b0 := blk3 HC.out
          have CI := Lib.hid (isp_any ((y.toNat : Int) - 48) ((z.toNat : Int) - 48) A' ls.length cap' ls wr hz hsh)
          have HZ := Lib.hid hz
          cases hok : okPast ((y.toNat : Int) - 48) ((z.toNat : Int) - 48) ls with
          | true =>
            rw [hok] at CI
            have HN : Hid (isPut (L s) ((y.toNat : Int) - 48) ((z.toNat : Int) - 48) ls) := Lib.hid (by
              have e := HG.out.1
              rw [e, show L (⟨#[]⟩ : ByteArray) = [] from rfl, List.append_nil]
              exact isPut_mk hok)
            clear hok hz hsh HG
            go_wp2_with fail
            refine CI.out.mono ?_
            rintro e w2 ⟨rfl, x2⟩
            have hCw := HC.out.nx x2
            have hBw := HB.out.nx x2
            have n2 := hN.trans x2
            have d0 := blk3 hCw
            have d1 := blk3 hBw
            have d2 := blk3f hBw
            have hB3 := blk_three (.int .i64 ((y.toNat : Int) - 48)) (.int .i64 ((z.toNat : Int) - 48)) (.slice A' ls.length cap') hBw
            have n3 := nx_three n2 (Nat.le_refl _) (.int .i64 ((y.toNat : Int) - 48)) (.int .i64 ((z.toNat : Int) - 48)) (.slice A' ls.length cap')
            have hO3 := (((HO2.out.nx x2).set_ (p := ⟨w.heap.size, 0, none⟩) (by simp) (.int .i64 ((y.toNat : Int) - 48))).set_ (p := ⟨w.heap.size, 1, none⟩) (by simp) (.int .i64 ((z.toNat : Int) - 48))).set_ (p := ⟨w.heap.size, 2, none⟩) (by simp) (.slice A' ls.length cap')
            obtain ⟨A2, cap2, e, hz3, _, _⟩ := hO3.rowsIn
            injection e with e1 e2 e3
            subst e1 e3
            have HZ3 := Lib.hid hz3
            have HB3 := Lib.hid hB3
            have N3 := Lib.hid n3
            clear hCw hBw n2 hB3 n3 hO3 hz3 HO2 HZ HB HC hN b0 x2 CI e2
            go_wp2_with fail
            try simp only [Exit.jump]
            obtain ⟨c0, c1, c2⟩ := blk3 HB3.out
            clear d0 d1 d2
            generalize (((w2.setCell _ _).setCell _ _).setCell _ _) = W3 at *
            refine bodyPost_ret (v := .tuple #[.agg #[.int .i64 ((y.toNat : Int) - 48), .int .i64 ((z.toNat : Int) - 48), .slice A' ls.length cap'], .int .i64 0]) (by simp [results, Tryd.results9, go_sem, c0, c1, c2]) rfl ?_
            exact .inl ⟨_, _, _, _, _, ls, rfl, HN.out, HZ3.out, hcl, hcm, N3.out⟩
          | false =>
            rw [hok] at CI
            have HN : Hid (noPast (L s)) := Lib.hid (by
              have e := HG.out.1
              rw [e, show L (⟨#[]⟩ : ByteArray) = [] from rfl, List.append_nil]
              exact noPast_bad HG.out.2 hok)
            clear hok hz hsh HG HO2
            go_wp2_with fail
            refine CI.out.mono ?_
            rintro e w2 ⟨rfl, x2⟩
            have hBw := HB.out.nx x2
            have b3 := blk3 hBw
            have b4 := blk3f hBw
            have n2 := hN.trans x2
            have hB3 := blk_three (.int .i64 0) (.int .i64 0) (.slice none 0 0) hBw
            have n3 := nx_three n2 (Nat.le_refl _) (.int .i64 0) (.int .i64 0) (.slice none 0 0)
            have HB3 := Lib.hid hB3
            have N3 := Lib.hid n3
            clear x2 n2 hN HB HC hBw hB3 n3 b0 CI
            go_wp2_with fail
            go_step3
            go_wp2_with fail
            try simp only [Exit.jump]
            obtain ⟨c0, c1, c2⟩ := blk3 HB3.out
            clear b3 b4
            generalize (((w2.setCell _ _).setCell _ _).setCell _ _) = W3 at *
            refine bodyPost_ret (v := .tuple #[.agg #[.int .i64 0, .int .i64 0, .slice none 0 0], .int .i64 2]) (by simp [results, Tryd.results9, go_sem, c0, c1, c2]) rfl ?_
            exact .inr ⟨rfl, HN.out, N3.out⟩
end Go.Proofs.YtmfjndoljdpliaaDoor.walk
