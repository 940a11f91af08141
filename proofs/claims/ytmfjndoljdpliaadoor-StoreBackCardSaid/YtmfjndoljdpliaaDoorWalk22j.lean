/-
  Bytes read as a past, the document's (typebarref22.Get): the past that has them, or none. No condition but a bound on the bytes.
-/
import Derived.Test.YtmfjndoljdpliaaDoorWalk22i
import Derived.Deep.RegionLaw
namespace Go.Proofs.YtmfjndoljdpliaaDoor.walk
open Go.RowKit Go.Proofs.YtmfjndoljdpliaaDoor.kit Go.Proofs.YtmfjndoljdpliaaDoor.plain
set_option linter.unusedVariables false

theorem decI_eq (l : List UInt8) : decI l = (dec l).map fun n : Nat => (n : Int) := rfl
theorem head_at (s : ByteArray) (k : Nat) (h : k < s.size) : ((L s).drop k).head? = some s[k] := by rw [drop_at s k h]; rfl
theorem head_end (s : ByteArray) (k : Nat) (h : ¬ k < s.size) : ((L s).drop k).head? = none := by
  rw [List.drop_of_length_le (by rw [L_length]; omega)]; rfl
/-- what was read of a past, the document's -/
def RS (s : ByteArray) (k : Nat) (t : List UInt8) (ls : List (List Int)) : Prop := ls ++ rp t ((L s).drop k) = rp [] ((L s).drop 3)
theorem RS.nl {s : ByteArray} {k : Nat} {t : List UInt8} {ls : List (List Int)} (h : RS s k t ls) (hk : k < s.size) (hx : s[k].toNat = 10) : RS s (k + 1) [] (ls ++ [decI t]) := by
  unfold RS at *
  rw [← h, drop_at s k hk, show s[k] = 10 from UInt8.toNat_inj.1 hx, rp_10, ← decI_eq]
  simp
theorem RS.two {s : ByteArray} {k : Nat} {t : List UInt8} {ls : List (List Int)} (h : RS s k t ls) (hk : k + 1 < s.size) (hx : (s[k]'(by omega)).toNat = 92) (c : UInt8) (hc : (c = 10 ∧ s[k + 1].toNat = 110) ∨ (c = 92 ∧ s[k + 1].toNat = 92)) : RS s (k + 2) (t ++ [c]) ls := by
  unfold RS at *
  rw [← h, drop_at s k (by omega), drop_at s (k + 1) hk, show s[k]'(by omega) = 92 from UInt8.toNat_inj.1 hx]
  rcases hc with ⟨rfl, e⟩ | ⟨rfl, e⟩
  · rw [show s[k + 1] = 110 from UInt8.toNat_inj.1 e, rp_n]
  · rw [show s[k + 1] = 92 from UInt8.toNat_inj.1 e, rp_s]
theorem RS.one {s : ByteArray} {k : Nat} {t : List UInt8} {ls : List (List Int)} (h : RS s k t ls) (hk : k < s.size) (hx : s[k].toNat ≠ 10) (h2 : s[k].toNat ≠ 92 ∨ ¬ k + 1 < s.size ∨ (∃ hh : k + 1 < s.size, s[k + 1].toNat ≠ 110 ∧ s[k + 1].toNat ≠ 92)) : RS s (k + 1) (t ++ [s[k]]) ls := by
  unfold RS at *
  rw [← h, drop_at s k hk, rp_x]
  · rintro e; exact hx (by rw [e]; rfl)
  · intro e
    rcases h2 with h2 | h2 | ⟨hh, h3, h4⟩
    · exact absurd (by rw [e]; rfl) h2
    · rw [head_end s _ h2]; simp
    · rw [head_at s _ hh]
      refine ⟨fun e2 => ?_, fun e2 => ?_⟩
      · injection e2 with e2; exact h3 (by rw [e2]; rfl)
      · injection e2 with e2; exact h4 (by rw [e2]; rfl)
theorem RS.done {s : ByteArray} {k : Nat} {t : List UInt8} {ls : List (List Int)} (h : RS s k t ls) (hk : ¬ k < s.size) : ls = rp [] ((L s).drop 3) := by
  unfold RS at h
  rw [List.drop_of_length_le (i := k) (by rw [L_length]; omega)] at h
  rw [← h]; simp [rp]

theorem byte_at (s : ByteArray) (k : Nat) (h : k < s.size) : L (s.extract k (k + 1)) = [s[k]] := by
  rw [L_extract, take_snocL s k h, List.drop_append_of_le_length (by rw [List.length_take, L_length]; omega), List.drop_of_length_le (by rw [List.length_take]; omega), List.nil_append]

/-- at the head of its loop -/
def RG (s : ByteArray) (w : World) (y z : UInt8) (k : Nat) (T : ByteArray) (n : Nat) (ls : List (List Int)) (v : Value) (wr : World) : Prop :=
  RowsOwn wr (w.heap.size + 2) v n ls ∧ RS s k (L T) ls ∧ (3 ≤ k ∧ k ≤ s.size ∧ T.size + n ≤ k) ∧ Short ls ∧ Blk wr w.heap.size 24 #[.int .i64 0, .int .i64 0, .slice none 0 0] ∧
  Blk wr (w.heap.size + 1) 24 #[.int .i64 ((y.toNat : Int) - 48), .int .i64 ((z.toNat : Int) - 48), v] ∧ Nx w wr

set_option maxRecDepth 100000 in
set_option maxHeartbeats 4000000 in
theorem rgetp_any (s : ByteArray) (w : World) (hs : s.size ≤ 1000000) :
    Calls Tryd.prog 17 #[.string s] w (GetP (L s) w) := by
  obtain ⟨i0, hi, hz0, hzs, hz2⟩ := info_parts infoL
  have I0 := Lib.hid (And.intro hi (And.intro hz0 (And.intro hzs hz2)))
  clear hi hz0 hzs hz2
  have hB := Blk.new w 24 #[.int .i64 0, .int .i64 0, .slice none 0 0]
  have n1 := (Nx.refl w).alloc (.cells #[.int .i64 0, .int .i64 0, .slice none 0 0] 24)
  by_cases h3 : s.size < 3
  · have d1 : decide ((s.size : Int) < 3) = true := decide_eq_true (by omega)
    have d1' : decide (s.size < 3) = true := decide_eq_true h3
    have HN := Lib.hid (noPast_short (b := L s) (by rw [L_length]; exact h3))
    have N1 := Lib.hid n1
    clear hB n1
    go_enter Tryd.func17, Tryd.ntmps17
    go_wp2_with fail
    refine bodyPost_ret (v := .tuple #[.agg #[.int .i64 0, .int .i64 0, .slice none 0 0], .int .i64 2]) (by simp [results, Tryd.results17, go_sem]) rfl ?_
    exact .inr ⟨rfl, HN.out, N1.out⟩
  · have d1 : decide ((s.size : Int) < 3) = false := decide_eq_false (by omega)
    have d1' : decide (s.size < 3) = false := decide_eq_false h3
    have hs1 : 1 < s.size := by omega
    have hs2 : 2 < s.size := by omega
    have h3' : 3 ≤ s.size := by omega
    obtain ⟨y, hy⟩ : ∃ y, s[1]'hs1 = y := ⟨_, rfl⟩
    obtain ⟨z, hz⟩ : ∃ z, s[2]'hs2 = z := ⟨_, rfl⟩
    have w1 : ((s[1]'hs1).toNat : Int) - 48 = (y.toNat : Int) - 48 := by rw [hy]
    have w2 : ((s[2]'hs2).toNat : Int) - 48 = (z.toNat : Int) - 48 := by rw [hz]
    have W1 := Lib.hid w1
    have W2 := Lib.hid w2
    have h3b := three_any s h3'
    rw [hy, hz] at h3b
    have H3 := Lib.hid h3b
    obtain ⟨v1, v3, v5, v7⟩ := wraps_byte (s[1]'hs1)
    obtain ⟨v2, v4, v6, v8⟩ := wraps_byte (s[2]'hs2)
    have i1 : (1 : Int) < (s.size : Int) := by omega
    have i2 : (2 : Int) < (s.size : Int) := by omega
    clear w1 w2 hy hz h3b hB n1
    go_enter Tryd.func17, Tryd.ntmps17
    go_upto_region 3 with fail
    go_cut [4] (fun s4 wx => s4 = .pointer (some ⟨w.heap.size + 1, 0, none⟩) ∧ Blk wx w.heap.size 24 #[.int .i64 0, .int .i64 0, .slice none 0 0] ∧ Blk wx (w.heap.size + 1) 24 #[.int .i64 ((y.toNat : Int) - 48), .int .i64 ((z.toNat : Int) - 48), .slice none 0 0] ∧ Nx w wx)
    case first =>
      go_region
      all_goals
        go_wp2_with fail
        go_meet
        case rel =>
          rw [W1.out, W2.out]
          have e0 := (Blk.new w 24 #[.int .i64 0, .int .i64 0, .slice none 0 0]).alloc (.cells #[.int .i64 ((y.toNat : Int) - 48), .int .i64 ((z.toNat : Int) - 48), .slice none 0 0] 24)
          have e1 := Blk.new (w.alloc (.cells #[.int .i64 0, .int .i64 0, .slice none 0 0] 24)) 24 #[.int .i64 ((y.toNat : Int) - 48), .int .i64 ((z.toNat : Int) - 48), .slice none 0 0]
          rw [World.size_alloc] at e1
          exact ⟨rfl, e0.drew, e1.drew, (((Nx.refl w).alloc _).alloc _).drew⟩
    case rest =>
      clear v1 v2 v3 v4 v5 v6 v7 v8 W1 W2 i1 i2 hs1 hs2 d1 d1'
      obtain ⟨rfl, hB, hC, hN⟩ := hcut
      have HR0 : Hid (RG s w y z 3 ⟨#[]⟩ 0 [] (.slice none 0 0) wc) := Lib.hid ⟨RowsOwn.nil _ _, rfl, ⟨Nat.le_refl _, h3', (by show 0 + 0 ≤ 3; omega)⟩, (fun l hl => by cases hl), hB, hC, hN⟩
      clear hB hC hN
      go_wp2_with fail
      go_loopw [5, 6] (fun t i wr => ∃ (k : Nat) (T : ByteArray) (n : Nat) (ls : List (List Int)) (v : Value), t = .string T ∧ i = .int .i64 k ∧ RG s w y z k T n ls v wr) (fun _ i _ => s.size - (intOf i).toNat)
      case atStart => exact ⟨3, _, 0, [], _, rfl, rfl, HR0.out⟩
      case round =>
        clear HR0
        obtain ⟨k, T, n, ls, v, rfl, rfl, hO, hS, ⟨hk3, hks, hkt⟩, hsh, hB, hC, hN⟩ := hrel
        have hsz := hN.size
        have hlc := hC.lt
        have hl := hO.1
        have HB := Lib.hid hB
        have HC := Lib.hid hC
        have HS := Lib.hid hS
        have HO := Lib.hid hO
        have HSH := Lib.hid hsh
        have HL := Lib.hid hl
        clear hB hC hS hO hsh hl
        by_cases hlt : k < s.size
        · have q1 : decide ((k : Int) < (s.size : Int)) = true := decide_eq_true (by omega)
          have q1' : decide (k < s.size) = true := decide_eq_true hlt
          have hi0 : (0 : Int) ≤ (k : Int) := by omega
          have hi1 : (k : Int) < (s.size : Int) := by omega
          have a5 : IntKind.i64.wrap ((k : Int) + 1) = (k : Int) + 1 := IntWalk.i64_in _ (by omega)
          have a4 : ((k : Int) + 1).toNat = k + 1 := by omega
          have a3 : (0 : Int) ≤ (k : Int) + 1 := by omega
          by_cases h10 : (s[k]'hlt).toNat = 10
          · have t1 : (((s[k]'hlt).toNat : Int) == 10) = true := by rw [h10]; rfl
            obtain ⟨A', cap', rfl, _, _, _⟩ := HO.out.rowsIn
            have CD := Lib.hid (fun W => rdecode_any T W (by omega))
            have HS' := Lib.hid (HS.out.nl hlt h10)
            have b0 := blk3 HC.out
            have b1 := blk3 HC.out.drew
            clear h10 HS
            go_upto_region 9 with fail
            go_cut [] (fun wx => ∃ v', RowsOwn wx (w.heap.size + 2) v' (n + 1) (ls ++ [decI (L T)]) ∧ Blk wx w.heap.size 24 #[.int .i64 0, .int .i64 0, .slice none 0 0] ∧ Blk wx (w.heap.size + 1) 24 #[.int .i64 ((y.toNat : Int) - 48), .int .i64 ((z.toNat : Int) - 48), v'] ∧ Nx w wx)
            case first =>
              go_region_law (first | (go_simp; go_at_call 26; refine (CD.out _).mono ?_; rintro e w3 ⟨A, m, c, rfl, hown, x3⟩; have hO3 := (HO.out.nx ((Nx.refl wr).drew)).nx x3; have hu := Lain.fresh (base := w.heap.size + 2) (own := (Value.slice A' n cap').ownBlock) hown (by show w.heap.size + 2 ≤ wr.heap.size; omega) (fun g hg => (HO.out.lt g hg).2); obtain ⟨vs, ho, push⟩ := hO3.push hu; have HOO := Lib.hid ho; have HP := Lib.hid push; have b2 := blk3 (HC.out.drew.nx x3); have b3 := blk3 ((HC.out.drew.nx x3).alloc (.cells #[.slice A m c] 34)); have hs3 := x3.size; have N3 := Lib.hid x3; clear hO3 hu ho push x3 hown) | (refine step_append_lies _ rfl (.tmp 33) (.tmp 36) _ rfl (w.heap.size + 2) 34 i0 _ 1 24 Tryd.underlying22 I0.out.1 I0.out.2.1 I0.out.2.2.1 I0.out.2.2.2 rfl (by omega) (.slice A' n cap') n vs (by simp [Act.eval]) (HOO.out.alloc _) ⟨w3.heap.size, 0, none⟩ 1 1 [_] (by simp [Act.eval]) rfl (one_new _ _ _) RowsOwn.one_ (by omega) (by unfold maxLen; omega) (by omega) (by rw [World.size_alloc]; change wr.heap.size ≤ _ at hs3; omega) (w3.heap.size + 1) (by simp) ?_; intro g4 c4 w4 r1 r2 r3 r4; have hlt4 := HOO.out.lt; have hR := HP.out (w3.alloc (.cells #[.slice A m c] 34)) w4 g4 c4 (w3.heap.size + 1) ((Nx.refl w3).alloc _) r1 r2 r3 (by omega); have hBk := ((HB.out.drew.nx N3.out).alloc (.cells #[.slice A m c] 34)).grown r2 (fun h => by have := (hlt4 _ h.symm).1; omega); have hCk := ((HC.out.drew.nx N3.out).alloc (.cells #[.slice A m c] 34)).grown r2 (fun h => by have := (hlt4 _ h.symm).1; omega); have n4 := ((hN.drew.trans N3.out).alloc (.cells #[.slice A m c] 34)).grown r2 (fun k hk => by have := (hlt4 k hk).1; omega); have b4 := blk3 hCk; have b5 := blk3f hCk; have HR4 := Lib.hid (And.intro hR (And.intro hBk (And.intro hCk n4))); clear hR hBk hCk n4 r1 r2 r3 r4 hlt4))
              all_goals
                clear b0 b1 b2 b3 b4 b5
                go_wp2_with fail
                go_meet
                case rel =>
                  obtain ⟨hR, hBk, hCk, n4⟩ := HR4.out
                  exact ⟨_, hR.set_ (by simp) _, hBk.far (by simp) _, hCk.set_ 2 _, n4.setCell (by simp) _⟩
            case rest =>
              clear b0 b1 HB HC HO CD
              obtain ⟨v', hR, hB, hC, hN2⟩ := hcut
              have hsh2 : Short (ls ++ [decI (L T)]) := by
                intro l hl
                rcases List.mem_append.1 hl with hl | hl
                · exact HSH.out l hl
                · simp at hl
                  subst hl
                  have := decI_length (L T)
                  rw [L_length] at this
                  omega
              have HR4 : Hid (RG s w y z (k + 1) ⟨#[]⟩ (n + 1) (ls ++ [decI (L T)]) v' wc) := Lib.hid ⟨hR, HS'.out, ⟨by omega, by omega, (by show 0 + (n + 1) ≤ k + 1; omega)⟩, hsh2, hB, hC, hN2⟩
              clear hR hB hC hN2 hN hsh2 HS' HSH HL
              go_wp2_with fail
              go_roundw
              case rel => exact ⟨k + 1, _, n + 1, _, _, rfl, by go_num, HR4.out⟩
              case measure => simp [intOf]; omega
          · have t1 : (((s[k]'hlt).toNat : Int) == 10) = false := by rw [beq_eq_false_iff_ne]; omega
            by_cases h92 : (s[k]'hlt).toNat = 92
            · have u1 : (((s[k]'hlt).toNat : Int) == 92) = true := by rw [h92]; rfl
              by_cases hk1 : k + 1 < s.size
              · have d1 : decide ((k : Int) + 1 < (s.size : Int)) = true := decide_eq_true (by omega)
                have d2 : (k : Int) + 1 < (s.size : Int) := by omega
                by_cases h110 : (s[k + 1]'hk1).toNat = 110
                · have e1 : (((s[k + 1]'hk1).toNat : Int) == 110) = true := by rw [h110]; rfl
                  have HS2 := Lib.hid (HS.out.two hk1 h92 10 (.inl ⟨rfl, h110⟩))
                  clear HS h110 h92 h10
                  go_wp2_with fail
                  go_roundw
                  case rel => exact ⟨k + 2, _, n, ls, v, rfl, by go_num, HO.out, by rw [L_app]; exact HS2.out, ⟨by omega, by omega, by rw [← L_length, L_app, List.length_append, L_length]; simp [L]; omega⟩, HSH.out, HB.out, HC.out, hN⟩
                  case measure => simp [intOf]; omega
                · have e1 : (((s[k + 1]'hk1).toNat : Int) == 110) = false := by rw [beq_eq_false_iff_ne]; omega
                  by_cases h92b : (s[k + 1]'hk1).toNat = 92
                  · have e2 : (((s[k + 1]'hk1).toNat : Int) == 92) = true := by rw [h92b]; rfl
                    have HS2 := Lib.hid (HS.out.two hk1 h92 92 (.inr ⟨rfl, h92b⟩))
                    clear HS h110 h92 h92b h10
                    go_wp2_with fail
                    go_roundw
                    case rel => exact ⟨k + 2, _, n, ls, v, rfl, by go_num, HO.out, by rw [L_app]; exact HS2.out, ⟨by omega, by omega, by rw [← L_length, L_app, List.length_append, L_length]; simp [L]; omega⟩, HSH.out, HB.out, HC.out, hN⟩
                    case measure => simp [intOf]; omega
                  · have e2 : (((s[k + 1]'hk1).toNat : Int) == 92) = false := by rw [beq_eq_false_iff_ne]; omega
                    have HS2 := Lib.hid (HS.out.one hlt h10 (.inr (.inr ⟨hk1, h110, h92b⟩)))
                    have HY := Lib.hid (byte_at s k hlt)
                    clear HS h110 h92 h92b h10
                    go_wp2_with fail
                    go_roundw
                    case rel => exact ⟨k + 1, _, n, ls, v, rfl, by go_num, HO.out, by rw [L_app, HY.out]; exact HS2.out, ⟨by omega, by omega, by rw [← L_length, L_app, List.length_append, L_length, HY.out, List.length_singleton]; omega⟩, HSH.out, HB.out, HC.out, hN⟩
                    case measure => simp [intOf]; omega
              · have d1 : decide ((k : Int) + 1 < (s.size : Int)) = false := decide_eq_false (by omega)
                have HS2 := Lib.hid (HS.out.one hlt h10 (.inr (.inl hk1)))
                have HY := Lib.hid (byte_at s k hlt)
                clear HS h92 h10
                go_wp2_with fail
                go_roundw
                case rel => exact ⟨k + 1, _, n, ls, v, rfl, by go_num, HO.out, by rw [L_app, HY.out]; exact HS2.out, ⟨by omega, by omega, by rw [← L_length, L_app, List.length_append, L_length, HY.out, List.length_singleton]; omega⟩, HSH.out, HB.out, HC.out, hN⟩
                case measure => simp [intOf]; omega
            · have u1 : (((s[k]'hlt).toNat : Int) == 92) = false := by rw [beq_eq_false_iff_ne]; omega
              have HS2 := Lib.hid (HS.out.one hlt h10 (.inl h92))
              have HY := Lib.hid (byte_at s k hlt)
              clear HS h92 h10
              go_wp2_with fail
              go_roundw
              case rel => exact ⟨k + 1, _, n, ls, v, rfl, by go_num, HO.out, by rw [L_app, HY.out]; exact HS2.out, ⟨by omega, by omega, by rw [← L_length, L_app, List.length_append, L_length, HY.out, List.length_singleton]; omega⟩, HSH.out, HB.out, HC.out, hN⟩
              case measure => simp [intOf]; omega
        · have q1 : decide ((k : Int) < (s.size : Int)) = false := decide_eq_false (by omega)
          have q1' : decide (k < s.size) = false := decide_eq_false hlt
          have hls := HS.out.done hlt
          obtain ⟨A', cap', rfl, hz, hcl, hcm⟩ := HO.out.rowsIn
          have b0 := blk3 HC.out
          cases hok : okPast ((y.toNat : Int) - 48) ((z.toNat : Int) - 48) ls with
          | false =>
            have CI := Lib.hid (rputp_bad ((y.toNat : Int) - 48) ((z.toNat : Int) - 48) A' n cap' ls wr hz HSH.out hok)
            have HN : Hid (noPast (L s)) := Lib.hid (noPast_ref H3.out (.inl (by rw [← hls]; exact hok)))
            clear hok hz hls HS HSH
            go_wp2_with fail
            refine CI.out.mono ?_
            rintro e w2 ⟨rfl, x2⟩
            have hBw := HB.out.nx x2
            have b3 := blk3 hBw
            have b4 := blk3f hBw
            have n2 := hN.trans x2
            have hB3 := blk_three (.int .i64 0) (.int .i64 0) (.slice none 0 0) hBw
            have n3 := nx_three n2 (Nat.le_refl _) (.int .i64 0) (.int .i64 0) (.slice none 0 0)
            have HB3 := Lib.hid hB3
            have N3 := Lib.hid n3
            clear x2 n2 hN HB HC HO hBw hB3 n3 b0 CI
            go_wp2_with fail
            obtain ⟨c0, c1, c2⟩ := blk3 HB3.out
            clear b3 b4
            generalize (((w2.setCell _ _).setCell _ _).setCell _ _) = W3 at *
            refine bodyPost_ret (v := .tuple #[.agg #[.int .i64 0, .int .i64 0, .slice none 0 0], .int .i64 2]) (by simp [results, Tryd.results17, go_sem, c0, c1, c2]) rfl ?_
            exact .inr ⟨rfl, HN.out, N3.out⟩
          | true =>
            have CI := Lib.hid (rputp_ok ((y.toNat : Int) - 48) ((z.toNat : Int) - 48) A' n cap' ls wr hz HSH.out hok)
            by_cases hu : putL ((y.toNat : Int) - 48) ((z.toNat : Int) - 48) ls = L s
            · have HN : Hid (isPut (L s) ((y.toNat : Int) - 48) ((z.toNat : Int) - 48) ls) := Lib.hid ⟨hok, hu⟩
              rw [show mkS (putL ((y.toNat : Int) - 48) ((z.toNat : Int) - 48) ls) = s from L_inj (by rw [L_mkS, hu])] at CI
              clear hok hz hls HS HSH hu
              go_wp2_with fail
              refine CI.out.mono ?_
              rintro e w2 ⟨rfl, x2⟩
              have hBw := HB.out.nx x2
              have d0 := blk3 (HC.out.nx x2)
              have d1 := blk3 hBw
              have d2 := blk3f hBw
              have n2 := hN.trans x2
              have hB3 := blk_three (.int .i64 ((y.toNat : Int) - 48)) (.int .i64 ((z.toNat : Int) - 48)) (.slice A' n cap') hBw
              have n3 := nx_three n2 (Nat.le_refl _) (.int .i64 ((y.toNat : Int) - 48)) (.int .i64 ((z.toNat : Int) - 48)) (.slice A' n cap')
              have hO3 := (((HO.out.nx x2).set_ (p := ⟨w.heap.size, 0, none⟩) (by simp) (.int .i64 ((y.toNat : Int) - 48))).set_ (p := ⟨w.heap.size, 1, none⟩) (by simp) (.int .i64 ((z.toNat : Int) - 48))).set_ (p := ⟨w.heap.size, 2, none⟩) (by simp) (.slice A' n cap')
              obtain ⟨A2, cap2, e, hz3, _, _⟩ := hO3.rowsIn
              injection e with e1 e2 e3
              subst e1 e3
              have HZ3 := Lib.hid hz3
              have HB3 := Lib.hid hB3
              have N3 := Lib.hid n3
              clear hBw n2 hB3 n3 hO3 hz3 HO HB HC hN b0 x2 CI e2
              go_wp2_with fail
              obtain ⟨c0, c1, c2⟩ := blk3 HB3.out
              clear d0 d1 d2
              generalize (((w2.setCell _ _).setCell _ _).setCell _ _) = W3 at *
              refine bodyPost_ret (v := .tuple #[.agg #[.int .i64 ((y.toNat : Int) - 48), .int .i64 ((z.toNat : Int) - 48), .slice A' n cap'], .int .i64 0]) (by simp [results, Tryd.results17, go_sem, c0, c1, c2]) rfl ?_
              exact .inl ⟨_, _, _, _, _, ls, rfl, HN.out, HZ3.out, hcl, hcm, N3.out⟩
            · have HN : Hid (noPast (L s)) := Lib.hid (noPast_ref H3.out (.inr (by rw [← hls]; exact hu)))
              obtain ⟨S, hS⟩ : ∃ S, mkS (putL ((y.toNat : Int) - 48) ((z.toNat : Int) - 48) ls) = S := ⟨_, rfl⟩
              rw [hS] at CI
              have q2 : (S.toList == s.toList) = false := str_eq_f (fun h => hu (by rw [← h, ← hS, L_mkS]))
              have q3 : (S.toList != s.toList) = true := by rw [bne, q2]; rfl
              clear hok hz hls HS HSH hu hS
              go_wp2_with fail
              refine CI.out.mono ?_
              rintro e w2 ⟨rfl, x2⟩
              have hBw := HB.out.nx x2
              have b3 := blk3 hBw
              have b4 := blk3f hBw
              have n2 := hN.trans x2
              have hB3 := blk_three (.int .i64 0) (.int .i64 0) (.slice none 0 0) hBw
              have n3 := nx_three n2 (Nat.le_refl _) (.int .i64 0) (.int .i64 0) (.slice none 0 0)
              have HB3 := Lib.hid hB3
              have N3 := Lib.hid n3
              clear x2 n2 hN HB HC HO hBw hB3 n3 b0 CI
              go_wp2_with fail
              obtain ⟨c0, c1, c2⟩ := blk3 HB3.out
              clear b3 b4
              generalize (((w2.setCell _ _).setCell _ _).setCell _ _) = W3 at *
              refine bodyPost_ret (v := .tuple #[.agg #[.int .i64 0, .int .i64 0, .slice none 0 0], .int .i64 2]) (by simp [results, Tryd.results17, go_sem, c0, c1, c2]) rfl ?_
              exact .inr ⟨rfl, HN.out, N3.out⟩
end Go.Proofs.YtmfjndoljdpliaaDoor.walk
