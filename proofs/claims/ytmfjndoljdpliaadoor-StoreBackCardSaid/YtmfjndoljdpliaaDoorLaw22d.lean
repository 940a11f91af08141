/-
  The walk of the law StoreBack: it returns true for every input. No condition but the library's two tables.
-/
import Derived.Test.YtmfjndoljdpliaaDoorLaw22b
namespace Go.Proofs.YtmfjndoljdpliaaDoor.walk
open Go.RowKit Go.Proofs.YtmfjndoljdpliaaDoor.kit Go.Proofs.YtmfjndoljdpliaaDoor.plain
set_option linter.unusedVariables false

set_option maxRecDepth 100000 in
set_option maxHeartbeats 4000000 in
theorem storeBack_walk (w : World) (hT : TB w) (R D : Int) (A : Option Addr) (n cap : Nat) (ls : List (List Int)) (hz : RowsIn w A n ls ∧ n ≤ cap ∧ cap ≤ maxLen) (s : ByteArray) (ws : s.size ≤ 9223372036854775807) :
    Calls Tryd.prog 3 #[.agg #[.int .i64 R, .int .i64 D, .slice A n cap], .string s] w fun e w' => e = .returned (.bool true) ∧ Below w.heap.size w w' := by
  have n1 := (Nx.refl w).alloc (.cells #[.int .i64 R, .int .i64 D, .slice A n cap] 24)
  have hB := Blk.new w 24 #[.int .i64 R, .int .i64 D, .slice A n cap]
  have CB := Lib.hid (fun s W hw => big_any R D A n cap ls s W hw)
  have HZ := Lib.hid hz.1
  clear hz ws
  have b0 := blk3 hB
  go_enter Tryd.func3, Tryd.ntmps3
  go_wp2_with fail
  refine (CB.out _ _ (HZ.out.keep n1)).mono ?_
  clear b0
  rintro e w1 ⟨rfl | ⟨rfl, hl, hm, hk⟩, x1⟩
  · go_wp2_with fail
    go_ret
    exact ⟨rfl, n1.trans x1⟩
  · have hs := short_of hm
    have n2 := n1.trans x1
    have hB1 := hB.nx x1
    have b1 := blk3 hB1
    have HSS := Lib.hid hs
    have HSZ : Hid (s.size ≤ 1000000) := Lib.hid (by omega)
    have HNL := Lib.hid HZ.out.1
    clear hB CB hl hm hk hs x1 n1
    cases hok : okPast R D ls with
    | false =>
      have C1 := Lib.hid (putp_bad R D A n cap ls w1 (HZ.out.keep n2) HSS.out hok)
      have HOK := Lib.hid hok
      clear hok
      go_wp2_with fail
      refine C1.out.mono ?_
      clear C1
      rintro e w2 ⟨rfl, x2⟩
      have n3 := n2.trans x2
      have HB2 := Lib.hid (hB1.nx x2)
      clear b1 hB1 x2 n2
      have bt := blk3 HB2.out
      by_cases hp : ∃ R' D' ms, isPut (L s) R' D' ms
      · obtain ⟨R', D', ms, hp⟩ := hp
        have CG := Lib.hid (getp_any s w2 (hT.nx n3) HSZ.out)
        have HP := Lib.hid hp
        have HSH := Lib.hid (isPut_short hp).1
        clear hp
        go_wp2_with fail
        refine CG.out.mono ?_
        clear CG
        intro e v1 h1
        obtain ⟨A2, cap2, rfl, r2, _, _, y1⟩ := h1.put HP.out
        clear h1
        have y2 := y1.alloc (.cells #[.int .i64 R', .int .i64 D', .slice A2 ms.length cap2] 24)
        have m1 := (n3).trans y2
        have r3 := r2.keep ((Nx.refl v1).alloc (.cells #[.int .i64 R', .int .i64 D', .slice A2 ms.length cap2] 24))
        have hQ := Blk.new v1 24 #[.int .i64 R', .int .i64 D', .slice A2 ms.length cap2]
        have bq := blk3 hQ
        have C1 := Lib.hid (putp_ok R' D' A2 ms.length cap2 ms _ r3 HSH.out HP.out.1)
        rw [show mkS (putL R' D' ms) = s from L_inj (by rw [L_mkS, HP.out.2])] at C1
        have R3 := Lib.hid r3
        have HQ := Lib.hid hQ
        clear bt y1 y2 r2 r3 hQ
        go_wp2_with fail
        generalize v1.alloc _ = V1 at *
        refine C1.out.mono ?_
        clear C1
        rintro e v2 ⟨rfl, y2⟩
        have m2 := m1.trans y2
        have b2 := blk3 (HQ.out.nx y2)
        have CT := Lib.hid (stored_any v2 (hT.nx m2))
        clear bq m1
        go_wp2_with fail
        refine CT.out.mono ?_
        clear CT
        rintro e v3 ⟨rfl, y3⟩
        have m3 := m2.trans y3
        have b3 := blk3 ((HQ.out.nx y2).nx y3)
        have CI := Lib.hid (isp_any R' D' A2 ms.length cap2 ms v3 ((R3.out.keep y2).keep y3) HSH.out)
        rw [HP.out.1] at CI
        clear b2 m2 y2 y3 R3 HQ
        go_wp2_with fail
        refine CI.out.mono ?_
        clear CI
        rintro e v4 ⟨rfl, y4⟩
        go_wp2_with fail
        go_ret
        exact ⟨rfl, m3.trans y4⟩
      · have hp' : ∀ R' D' ms, ¬ isPut (L s) R' D' ms := fun R' D' ms h => hp ⟨R', D', ms, h⟩
        have CG := Lib.hid (getp_any s w2 (hT.nx n3) HSZ.out)
        have HP := Lib.hid hp'
        clear hp hp'
        go_wp2_with fail
        refine CG.out.mono ?_
        clear CG
        intro e v1 h1
        obtain ⟨rfl, y1⟩ := h1.no HP.out
        clear h1
        have y2 := y1.alloc (.cells #[.int .i64 0, .int .i64 0, .slice none 0 0] 24)
        have m1 := (n3).trans y2
        have HB1 := Lib.hid (HB2.out.nx y2)
        have b1 := blk3 HB1.out
        have CT := Lib.hid (stored_any _ (hT.nx m1))
        clear bt y1 y2
        go_wp2_with fail
        generalize v1.alloc _ = V1 at *
        refine CT.out.mono ?_
        clear CT
        rintro e v2 ⟨rfl, y2⟩
        have m2 := m1.trans y2
        have b2 := blk3 (HB1.out.nx y2)
        have CI := Lib.hid (isp_any R D A n cap ls v2 (HZ.out.keep m2) HSS.out)
        rw [HOK.out] at CI
        clear b1 m1 y2 HB1
        go_wp2_with fail
        refine CI.out.mono ?_
        clear CI
        rintro e v3 ⟨rfl, y3⟩
        go_wp2_with fail
        go_ret
        exact ⟨rfl, m2.trans y3⟩
    | true =>
      have C1 := Lib.hid (putp_ok R D A n cap ls w1 (HZ.out.keep n2) HSS.out hok)
      obtain ⟨T, hT'⟩ : ∃ T, mkS (putL R D ls) = T := ⟨_, rfl⟩
      have hLT : L T = putL R D ls := by rw [← hT', L_mkS]
      have hTz := putL_length hok
      rw [← hLT, L_length] at hTz
      have hcnt := count_putL hok
      rw [← hLT, HNL.out] at hcnt
      rw [hT'] at C1
      have HTP : Hid (isPut (L T) R D ls) := Lib.hid ⟨hok, hLT.symm⟩
      have HCN := Lib.hid hcnt
      have HOK := Lib.hid hok
      have hn16 := (isPut_short HTP.out).2
      rw [HNL.out] at hn16
      clear hok hT' hLT hcnt
      go_wp2_with fail
      refine C1.out.mono ?_
      clear C1
      rintro e w2 ⟨rfl, x2⟩
      have n3 := n2.trans x2
      have hB2 := hB1.nx x2
      have C2 := Lib.hid (getp_any T w2 (hT.nx n3) (by omega))
      clear b1 hB1 x2 n2
      go_wp2_with fail
      refine C2.out.mono ?_
      clear C2
      intro e w3 h3
      obtain ⟨A', cap', rfl, r3, _, _, x3⟩ := h3.put HTP.out
      rw [HNL.out] at r3 ⊢
      have x4 := x3.alloc (.cells #[.int .i64 R, .int .i64 D, .slice A' n cap'] 24)
      have n4 := n3.trans x4
      have HQ := Lib.hid (Blk.new w3 24 #[.int .i64 R, .int .i64 D, .slice A' n cap'])
      have HB4 := Lib.hid (hB2.nx x4)
      have R4 := Lib.hid (r3.keep ((Nx.refl w3).alloc (.cells #[.int .i64 R, .int .i64 D, .slice A' n cap'] 24)))
      clear h3 r3 x3 x4 hB2 n3
      go_wp2_with fail
      generalize w3.alloc _ = W4 at *
      go_loop [9, 10] (fun c i => ∃ (k q : Nat), k ≤ T.size ∧ c = .int .i64 q ∧ i = .int .i64 k ∧ Hid (((L T).take k).count 10 = q) ∧ q ≤ k) (fun _ i => T.size - (intOf i).toNat)
      case atStart => exact ⟨0, 0, Nat.zero_le _, rfl, rfl, Lib.hid rfl, Nat.le_refl _⟩
      case round =>
        obtain ⟨k, q, hk, rfl, rfl, HC, hq⟩ := hrel
        by_cases hlt : k < T.size
        · have q1 : decide ((k : Int) < (T.size : Int)) = true := decide_eq_true (by omega)
          have q1' : decide (k < T.size) = true := decide_eq_true hlt
          have hi0 : (0 : Int) ≤ (k : Int) := by omega
          have hi1 : (k : Int) < (T.size : Int) := by omega
          have HSN := Lib.hid (take_snocL T k hlt)
          by_cases h10 : T[k] = 10
          · have t1 : ((T[k].toNat : Int) == 10) = true := by rw [h10]; rfl
            have HN : Hid (((L T).take (k + 1)).count 10 = q + 1) := Lib.hid (by rw [HSN.out, List.count_append, HC.out, h10]; rfl)
            clear h10 HSN HC
            go_wp2_with fail
            go_round
            case rel => exact ⟨k + 1, q + 1, by omega, by go_num, by go_num, HN, by omega⟩
            case measure => simp [intOf]; omega
          · have t1 : ((T[k].toNat : Int) == 10) = false := by
              rw [beq_eq_false_iff_ne]
              intro h
              have e10 : (10 : UInt8).toNat = 10 := rfl
              exact h10 (UInt8.toNat_inj.1 (by omega))
            have HN : Hid (((L T).take (k + 1)).count 10 = q) := Lib.hid (by rw [HSN.out, List.count_append, HC.out, List.count_singleton]; simp [h10])
            clear h10 HSN HC
            go_wp2_with fail
            go_round
            case rel => exact ⟨k + 1, q, by omega, rfl, by go_num, HN, by omega⟩
            case measure => simp [intOf]; omega
        · have q1 : decide ((k : Int) < (T.size : Int)) = false := decide_eq_false (by omega)
          have q1' : decide (k < T.size) = false := decide_eq_false hlt
          have hqn : q = n := by
            have := HC.out
            rw [List.take_of_length_le (by rw [L_length]; omega), HCN.out] at this
            exact this.symm
          subst hqn
          have b4 := blk3 HB4.out
          have c4 := blk3 HQ.out
          have CP := Lib.hid (psame_eq R D W4 A A' q cap cap' ls (HZ.out.keep n4) R4.out HSS.out (by omega))
          have d3 : decide ((T.size : Int) < 3) = false := decide_eq_false (by omega)
          have d3' : decide (T.size < 3) = false := decide_eq_false (by omega)
          have e1 : ((q : Int) != (q : Int)) = false := by simp
          clear HC HCN hlt HTP
          go_wp2_with fail
          refine CP.out.mono ?_
          clear CP
          rintro e w5 ⟨rfl, x5⟩
          have n5 := n4.trans x5
          have HB5 := Lib.hid (HB4.out.nx x5)
          have b5 := blk3 HB5.out
          clear b4 c4 HB4 HQ R4 x5 n4
          have bt := blk3 HB5.out
          by_cases hp : ∃ R' D' ms, isPut (L s) R' D' ms
          · obtain ⟨R', D', ms, hp⟩ := hp
            have CG := Lib.hid (getp_any s w5 (hT.nx n5) HSZ.out)
            have HP := Lib.hid hp
            have HSH := Lib.hid (isPut_short hp).1
            clear hp
            go_wp2_with fail
            refine CG.out.mono ?_
            clear CG
            intro e v1 h1
            obtain ⟨A2, cap2, rfl, r2, _, _, y1⟩ := h1.put HP.out
            clear h1
            have y2 := y1.alloc (.cells #[.int .i64 R', .int .i64 D', .slice A2 ms.length cap2] 24)
            have m1 := (n5).trans y2
            have r3 := r2.keep ((Nx.refl v1).alloc (.cells #[.int .i64 R', .int .i64 D', .slice A2 ms.length cap2] 24))
            have hQ := Blk.new v1 24 #[.int .i64 R', .int .i64 D', .slice A2 ms.length cap2]
            have bq := blk3 hQ
            have C1 := Lib.hid (putp_ok R' D' A2 ms.length cap2 ms _ r3 HSH.out HP.out.1)
            rw [show mkS (putL R' D' ms) = s from L_inj (by rw [L_mkS, HP.out.2])] at C1
            have R3 := Lib.hid r3
            have HQ := Lib.hid hQ
            clear bt y1 y2 r2 r3 hQ
            go_wp2_with fail
            generalize v1.alloc _ = V1 at *
            refine C1.out.mono ?_
            clear C1
            rintro e v2 ⟨rfl, y2⟩
            have m2 := m1.trans y2
            have b2 := blk3 (HQ.out.nx y2)
            have CT := Lib.hid (stored_any v2 (hT.nx m2))
            clear bq m1
            go_wp2_with fail
            refine CT.out.mono ?_
            clear CT
            rintro e v3 ⟨rfl, y3⟩
            have m3 := m2.trans y3
            have b3 := blk3 ((HQ.out.nx y2).nx y3)
            have CI := Lib.hid (isp_any R' D' A2 ms.length cap2 ms v3 ((R3.out.keep y2).keep y3) HSH.out)
            rw [HP.out.1] at CI
            clear b2 m2 y2 y3 R3 HQ
            go_wp2_with fail
            refine CI.out.mono ?_
            clear CI
            rintro e v4 ⟨rfl, y4⟩
            go_wp2_with fail
            go_ret
            exact ⟨rfl, m3.trans y4⟩
          · have hp' : ∀ R' D' ms, ¬ isPut (L s) R' D' ms := fun R' D' ms h => hp ⟨R', D', ms, h⟩
            have CG := Lib.hid (getp_any s w5 (hT.nx n5) HSZ.out)
            have HP := Lib.hid hp'
            clear hp hp'
            go_wp2_with fail
            refine CG.out.mono ?_
            clear CG
            intro e v1 h1
            obtain ⟨rfl, y1⟩ := h1.no HP.out
            clear h1
            have y2 := y1.alloc (.cells #[.int .i64 0, .int .i64 0, .slice none 0 0] 24)
            have m1 := (n5).trans y2
            have HB1 := Lib.hid (HB5.out.nx y2)
            have b1 := blk3 HB1.out
            have CT := Lib.hid (stored_any _ (hT.nx m1))
            clear bt y1 y2
            go_wp2_with fail
            generalize v1.alloc _ = V1 at *
            refine CT.out.mono ?_
            clear CT
            rintro e v2 ⟨rfl, y2⟩
            have m2 := m1.trans y2
            have b2 := blk3 (HB1.out.nx y2)
            have CI := Lib.hid (isp_any R D A q cap ls v2 (HZ.out.keep m2) HSS.out)
            rw [HOK.out] at CI
            clear b1 m1 y2 HB1
            go_wp2_with fail
            refine CI.out.mono ?_
            clear CI
            rintro e v3 ⟨rfl, y3⟩
            go_wp2_with fail
            go_ret
            exact ⟨rfl, m2.trans y3⟩
end Go.Proofs.YtmfjndoljdpliaaDoor.walk
