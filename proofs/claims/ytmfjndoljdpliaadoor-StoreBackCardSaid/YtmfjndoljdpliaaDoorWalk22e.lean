/-
  A past: the bytes by which it is put, the document's (typebarref22.Put). No condition but a bound on the rows.
-/
import Derived.Test.YtmfjndoljdpliaaDoorWalk22d
namespace Go.Proofs.YtmfjndoljdpliaaDoor.walk
open Go.RowKit Go.Proofs.YtmfjndoljdpliaaDoor.kit Go.Proofs.YtmfjndoljdpliaaDoor.plain
set_option linter.unusedVariables false

set_option maxHeartbeats 2000000 in
theorem rputp_bad (R D : Int) (A : Option Addr) (n cap : Nat) (ls : List (List Int)) (w : World) (hz : RowsIn w A n ls) (hs : Short ls) (h : okPast R D ls = false) :
    Calls Tryd.prog 16 #[.agg #[.int .i64 R, .int .i64 D, .slice A n cap]] w fun e w' => e = .returned (.tuple #[.string ⟨#[]⟩, .int .i64 1]) ∧ Nx w w' := by
  have n1 := (Nx.refl w).alloc (.cells #[.int .i64 R, .int .i64 D, .slice A n cap] 24)
  have C1 := Lib.hid (risp_any R D A n cap ls _ (hz.keep n1) hs)
  rw [h] at C1
  clear h hz
  go_enter Tryd.func16, Tryd.ntmps16
  go_wp2_with fail
  refine C1.out.mono ?_
  rintro e w1 ⟨rfl, x1⟩
  clear C1
  go_wp2_with fail
  go_ret2
  exact ⟨rfl, n1.trans x1⟩
theorem hd_nums {R D : Int} : strOfNums [80, 48 + R, 48 + D] = mkS (hd3 R D) := by
  apply L_inj
  rw [L_nums, L_mkS]
  rfl
theorem take_snocL (s : ByteArray) (k : Nat) (h : k < s.size) : (L s).take (k + 1) = (L s).take k ++ [s[k]] := by
  rw [List.take_succ_eq_append_getElem (by rw [L_length]; exact h)]; rfl

set_option maxRecDepth 100000 in
set_option maxHeartbeats 4000000 in
theorem rputp_ok (R D : Int) (A : Option Addr) (n cap : Nat) (ls : List (List Int)) (w : World) (hz : RowsIn w A n ls) (hs : Short ls) (h : okPast R D ls = true) :
    Calls Tryd.prog 16 #[.agg #[.int .i64 R, .int .i64 D, .slice A n cap]] w fun e w' => e = .returned (.tuple #[.string (mkS (putL R D ls)), .int .i64 0]) ∧ Nx w w' := by
  have n1 := (Nx.refl w).alloc (.cells #[.int .i64 R, .int .i64 D, .slice A n cap] 24)
  have C1 := Lib.hid (risp_any R D A n cap ls _ (hz.keep n1) hs)
  rw [h] at C1
  have hp := okPast_t h
  have hh := okHead_t hp.1
  have HP := Lib.hid hp
  have HL := Lib.hid hz.1
  have hn16 : n ≤ 16 := by have := hp.2.1; rw [hz.1] at this; omega
  have hB := Blk.new w 24 #[.int .i64 R, .int .i64 D, .slice A n cap]
  clear h hp
  generalize hS : mkS (putL R D ls) = S
  have HS := Lib.hid hS
  clear hS
  go_enter Tryd.func16, Tryd.ntmps16
  go_wp2_with fail
  refine C1.out.mono ?_
  rintro e w1 ⟨rfl, x1⟩
  clear C1
  have hB1 := (hB.nx x1)
  have hB2 := hB1.alloc (.cells #[.int .u8 80, .int .u8 (48 + R), .int .u8 (48 + D)] 5)
  obtain ⟨b0, b1, b2⟩ := blk3 hB1
  have hlt1 : w.heap.size < w1.heap.size := hB1.lt
  have n2 := (n1.trans x1).alloc (.cells #[.int .u8 80, .int .u8 (48 + R), .int .u8 (48 + D)] 5)
  have cv := conv_new w1 [80, 48 + R, 48 + D] _ 3 hd_nums rfl
  simp only [List.map_cons, List.map_nil] at cv
  have HB2 := Lib.hid hB2
  clear hB hB1 hB2 x1
  have HH := Lib.hid (L_mkS (hd3 R D))
  generalize mkS (hd3 R D) = H3 at *
  go_wp2_with fail
  go_loopw [4, 5, 6, 7] (fun v i _ _ wr => ∃ (k : Nat) (S' : ByteArray), k ≤ n ∧ v = .string S' ∧ i = .int .i64 k ∧ Hid (L S' = hd3 R D ++ lns (ls.take k)) ∧ Blk wr w.heap.size 24 #[.int .i64 R, .int .i64 D, .slice A n cap] ∧ Nx w wr) (fun _ i _ _ _ => n - (intOf i).toNat)
  case atStart =>
    refine ⟨0, H3, Nat.zero_le _, rfl, rfl, Lib.hid ?_, HB2.out, n2⟩
    rw [HH.out, List.take_zero, lns_nil, List.append_nil]
  case round =>
    clear HB2 b0 b1 b2 hlt1 n1 n2 cv
    obtain ⟨k, S', hk, rfl, rfl, HLS, hB, hN⟩ := hrel
    obtain ⟨b0, b1, b2⟩ := blk3 hB
    have hpl : S'.size ≤ 12819 := by
      rw [← L_length, HLS.out]
      have h1 := lns_length (ls.take k) 200 fun l hl => (okLine_t (HP.out.2.2 l (List.mem_of_mem_take hl))).2.1
      have h2 : (ls.take k).length ≤ 16 := by rw [List.length_take]; omega
      rw [List.length_append]
      have h3 : (hd3 R D).length = 3 := rfl
      have : (4 * 200 + 1) * (ls.take k).length ≤ (4 * 200 + 1) * 16 := Nat.mul_le_mul_left _ h2
      omega
    by_cases hlt : k < n
    · obtain ⟨b, off, B, m, c, rfl, lb, g0, hI, hmc, hcm⟩ := hz.at_ hlt
      have c0 := (hN.cell (p := ⟨b, off + k, none⟩) lb).trans g0
      have q1 : decide ((k : Int) < (n : Int)) = true := decide_eq_true (by omega)
      have q1' : decide (k < n) = true := decide_eq_true hlt
      have hi0 : (0 : Int) ≤ (k : Int) := by omega
      have hi1 : (k : Int) < (n : Int) := by omega
      have hkl : k < ls.length := by rw [HL.out]; exact hlt
      have HT := Lib.hid (take_nthL (ls := ls) (i := k) hkl)
      have hok := okLine_t (HP.out.2.2 _ (nthL_mem hkl))
      have HE : Hid (hd3 R D ++ lns (ls.take (k + 1)) = (hd3 R D ++ lns (ls.take k)) ++ (encs (nthL ls k)).flatMap escB ++ [10]) := Lib.hid (by rw [HT.out, lns_snoc, escB_encs _ hok.2.2]; simp)
      have CE := Lib.hid (rencode_any B m c (nthL ls k) wr (hI.keep hN) (by have := hI.1; omega))
      have hel := (encs_length (nthL ls k)).1
      clear HT g0 hkl
      generalize nthL ls k = l at *
      generalize hd3 R D ++ lns (ls.take k) = P at *
      have hT8 : (mkS (encs l)).size ≤ 800 := by rw [← L_length, L_mkS]; omega
      have HX := HE.out
      rw [← L_mkS (encs l)] at HX
      have HE2 := Lib.hid HX
      clear hok HE HX hel
      generalize mkS (encs l) = T at *
      have HB := Lib.hid hB
      go_wp2_with fail
      refine CE.out.mono ?_
      rintro e w3 ⟨rfl, x3⟩
      clear CE
      have hN3 := hN.trans x3
      have HB3 := Lib.hid (HB.out.nx x3)
      clear HB hB b0 b1 b2 c0
      go_wp2_with fail
      go_loop [4, 7] (fun v i => ∃ (j : Nat) (S2 : ByteArray), j ≤ T.size ∧ v = .string S2 ∧ i = .int .i64 j ∧ Hid (L S2 = P ++ ((L T).take j).flatMap escB) ∧ S2.size ≤ 12819 + 2 * j) (fun _ i => T.size - (intOf i).toNat)
      case atStart => exact ⟨0, S', Nat.zero_le _, rfl, rfl, Lib.hid (by rw [HLS.out]; simp), by omega⟩
      case round =>
        obtain ⟨j, S2, hj, rfl, rfl, HLS2, hs2⟩ := hrel
        by_cases hjt : j < T.size
        · have p1 : decide ((j : Int) < (T.size : Int)) = true := decide_eq_true (by omega)
          have p1' : decide (j < T.size) = true := decide_eq_true hjt
          have hj0 : (0 : Int) ≤ (j : Int) := by omega
          have hj1 : (j : Int) < (T.size : Int) := by omega
          have HSN := Lib.hid (take_snocL T j hjt)
          have e10 : (10 : UInt8).toNat = 10 := rfl
          have e92 : (92 : UInt8).toNat = 92 := rfl
          by_cases h10 : T[j] = 10
          · have t1 : ((T[j].toNat : Int) == 10) = true := by rw [h10]; rfl
            have HX : Hid (escB T[j] = [92, 110]) := Lib.hid (by rw [h10]; rfl)
            clear h10 e10 e92
            go_wp2_with fail
            go_round
            case rel => exact ⟨j + 1, _, by omega, rfl, by go_num, Lib.hid (by rw [L_app, HLS2.out, HSN.out, List.flatMap_append, List.flatMap_singleton, HX.out, List.append_assoc]; rfl), by rw [← L_length, L_app, List.length_append, L_length]; simp [L]; omega⟩
            case measure => simp [intOf]; omega
          · have t1 : ((T[j].toNat : Int) == 10) = false := by
              rw [beq_eq_false_iff_ne]
              intro h
              exact h10 (UInt8.toNat_inj.1 (by omega))
            by_cases h92 : T[j] = 92
            · have t2 : ((T[j].toNat : Int) == 92) = true := by rw [h92]; rfl
              have HX : Hid (escB T[j] = [92, 92]) := Lib.hid (by rw [h92]; rfl)
              clear h10 h92 e10 e92
              go_wp2_with fail
              go_round
              case rel => exact ⟨j + 1, _, by omega, rfl, by go_num, Lib.hid (by rw [L_app, HLS2.out, HSN.out, List.flatMap_append, List.flatMap_singleton, HX.out, List.append_assoc]; rfl), by rw [← L_length, L_app, List.length_append, L_length]; simp [L]; omega⟩
              case measure => simp [intOf]; omega
            · have t2 : ((T[j].toNat : Int) == 92) = false := by
                rw [beq_eq_false_iff_ne]
                intro h
                exact h92 (UInt8.toNat_inj.1 (by omega))
              have HX : Hid (escB T[j] = [T[j]]) := Lib.hid (by unfold escB; rw [if_neg h10, if_neg h92])
              have HY : Hid (L (T.extract j (j + 1)) = [T[j]]) := Lib.hid (by
                rw [L_extract, take_snocL T j hjt, List.drop_append_of_le_length (by rw [List.length_take, L_length]; omega), List.drop_of_length_le (by rw [List.length_take]; omega), List.nil_append])
              clear h10 h92 e10 e92
              go_wp2_with fail
              go_round
              case rel => exact ⟨j + 1, _, by omega, rfl, by go_num, Lib.hid (by rw [L_app, HLS2.out, HSN.out, List.flatMap_append, List.flatMap_singleton, HX.out, HY.out, List.append_assoc]), by rw [← L_length, L_app, List.length_append, L_length, HY.out, List.length_singleton]; omega⟩
              case measure => simp [intOf]; omega
        · have p1 : decide ((j : Int) < (T.size : Int)) = false := decide_eq_false (by omega)
          have p1' : decide (j < T.size) = false := decide_eq_false hjt
          have HF : Hid (L S2 = P ++ (L T).flatMap escB) := Lib.hid (by rw [HLS2.out, List.take_of_length_le (by rw [L_length]; omega)])
          clear HLS2
          go_wp2_with fail
          go_roundw
          case rel => exact ⟨k + 1, _, by omega, rfl, by go_num, Lib.hid (by rw [L_app, HF.out, HE2.out]; rfl), HB3.out, hN3⟩
          case measure => simp [intOf]; omega
    · have q1 : decide ((k : Int) < (n : Int)) = false := decide_eq_false (by omega)
      have q1' : decide (k < n) = false := decide_eq_false hlt
      have hfin : S' = S := by
        rw [← HS.out]
        apply L_inj
        rw [L_mkS, HLS.out, List.take_of_length_le (by rw [HL.out]; omega)]
        rfl
      subst hfin
      clear HS HLS hB
      go_wp2_with fail
      go_ret2
      exact ⟨rfl, hN⟩
end Go.Proofs.YtmfjndoljdpliaaDoor.walk
