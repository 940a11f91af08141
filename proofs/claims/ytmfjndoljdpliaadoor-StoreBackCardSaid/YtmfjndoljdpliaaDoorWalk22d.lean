/-
  A past: the bytes by which it is put (store.Put). No condition but a bound on the rows.
-/
import Derived.Test.YtmfjndoljdpliaaDoorWalk22c
namespace Go.Proofs.YtmfjndoljdpliaaDoor.walk
open Go.RowKit Go.Proofs.YtmfjndoljdpliaaDoor.kit Go.Proofs.YtmfjndoljdpliaaDoor.plain
set_option linter.unusedVariables false

set_option maxHeartbeats 2000000 in
theorem putp_bad (R D : Int) (A : Option Addr) (n cap : Nat) (ls : List (List Int)) (w : World) (hz : RowsIn w A n ls) (hs : Short ls) (h : okPast R D ls = false) :
    Calls Tryd.prog 8 #[.agg #[.int .i64 R, .int .i64 D, .slice A n cap]] w fun e w' => e = .returned (.tuple #[.string ⟨#[]⟩, .int .i64 1]) ∧ Nx w w' := by
  have n1 := (Nx.refl w).alloc (.cells #[.int .i64 R, .int .i64 D, .slice A n cap] 24)
  have C1 := Lib.hid (isp_any R D A n cap ls _ (hz.keep n1) hs)
  rw [h] at C1
  clear h hz
  go_enter Tryd.func8, Tryd.ntmps8
  go_wp2_with fail
  refine C1.out.mono ?_
  rintro e w1 ⟨rfl, x1⟩
  clear C1
  go_wp2_with fail
  go_ret2
  exact ⟨rfl, n1.trans x1⟩

theorem hd_bcs {R D : Int} (h : okHead R D = true) : bcs (hd3 R D) = [.int .u8 80, .int .u8 (48 + R), .int .u8 (48 + D)] := by
  have hh := okHead_t h
  unfold bcs hd3
  simp only [List.map_cons, List.map_nil]
  rw [toNat_of _ (by omega), toNat_of _ (by omega)]
  rw [show (((48 + R).toNat : Nat) : Int) = 48 + R by omega, show (((48 + D).toNat : Nat) : Int) = 48 + D by omega]
  rfl
theorem info8 : (Tryd.prog.info? 5).map (fun i => (i.zero, i.size, i.bytes)) = some (some (.int .u8 0), 1, 1) := by kernel_rfl

theorem own_nx {w w' : World} {base : Nat} {e : TypeId} {size : Nat} {v : Value} {n : Nat} {xs : List Value} (h : w.ownsRow base e size v n xs) (x : Nx w w') : w'.ownsRow base e size v n xs := own_keep h fun g _ hg => x.block hg
theorem own_whole (w : World) (cs : List Value) (base : Nat) (e : TypeId) (k : Nat) (hk : cs.length = k) (hb : base ≤ w.heap.size) (hm : k ≤ maxLen) : (w.alloc (.cells cs.toArray e)).ownsRow base e 1 (.slice (some ⟨w.heap.size, 0, none⟩) k k) k cs := by
  subst hk
  exact ⟨by simp, .inr ⟨w.heap.size, cs.length, cs.toArray, rfl, hb, heap_alloc_new w _, Nat.le_refl _, hm, by simp, by simp⟩⟩
theorem two_new (w : World) (u v : Value) (t : TypeId) : ∀ j x, [u, v][j]? = some x → (w.alloc (.cells #[u, v] t)).cell? ((⟨w.heap.size, 0, none⟩ : Addr).add j) = some x := by
  intro j x hj
  match j, hj with
  | 0, hj => simp at hj; subst hj; exact (Blk.new w t #[u, v]).cell 0
  | 1, hj => simp at hj; subst hj; exact (Blk.new w t #[u, v]).cell 1
theorem int_two (k : IntKind) (y z : Int) : ∀ u ∈ [Value.int k y, Value.int k z], u.oneCell' = true := by
  intro u hu; simp at hu; rcases hu with rfl | rfl <;> rfl
/-- bytes behind bytes that a call owns -/
def BufR (base : Nat) (b : List UInt8) (v : Value) (wr : World) : Prop := wr.ownsRow base 5 1 v b.length (bcs b)
theorem BufR.mk {base : Nat} {b c : List UInt8} {v : Value} {wr : World} {k : Nat} (hk : k = b.length + c.length) (h : wr.ownsRow base 5 1 v k (bcs b ++ bcs c)) : BufR base (b ++ c) v wr := by
  subst hk
  unfold BufR
  rw [List.length_append, bcs_app]
  exact h
theorem val_wf {r : Int} (h : valI r = true) : (Lit.int .i32 r).wf = true := by
  have := valI_t h
  simp only [Lit.wf, Bool.and_eq_true, decide_eq_true_eq]
  show -2147483648 ≤ r ∧ r ≤ 2147483647
  omega

set_option maxRecDepth 100000 in
set_option maxHeartbeats 4000000 in
theorem putp_ok (R D : Int) (A : Option Addr) (n cap : Nat) (ls : List (List Int)) (w : World) (hz : RowsIn w A n ls) (hs : Short ls) (h : okPast R D ls = true) :
    Calls Tryd.prog 8 #[.agg #[.int .i64 R, .int .i64 D, .slice A n cap]] w fun e w' => e = .returned (.tuple #[.string (mkS (putL R D ls)), .int .i64 0]) ∧ Nx w w' := by
  obtain ⟨i0, hi, hz0, hzs, hz2⟩ := info_parts info8
  have I0 := Lib.hid (And.intro hi (And.intro hz0 (And.intro hzs hz2)))
  clear hi hz0 hzs hz2
  have n1 := (Nx.refl w).alloc (.cells #[.int .i64 R, .int .i64 D, .slice A n cap] 24)
  have C1 := Lib.hid (isp_any R D A n cap ls _ (hz.keep n1) hs)
  rw [h] at C1
  have hp := okPast_t h
  have hh := okHead_t hp.1
  have HP := Lib.hid hp
  have H := Lib.hid h
  have HL := Lib.hid hz.1
  have hn16 : n ≤ 16 := by have := hp.2.1; rw [hz.1] at this; omega
  have hB := Blk.new w 24 #[.int .i64 R, .int .i64 D, .slice A n cap]
  clear h hp
  generalize hS : mkS (putL R D ls) = S
  have HS := Lib.hid hS
  clear hS
  go_enter Tryd.func8, Tryd.ntmps8
  go_wp2_with fail
  refine C1.out.mono ?_
  rintro e w1 ⟨rfl, x1⟩
  clear C1
  obtain ⟨b0, b1, b2⟩ := blk3 (hB.nx x1)
  have n2 := n1.trans x1
  have hlt1 : w.heap.size < w1.heap.size := (hB.nx x1).lt
  have o2 := own_whole w1 [.int .u8 80, .int .u8 (48 + R), .int .u8 (48 + D)] w.heap.size 5 3 rfl (Nat.le_of_lt hlt1) (by unfold maxLen; omega)
  rw [← hd_bcs HP.out.1] at o2
  have O2 : Hid (BufR w.heap.size (hd3 R D) (.slice (some ⟨w1.heap.size, 0, none⟩) 3 3) (w1.alloc (.cells #[.int .u8 80, .int .u8 (48 + R), .int .u8 (48 + D)] 5))) := by
    have := hd_bcs HP.out.1
    rw [this] at o2
    refine Lib.hid ?_
    unfold BufR
    rw [this]
    exact o2
  clear o2 hB
  go_wp2_with fail
  go_loopw [4, 6, 8, 24] (fun v _ _ i wr => ∃ (k : Nat), k ≤ n ∧ i = .int .i64 k ∧ BufR w.heap.size (hd3 R D ++ lns (ls.take k)) v wr ∧ Nx w wr) (fun _ _ _ i _ => n - (intOf i).toNat)
  case atStart =>
    refine ⟨0, Nat.zero_le _, rfl, ?_, n2.alloc _⟩
    rw [List.take_zero, lns_nil, List.append_nil]
    exact O2.out
  case round =>
    clear O2 b0 b1 b2 x1 hlt1 n1 n2
    obtain ⟨k, hk, rfl, hO, hN⟩ := hrel
    by_cases hlt : k < n
    · obtain ⟨b, off, B, m, c, rfl, lb, g0, hI, hmc, hcm⟩ := hz.at_ hlt
      have c0 := (hN.cell (p := ⟨b, off + k, none⟩) lb).trans g0
      have q1 : decide ((k : Int) < (n : Int)) = true := decide_eq_true (by omega)
      have q1' : decide (k < n) = true := decide_eq_true hlt
      have hi0 : (0 : Int) ≤ (k : Int) := by omega
      have hi1 : (k : Int) < (n : Int) := by omega
      have hkl : k < ls.length := by rw [HL.out]; exact hlt
      have HT := Lib.hid (take_nthL (ls := ls) (i := k) hkl)
      have hok := okLine_t (HP.out.2.2 _ (nthL_mem hkl))
      have hpl : (hd3 R D ++ lns (ls.take k)).length ≤ 12819 := by
        have h1 := lns_length (ls.take k) 200 fun l hl => (okLine_t (HP.out.2.2 l (List.mem_of_mem_take hl))).2.1
        have h2 : (ls.take k).length ≤ 16 := by rw [List.length_take]; omega
        rw [List.length_append]
        have h3 : (hd3 R D).length = 3 := rfl
        have : (4 * 200 + 1) * (ls.take k).length ≤ (4 * 200 + 1) * 16 := Nat.mul_le_mul_left _ h2
        omega
      have HE : Hid (hd3 R D ++ lns (ls.take (k + 1)) = (hd3 R D ++ lns (ls.take k)) ++ escs (nthL ls k) ++ [10]) := Lib.hid (by rw [HT.out, lns_snoc]; simp)
      clear HT g0 hkl
      generalize nthL ls k = l at *
      generalize hd3 R D ++ lns (ls.take k) = P at *
      have hlm := hI.1
      have HV := Lib.hid hok.2.2
      have hm2 : m ≤ 200 := by rw [← hlm]; exact hok.2.1
      have HLM := Lib.hid hlm
      have HO := Lib.hid hO
      clear hok hlm hO
      go_wp2_with fail
      go_loopw [4, 8, 30] (fun v _ i wq => ∃ (j : Nat), j ≤ m ∧ i = .int .i64 j ∧ BufR w.heap.size (P ++ escs (l.take j)) v wq ∧ Nx w wq) (fun _ _ i _ => m - (intOf i).toNat)
      case atStart => exact ⟨0, Nat.zero_le _, rfl, by rw [List.take_zero, escs_nil, List.append_nil]; exact HO.out, hN⟩
      case round =>
        clear HO c0
        obtain ⟨j, hj, rfl, hO, hM⟩ := hrel
        have hsz := hM.size
        have hpj : (P ++ escs (l.take j)).length ≤ 13619 := by
          have h1 := (escs_length (l.take j)).1
          rw [List.length_take] at h1
          rw [List.length_append]
          omega
        by_cases hjt : j < m
        · obtain ⟨bb, of2, rfl, lb2, k0⟩ := hI.at_ hjt
          have c1 := (hM.cell (p := ⟨bb, of2 + j, none⟩) lb2).trans k0
          have p1 : decide ((j : Int) < (m : Int)) = true := decide_eq_true (by omega)
          have p1' : decide (j < m) = true := decide_eq_true hjt
          have hj0 : (0 : Int) ≤ (j : Int) := by omega
          have hj1 : (j : Int) < (m : Int) := by omega
          have hjl : j < l.length := by rw [HLM.out]; exact hjt
          have hv := HV.out _ (nth_mem hjl)
          have HS2 : Hid (P ++ escs (l.take (j + 1)) = (P ++ escs (l.take j)) ++ esc (nth l j)) := Lib.hid (by rw [take_nth hjl, escs_snoc, List.append_assoc])
          clear k0 hjl
          generalize nth l j = r at *
          generalize P ++ escs (l.take j) = Pj at *
          have hO2 := hO
          unfold BufR at hO2
          have HLT := Lib.hid hO2.lt
          by_cases h10 : r = 10
          · subst h10
            have HX : Hid (esc 10 = [92, 110]) := Lib.hid rfl
            clear hv
            go_wp2_with (at_builtin; refine wpList_append_lies _ rfl (.tmp 42) (.tmp 43) _ rfl w.heap.size 5 i0 _ 1 1 Tryd.underlying40 I0.out.1 I0.out.2.1 I0.out.2.2.1 I0.out.2.2.2 rfl (by omega) u4 Pj.length (bcs Pj) rfl (hO2.alloc _) ⟨wr.heap.size, 0, none⟩ 2 2 [.int .u8 92, .int .u8 110] rfl rfl (two_new _ _ _ _) (int_two _ _ _) (by omega) (by unfold maxLen; omega) (by omega) ?_ (wr.heap.size + 1) (by simp) ?_)
            · simp; omega
            · intro g4 c4 w4 r1 r2 r3 r4
              have hR : BufR w.heap.size (P ++ escs (l.take (j + 1))) (.slice (some ⟨g4, 0, none⟩) (Pj.length + 2) c4) w4 := by
                rw [HS2.out, HX.out]
                exact BufR.mk rfl r1
              have hM4 := (hM.alloc (.cells #[.int .u8 92, .int .u8 110] 5)).grown r2 (fun k hk => (HLT.out k hk).1)
              have HR := Lib.hid hR
              clear hR r1 r2 r3 r4 hO hO2 HLT
              go_wp2_with fail
              go_roundw
              case rel => exact ⟨j + 1, by omega, by go_num, HR.out, hM4⟩
              case measure => simp [intOf]; omega
          · by_cases h92 : r = 92
            · subst h92
              have HX : Hid (esc 92 = [92, 92]) := Lib.hid rfl
              clear hv h10
              go_wp2_with (at_builtin; refine wpList_append_lies _ rfl (.tmp 47) (.tmp 48) _ rfl w.heap.size 5 i0 _ 1 1 Tryd.underlying40 I0.out.1 I0.out.2.1 I0.out.2.2.1 I0.out.2.2.2 rfl (by omega) u4 Pj.length (bcs Pj) rfl (hO2.alloc _) ⟨wr.heap.size, 0, none⟩ 2 2 [.int .u8 92, .int .u8 92] rfl rfl (two_new _ _ _ _) (int_two _ _ _) (by omega) (by unfold maxLen; omega) (by omega) ?_ (wr.heap.size + 1) (by simp) ?_)
              · simp; omega
              · intro g4 c4 w4 r1 r2 r3 r4
                have hR : BufR w.heap.size (P ++ escs (l.take (j + 1))) (.slice (some ⟨g4, 0, none⟩) (Pj.length + 2) c4) w4 := by
                  rw [HS2.out, HX.out]
                  exact BufR.mk rfl r1
                have hM4 := (hM.alloc (.cells #[.int .u8 92, .int .u8 92] 5)).grown r2 (fun k hk => (HLT.out k hk).1)
                have HR := Lib.hid hR
                clear hR r1 r2 r3 r4 hO hO2 HLT
                go_wp2_with fail
                go_roundw
                case rel => exact ⟨j + 1, by omega, by go_num, HR.out, hM4⟩
                case measure => simp [intOf]; omega
            · have HX : Hid (esc r = enc (fixN r)) := Lib.hid (by unfold esc; rw [if_neg h10, if_neg h92])
              have t1 : (r == 10) = false := by simpa using h10
              have t2 : (r == 92) = false := by simpa using h92
              have hI1 : IntsIn .i32 (wr.alloc (.cells #[.int .i32 r] 21)) (some ⟨wr.heap.size, 0, none⟩) 1 [r] :=
                ⟨rfl, fun _ => ⟨wr.heap.size, 0, rfl, (Blk.new wr 21 #[.int .i32 r]).lt, fun i hi => by
                  obtain rfl : i = 0 := by omega
                  exact (Blk.new wr 21 #[.int .i32 r]).cell 0⟩⟩
              have CE := Lib.hid (encode_any (some ⟨wr.heap.size, 0, none⟩) 1 1 [r] _ hI1 (by intro z hz; simp at hz; subst hz; exact val_wf hv) (by omega))
              have HG : Hid (L (mkS (encs [r])) = enc (fixN r)) := Lib.hid (by rw [L_mkS]; simp [encs])
              have hgs : (mkS (encs [r])).size ≤ 4 := by
                rw [← L_length, HG.out, enc_length]; exact (encLen_pos _).2
              clear hv h10 h92 hI1
              generalize mkS (encs [r]) = T at *
              go_wp2_with fail
              refine CE.out.mono ?_
              rintro e w3 ⟨rfl, x3⟩
              clear CE
              have hO3 := own_nx (hO2.alloc (.cells #[.int .i32 r] 21)) x3
              have hM3 := (hM.alloc (.cells #[.int .i32 r] 21)).trans x3
              have hs3 := hM3.size
              go_wp2_with (at_builtin; refine Lib.wpList_append_own_string _ rfl (.tmp 35) (.tmp 38) _ _ rfl w.heap.size 5 i0 Tryd.underlying40 Tryd.underlying9 I0.out.1 I0.out.2.1 I0.out.2.2.1 I0.out.2.2.2 u4 Pj.length (bcs Pj) rfl hO3 T rfl (by unfold maxLen; omega) (by omega) (by omega) ?_)
              intro v4 w4 r1 r2 r3
              have hR : BufR w.heap.size (P ++ escs (l.take (j + 1))) v4 w4 := by
                rw [HS2.out, HX.out, ← HG.out]
                exact BufR.mk (by rw [L_length]) r1
              have hM4 := hM3.grown r2 (fun k hk => (HLT.out k hk).1)
              have HR := Lib.hid hR
              clear hR r1 r2 r3 hO hO2 hO3 HLT HX HG
              go_wp2_with fail
              go_roundw
              case rel => exact ⟨j + 1, by omega, by go_num, HR.out, hM4⟩
              case measure => simp [intOf]; omega
        · have p1 : decide ((j : Int) < (m : Int)) = false := decide_eq_false (by omega)
          have p1' : decide (j < m) = false := decide_eq_false hjt
          have hfin : P ++ escs (l.take j) = P ++ escs l := by rw [List.take_of_length_le (by rw [HLM.out]; omega)]
          rw [hfin] at hO hpj
          clear hfin
          have hE := HE.out
          generalize P ++ escs l = Pj at *
          have HE' := Lib.hid hE
          clear hE HE
          have hO2 := hO
          unfold BufR at hO2
          have HLT := Lib.hid hO2.lt
          go_wp2_with (at_builtin; refine wpList_append_lies _ rfl (.tmp 51) (.tmp 52) _ rfl w.heap.size 5 i0 _ 1 1 Tryd.underlying40 I0.out.1 I0.out.2.1 I0.out.2.2.1 I0.out.2.2.2 rfl (by omega) u4 Pj.length (bcs Pj) rfl (hO2.alloc _) ⟨wr.heap.size, 0, none⟩ 1 1 [.int .u8 10] rfl rfl (one_new _ _ _) (int_one _ _) (by omega) (by unfold maxLen; omega) (by omega) ?_ (wr.heap.size + 1) (by simp) ?_)
          · simp; omega
          · intro g4 c4 w4 r1 r2 r3 r4
            have hR : BufR w.heap.size (hd3 R D ++ lns (ls.take (k + 1))) (.slice (some ⟨g4, 0, none⟩) (Pj.length + 1) c4) w4 := by
              rw [HE'.out]
              exact BufR.mk rfl r1
            have hM4 := (hM.alloc (.cells #[.int .u8 10] 5)).grown r2 (fun k hk => (HLT.out k hk).1)
            have HR := Lib.hid hR
            clear hR r1 r2 r3 r4 hO hO2 HLT
            go_wp2_with fail
            go_roundw
            case rel => exact ⟨k + 1, by omega, by go_num, HR.out, hM4⟩
            case measure => simp [intOf]; omega
    · have q1 : decide ((k : Int) < (n : Int)) = false := decide_eq_false (by omega)
      have q1' : decide (k < n) = false := decide_eq_false hlt
      unfold BufR at hO
      obtain ⟨A', cap', rfl⟩ := own_form hO
      have hcv := conv_own hO
      have hfin : mkS (hd3 R D ++ lns (ls.take k)) = S := by rw [← HS.out, List.take_of_length_le (by rw [HL.out]; omega)]; rfl
      rw [hfin] at hcv
      clear hfin
      generalize (hd3 R D ++ lns (ls.take k)).length = mm at *
      clear hO
      go_wp2_with fail
      go_ret2
      exact ⟨rfl, hN⟩
end Go.Proofs.YtmfjndoljdpliaaDoor.walk
