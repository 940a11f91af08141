/-
  Keys: what is settled, by the reference. No condition but a bound on the bytes' number.
-/
import Derived.Test.YtmfccecjphfkiaaDoorWalk16f
namespace Go.Proofs.YtmfccecjphfkiaaDoor.walk
open Go.RowKit Go.Proofs.YtmfccecjphfkiaaDoor.kit Go.Proofs.YtmfccecjphfkiaaDoor.plain
set_option linter.unusedVariables false

set_option maxRecDepth 100000 in
set_option maxHeartbeats 4000000 in
theorem rsettle_any (s : ByteArray) (w : World) (hs : s.size ≤ 1000000) : Calls Tryd.prog 16 #[.string s] w (KP (settleK (L s)) w) := by
  obtain ⟨i0, hi, hz0, hzs, hz2⟩ := info_parts infoK
  have I0 := Lib.hid (And.intro hi (And.intro hz0 (And.intro hzs hz2)))
  clear hi hz0 hzs hz2
  rcases Nat.lt_or_ge s.size 1 with hs1 | hs1
  · obtain rfl := size_nil (show s.size = 0 by omega)
    have c0 : bt (L ⟨#[]⟩) 0 ≠ 27 := by decide
    rw [settle_no c0]
    obtain ⟨pre, hpre⟩ : ∃ pre : List KEY, [] = pre := ⟨_, rfl⟩
    rw [hpre]
    have hpl : pre.length ≤ 1 := by rw [← hpre]; simp
    have HP := Lib.hid hpre
    clear hpre
    have hdl := decI_length (L ⟨#[]⟩)
    rw [L_length] at hdl
    have CD := Lib.hid (fun W => rdecode_any ⟨#[]⟩ W (by decide))
    generalize decI (L ⟨#[]⟩) = zs at *
    clear c0
    go_enter Tryd.func16, Tryd.ntmps16
    go_wp2_with fail
    refine (CD.out _).mono ?_
    rintro e w2 ⟨A, n, cap, rfl, o2, x2⟩
    clear CD
    have n0 := (Nx.refl w).alloc (.cells #[] 23)
    have hn : zs.length = n := by have := o2.1; simpa using this
    have hn1 : n ≤ 1000000 := by rw [show (⟨#[]⟩ : ByteArray).size = 0 from rfl] at hdl; omega
    have hS : SR w pre zs (.slice A n cap) n 0 (.slice (some ⟨w.heap.size, 0, none⟩) 0 0) w2 := by
      rw [← HP.out]
      exact ⟨hn, Nat.zero_le _, own_more o2 n0.size, own_nx (World.ownsRow_made w #[] 0 (Nat.le_refl _) (Nat.zero_le _) (by simp)) x2, n0.trans x2⟩
    have HS := Lib.hid hS
    clear hn hS o2 x2
    go_wp2_with fail
    go_loopw [3, 5] (fun v i wr => ∃ k : Nat, i = .int .i64 k ∧ SR w pre zs (.slice A n cap) n k v wr) (fun _ i _ => n - (intOf i).toNat)
    case atStart => exact ⟨0, rfl, HS.out⟩
    case round =>
      clear HS
      obtain ⟨k, rfl, hS⟩ := hrel
      have HS := Lib.hid hS
      obtain ⟨h1, h2, h3, h4, h5⟩ := hS
      have hsz := h5.size
      by_cases hlt : k < n
      · obtain ⟨A', cap', hv, hI, _, _⟩ := own_ints h3
        injection hv with hv _ hc
        subst hv hc
        obtain ⟨b, off, rfl, lb, c0⟩ := hI.at_ hlt
        have q1 : decide ((k : Int) < (n : Int)) = true := decide_eq_true (by omega)
        have q1' : decide (k < n) = true := decide_eq_true hlt
        have hi0 : (0 : Int) ≤ (k : Int) := by omega
        have hi1 : (k : Int) < (n : Int) := by omega
        obtain ⟨z, hz⟩ : ∃ z, nth zs k = z := ⟨_, rfl⟩
        rw [hz] at c0
        have HZ := Lib.hid hz
        clear hz h1 h3 hI
        go_wp2_with (at_builtin; refine wpList_append_lies _ rfl (.tmp 28) (.tmp 34) _ rfl w.heap.size 23 i0 _ 2 16 Tryd.underlying31 I0.out.1 I0.out.2.1 I0.out.2.2.1 I0.out.2.2.2 rfl (by omega) u3 (pre.length + k) (flatK (pre ++ runes (zs.take k))) rfl (h4.alloc _) ⟨wr.heap.size, 0, none⟩ 1 1 [_, _] rfl rfl (key_new _ _ _ _) key_one (by omega) (by unfold maxLen; omega) (by omega) ?_ (wr.heap.size + 1) (by simp) ?_)
        · first | omega | (rw [World.size_alloc]; omega)
        · intro g4 c4 w4 r1 r2 r3 r4
          rw [← HZ.out] at r1
          have HS5 := Lib.hid (SR.step HS.out hlt r1 r2)
          clear r1 r2 r3 h4 h5 HS
          go_wp2_with fail
          go_roundw
          case rel => exact ⟨k + 1, by go_num, HS5.out⟩
          case measure => simp [intOf]; omega
      · obtain rfl : k = n := by omega
        have q1 : decide ((k : Int) < (k : Int)) = false := decide_eq_false (by omega)
        obtain ⟨A4, cap4, rfl⟩ := own_form h4
        clear h3 h4
        go_wp2_with fail
        go_ret
        exact SR.out HS.out rfl
  obtain ⟨p1, p2⟩ := str_ne hs1
  obtain ⟨x, hx⟩ : ∃ x, s.get! 0 = x := ⟨_, rfl⟩
  have sx : s[0]'(Nat.lt_of_lt_of_le Nat.zero_lt_one hs1) = x := by rw [← hx]; exact (get!_lt s 0 (by omega)).symm
  have hbx : bt (L s) 0 = x.toNat := by rw [bt_L, hx]
  have z0 : (0 : Int) < (s.size : Int) := by omega
  by_cases c0 : bt (L s) 0 ≠ 27
  · rw [settle_no c0]
    have y1 : ((x.toNat : Int) == 27) = false := beq_eq_false_iff_ne.2 (by omega)
    clear hx hbx
    obtain ⟨pre, hpre⟩ : ∃ pre : List KEY, [] = pre := ⟨_, rfl⟩
    rw [hpre]
    have hpl : pre.length ≤ 1 := by rw [← hpre]; simp
    have HP := Lib.hid hpre
    clear hpre
    have hdl := decI_length (L s)
    rw [L_length] at hdl
    have CD := Lib.hid (fun W => rdecode_any s W (by omega))
    generalize decI (L s) = zs at *
    clear c0
    go_enter Tryd.func16, Tryd.ntmps16
    go_wp2_with fail
    refine (CD.out _).mono ?_
    rintro e w2 ⟨A, n, cap, rfl, o2, x2⟩
    clear CD
    have n0 := (Nx.refl w).alloc (.cells #[] 23)
    have hn : zs.length = n := by have := o2.1; simpa using this
    have hn1 : n ≤ 1000000 := by omega
    have hS : SR w pre zs (.slice A n cap) n 0 (.slice (some ⟨w.heap.size, 0, none⟩) 0 0) w2 := by
      rw [← HP.out]
      exact ⟨hn, Nat.zero_le _, own_more o2 n0.size, own_nx (World.ownsRow_made w #[] 0 (Nat.le_refl _) (Nat.zero_le _) (by simp)) x2, n0.trans x2⟩
    have HS := Lib.hid hS
    clear hn hS o2 x2
    go_wp2_with fail
    go_loopw [3, 5] (fun v i wr => ∃ k : Nat, i = .int .i64 k ∧ SR w pre zs (.slice A n cap) n k v wr) (fun _ i _ => n - (intOf i).toNat)
    case atStart => exact ⟨0, rfl, HS.out⟩
    case round =>
      clear HS
      obtain ⟨k, rfl, hS⟩ := hrel
      have HS := Lib.hid hS
      obtain ⟨h1, h2, h3, h4, h5⟩ := hS
      have hsz := h5.size
      by_cases hlt : k < n
      · obtain ⟨A', cap', hv, hI, _, _⟩ := own_ints h3
        injection hv with hv _ hc
        subst hv hc
        obtain ⟨b, off, rfl, lb, c0⟩ := hI.at_ hlt
        have q1 : decide ((k : Int) < (n : Int)) = true := decide_eq_true (by omega)
        have q1' : decide (k < n) = true := decide_eq_true hlt
        have hi0 : (0 : Int) ≤ (k : Int) := by omega
        have hi1 : (k : Int) < (n : Int) := by omega
        obtain ⟨z, hz⟩ : ∃ z, nth zs k = z := ⟨_, rfl⟩
        rw [hz] at c0
        have HZ := Lib.hid hz
        clear hz h1 h3 hI
        go_wp2_with (at_builtin; refine wpList_append_lies _ rfl (.tmp 28) (.tmp 34) _ rfl w.heap.size 23 i0 _ 2 16 Tryd.underlying31 I0.out.1 I0.out.2.1 I0.out.2.2.1 I0.out.2.2.2 rfl (by omega) u3 (pre.length + k) (flatK (pre ++ runes (zs.take k))) rfl (h4.alloc _) ⟨wr.heap.size, 0, none⟩ 1 1 [_, _] rfl rfl (key_new _ _ _ _) key_one (by omega) (by unfold maxLen; omega) (by omega) ?_ (wr.heap.size + 1) (by simp) ?_)
        · first | omega | (rw [World.size_alloc]; omega)
        · intro g4 c4 w4 r1 r2 r3 r4
          rw [← HZ.out] at r1
          have HS5 := Lib.hid (SR.step HS.out hlt r1 r2)
          clear r1 r2 r3 h4 h5 HS
          go_wp2_with fail
          go_roundw
          case rel => exact ⟨k + 1, by go_num, HS5.out⟩
          case measure => simp [intOf]; omega
      · obtain rfl : k = n := by omega
        have q1 : decide ((k : Int) < (k : Int)) = false := decide_eq_false (by omega)
        obtain ⟨A4, cap4, rfl⟩ := own_form h4
        clear h3 h4
        go_wp2_with fail
        go_ret
        exact SR.out HS.out rfl
  · have c0' : bt (L s) 0 = 27 := by omega
    rw [settle_yes c0']
    have y1 : ((x.toNat : Int) == 27) = true := by rw [beq_iff_eq]; omega
    clear hx hbx
    obtain ⟨pre, hpre⟩ : ∃ pre : List KEY, [(10, 0)] = pre := ⟨_, rfl⟩
    rw [hpre]
    have hpl : pre.length ≤ 1 := by rw [← hpre]; simp
    have HP := Lib.hid hpre
    clear hpre
    obtain ⟨hr1, hr2⟩ := size_rest s 1
    have i1 : (1 : Int) ≤ (s.size : Int) := by omega
    have hdl := decI_length (L (s.extract 1 s.size))
    rw [L_length] at hdl
    have CD := Lib.hid (fun W => rdecode_any (s.extract 1 s.size) W (by omega))
    rw [hr2] at CD hdl
    generalize decI ((L s).drop 1) = zs at *
    have hzl : zs.length ≤ 1000000 := by omega
    clear c0 c0' hr1 hr2 hdl
    have n0 := (Nx.refl w).alloc (.cells #[] 23)
    have o0 : (w.alloc (.cells #[] 23)).ownsRow w.heap.size 23 2 (.slice (some ⟨w.heap.size, 0, none⟩) 0 0) 0 [] := World.ownsRow_made w #[] 0 (Nat.le_refl _) (Nat.zero_le _) (by simp)
    have O0 := Lib.hid o0
    clear o0
    go_enter Tryd.func16, Tryd.ntmps16
    go_wp2_with (at_builtin; refine wpList_append_lies _ rfl (.tmp 14) (.tmp 16) _ rfl w.heap.size 23 i0 _ 2 16 Tryd.underlying31 I0.out.1 I0.out.2.1 I0.out.2.2.1 I0.out.2.2.2 rfl (by omega) (.slice (some ⟨w.heap.size, 0, none⟩) 0 0) 0 [] rfl (O0.out.alloc _) ⟨w.heap.size + 1, 0, none⟩ 1 1 [_, _] rfl rfl (key_new2 _ _ _ _ _) key_one (by omega) (by unfold maxLen; omega) (by omega) ?_ (w.heap.size + 1 + 1) (by simp) ?_)
    · first | omega | (simp; omega)
    intro g1 c1 w1 r1 r2 r3 r4
    have nx1 : Nx w w1 := (n0.alloc _).grown r2 (fun k hk => Nat.le_of_eq (Option.some.inj hk))
    have R1 := Lib.hid r1
    clear r1 r2 r3
    go_wp2_with fail
    refine (CD.out _).mono ?_
    rintro e w2 ⟨A, n, cap, rfl, o2, x2⟩
    clear CD
    have hn : zs.length = n := by have := o2.1; simpa using this
    have hn1 : n ≤ 1000000 := by omega
    have hS : SR w pre zs (.slice A n cap) n 0 (.slice (some ⟨g1, 0, none⟩) 1 c1) w2 := by rw [← HP.out]; exact ⟨hn, Nat.zero_le _, own_more o2 nx1.size, own_nx R1.out x2, nx1.trans x2⟩
    have HS := Lib.hid hS
    clear hn hS o2 x2 nx1 R1 hzl
    go_wp2_with fail
    go_loopw [3, 5] (fun v i wr => ∃ k : Nat, i = .int .i64 k ∧ SR w pre zs (.slice A n cap) n k v wr) (fun _ i _ => n - (intOf i).toNat)
    case atStart => exact ⟨0, rfl, HS.out⟩
    case round =>
      clear HS
      obtain ⟨k, rfl, hS⟩ := hrel
      have HS := Lib.hid hS
      obtain ⟨h1, h2, h3, h4, h5⟩ := hS
      have hsz := h5.size
      by_cases hlt : k < n
      · obtain ⟨A', cap', hv, hI, _, _⟩ := own_ints h3
        injection hv with hv _ hc
        subst hv hc
        obtain ⟨b, off, rfl, lb, c0⟩ := hI.at_ hlt
        have q1 : decide ((k : Int) < (n : Int)) = true := decide_eq_true (by omega)
        have q1' : decide (k < n) = true := decide_eq_true hlt
        have hi0 : (0 : Int) ≤ (k : Int) := by omega
        have hi1 : (k : Int) < (n : Int) := by omega
        obtain ⟨z, hz⟩ : ∃ z, nth zs k = z := ⟨_, rfl⟩
        rw [hz] at c0
        have HZ := Lib.hid hz
        clear hz h1 h3 hI
        go_wp2_with (at_builtin; refine wpList_append_lies _ rfl (.tmp 28) (.tmp 34) _ rfl w.heap.size 23 i0 _ 2 16 Tryd.underlying31 I0.out.1 I0.out.2.1 I0.out.2.2.1 I0.out.2.2.2 rfl (by omega) u3 (pre.length + k) (flatK (pre ++ runes (zs.take k))) rfl (h4.alloc _) ⟨wr.heap.size, 0, none⟩ 1 1 [_, _] rfl rfl (key_new _ _ _ _) key_one (by omega) (by unfold maxLen; omega) (by omega) ?_ (wr.heap.size + 1) (by simp) ?_)
        · first | omega | (rw [World.size_alloc]; omega)
        · intro g4 c4 w4 r1 r2 r3 r4
          rw [← HZ.out] at r1
          have HS5 := Lib.hid (SR.step HS.out hlt r1 r2)
          clear r1 r2 r3 h4 h5 HS
          go_wp2_with fail
          go_roundw
          case rel => exact ⟨k + 1, by go_num, HS5.out⟩
          case measure => simp [intOf]; omega
      · obtain rfl : k = n := by omega
        have q1 : decide ((k : Int) < (k : Int)) = false := decide_eq_false (by omega)
        obtain ⟨A4, cap4, rfl⟩ := own_form h4
        clear h3 h4
        go_wp2_with fail
        go_ret
        exact SR.out HS.out rfl
end Go.Proofs.YtmfccecjphfkiaaDoor.walk
