/-
  Words: the walk of what a passer hands back: towards the end or the beginning, as long as what is told holds. No condition.
-/
import Derived.Test.YtmmgbmmphmldeaaWalk11a
namespace Go.Proofs.Ytmmgbmmphmldeaa.walk
open Go.RowKit Go.Proofs.Ytmmgbmmphmldeaa.plain
open Go.Proofs.Ytmmgbmmphmldeaa.kit hiding nth
set_option linter.unusedVariables false

set_option maxHeartbeats 400000 in
theorem pass_k_next (w0 w : World) (A : Option Addr) (len cap : Nat) (zs : List Int) (bl ba bb a : Nat) (bk : Nat) (kk : Int) (hK : Blk w bk 3 #[.int .i64 kk]) (n3 : bk ≠ ba) (hz : IntsIn .i32 w0 A len zs) (h0 : Nx w0 w) (hlb : w0.heap.size ≤ ba) (hL : Blk w bl 25 #[.slice A len cap]) (hA : Blk w ba 3 #[.int .i64 a]) (hB : Blk w bb 3 #[.int .i64 1])
    (ha : a ≤ len) (hlen : len ≤ 1000) (n1 : bl ≠ ba) (n2 : bb ≠ ba) :
    Calls Try.prog 33 #[.func (.func 27) #[] #[.pointer (some ⟨bk, 0, none⟩)], .pointer (some ⟨ba, 0, none⟩), .pointer (some ⟨bb, 0, none⟩), .pointer (some ⟨bl, 0, none⟩)] w
      fun e w' => e = .returned (.int .i64 (fwd (isK kk) zs a : Nat)) ∧ Blk w' ba 3 #[.int .i64 (fwd (isK kk) zs a : Nat)] ∧ w.grownBy w' (some ba) := by
  go_enter Try.func33, Try.ntmps33
  go_wp2_with fail
  go_loopg [6] (len - a) (fun m u6 wr => ∃ k : Nat, k ≤ len ∧ m = len - k ∧ fwd (isK kk) zs k = fwd (isK kk) zs a ∧ Blk wr ba 3 #[.int .i64 k] ∧ w.grownBy wr (some ba))
  case atStart => exact ⟨a, ha, rfl, rfl, hA, World.grownBy.refl _ _⟩
  case round =>
    clear hA
    obtain ⟨k, hk, rfl, hE, hA, hg⟩ := hrel
    have HE := Lib.hid hE
    clear hE
    have cL : wr.cell? ⟨bl, 0, none⟩ = some (.slice A len cap) := (hL.grown hg (by simpa using n1)).cell 0
    have cB : wr.cell? ⟨bb, 0, none⟩ = some (.int .i64 1) := (hB.grown hg (by simpa using n2)).cell 0
    have cA : wr.cell? ⟨ba, 0, none⟩ = some (.int .i64 k) := hA.cell 0
    have fA := hA.frozen 0
    have ck : wr.cell? ⟨bk, 0, none⟩ = some (.int .i64 kk) := (hK.grown hg (by simpa using n3)).cell 0
    by_cases hlt : k < len
    · obtain ⟨b, off, rfl, hbl, hc⟩ := cell_nth hz hlt
      have hcell : wr.cell? ⟨b, off + k, none⟩ = some (.int .i32 (nth zs k)) := ((h0.grown hg (by intro x hx; injection hx with hx; omega)).cell hbl).trans hc
      have q1 : decide ((k : Int) < 0) = false := by simp
      have q2 : decide ((len : Int) ≤ (k : Int)) = false := by simp; omega
      obtain ⟨v, hv⟩ : ∃ v, (isK kk) (nth zs k) = v := ⟨_, rfl⟩
      have H := Lib.hid hv
      clear hc
      cases v
      · have E := Lib.hid (show fwd (isK kk) zs k = k from fwd_stop hv)
        clear hv
        go_wp2_with (go_at_call 27; refine (next1_any _ kk bk _ ck).mono ?_; rw [H.out]; rintro e w1 ⟨rfl, nn, rfl⟩)
        go_ret
        exact ⟨ret_int (by rw [← HE.out, E.out]), by rw [← HE.out, E.out]; exact hA.drewN nn, grown_drewN hg nn⟩
      · have E := Lib.hid (show fwd (isK kk) zs (k + 1) = fwd (isK kk) zs k from fwd_step (by rw [hz.1]; exact hlt) hv)
        clear hv
        go_wp2_with (go_at_call 27; refine (next1_any _ kk bk _ ck).mono ?_; rw [H.out]; rintro e w1 ⟨rfl, nn, rfl⟩)
        go_roundg (len - (k + 1))
        case measure => omega
        case rel => exact ⟨k + 1, by omega, rfl, by rw [E.out]; exact HE.out, (hA.drewN nn).set_ 0 _, grown_set (grown_drewN hg nn) 0 _⟩
    · obtain rfl : k = len := by omega
      have E := Lib.hid (show fwd (isK kk) zs k = k from fwd_end (by rw [hz.1]; omega))
      have q1 : decide ((k : Int) < 0) = false := by simp
      go_wp2_with (go_at_call 27; refine (next1_any _ kk bk _ ck).mono ?_; rw [H.out]; rintro e w1 ⟨rfl, nn, rfl⟩)
      go_ret
      exact ⟨ret_int (by rw [← HE.out, E.out]), by rw [← HE.out, E.out]; exact hA, hg⟩


set_option maxHeartbeats 400000 in
theorem pass_k_prev (w0 w : World) (A : Option Addr) (len cap : Nat) (zs : List Int) (bl ba bb a : Nat) (bk : Nat) (kk : Int) (hK : Blk w bk 3 #[.int .i64 kk]) (n3 : bk ≠ ba) (hz : IntsIn .i32 w0 A len zs) (h0 : Nx w0 w) (hlb : w0.heap.size ≤ ba) (hL : Blk w bl 25 #[.slice A len cap]) (hA : Blk w ba 3 #[.int .i64 a]) (hB : Blk w bb 3 #[.int .i64 (-1)])
    (ha : a ≤ len) (hlen : len ≤ 1000) (n1 : bl ≠ ba) (n2 : bb ≠ ba) :
    Calls Try.prog 33 #[.func (.func 30) #[] #[.pointer (some ⟨bk, 0, none⟩)], .pointer (some ⟨ba, 0, none⟩), .pointer (some ⟨bb, 0, none⟩), .pointer (some ⟨bl, 0, none⟩)] w
      fun e w' => e = .returned (.int .i64 (bwd (isK kk) zs a : Nat)) ∧ Blk w' ba 3 #[.int .i64 (bwd (isK kk) zs a : Nat)] ∧ w.grownBy w' (some ba) := by
  go_enter Try.func33, Try.ntmps33
  go_wp2_with fail
  go_loopg [6] a (fun m u6 wr => ∃ k : Nat, k ≤ len ∧ k = m ∧ bwd (isK kk) zs k = bwd (isK kk) zs a ∧ Blk wr ba 3 #[.int .i64 k] ∧ w.grownBy wr (some ba))
  case atStart => exact ⟨a, ha, rfl, rfl, hA, World.grownBy.refl _ _⟩
  case round =>
    clear hA
    obtain ⟨k, hk, rfl, hE, hA, hg⟩ := hrel
    have HE := Lib.hid hE
    clear hE
    have cL : wr.cell? ⟨bl, 0, none⟩ = some (.slice A len cap) := (hL.grown hg (by simpa using n1)).cell 0
    have cB : wr.cell? ⟨bb, 0, none⟩ = some (.int .i64 (-1)) := (hB.grown hg (by simpa using n2)).cell 0
    have cA : wr.cell? ⟨ba, 0, none⟩ = some (.int .i64 k) := hA.cell 0
    have fA := hA.frozen 0
    have ck : wr.cell? ⟨bk, 0, none⟩ = some (.int .i64 kk) := (hK.grown hg (by simpa using n3)).cell 0
    rcases k with _ | k
    · have E := Lib.hid (show bwd (isK kk) zs 0 = 0 from rfl)
      have q1 : decide ((0 : Int) - 1 < 0) = true := by simp
      go_wp2_with (go_at_call 30; refine (prev1_any _ kk bk _ ck).mono ?_; rw [H.out]; rintro e w1 ⟨rfl, nn, rfl⟩)
      go_ret
      exact ⟨ret_int (by rw [← HE.out, E.out]; rfl), by rw [← HE.out, E.out]; exact hA, hg⟩
    · have hlt : k < len := by omega
      obtain ⟨b, off, rfl, hbl, hc⟩ := cell_nth hz hlt
      have hcell : wr.cell? ⟨b, off + k, none⟩ = some (.int .i32 (nth zs k)) := ((h0.grown hg (by intro x hx; injection hx with hx; omega)).cell hbl).trans hc
      have cA' : wr.cell? ⟨ba, 0, none⟩ = some (.int .i64 ((k : Int) + 1)) := by rw [cA]; simp
      have e1 : (k : Int) + 1 - 1 = (k : Int) := by omega
      have q1 : decide ((k : Int) < 0) = false := by simp
      have q2 : decide ((len : Int) ≤ (k : Int)) = false := by simp; omega
      clear cA
      obtain ⟨v, hv⟩ : ∃ v, (isK kk) (nth zs k) = v := ⟨_, rfl⟩
      have H := Lib.hid hv
      clear hc
      cases v
      · have E := Lib.hid (show bwd (isK kk) zs (k + 1) = k + 1 from bwd_stop hv)
        clear hv
        go_wp2_with (go_at_call 30; refine (prev1_any _ kk bk _ ck).mono ?_; rw [H.out]; rintro e w1 ⟨rfl, nn, rfl⟩)
        go_ret
        exact ⟨ret_int (by rw [← HE.out, E.out]; simp), by rw [← HE.out, E.out]; exact hA.drewN nn, grown_drewN hg nn⟩
      · have E := Lib.hid (show bwd (isK kk) zs (k + 1) = bwd (isK kk) zs k from bwd_step hv)
        clear hv
        go_wp2_with (go_at_call 30; refine (prev1_any _ kk bk _ ck).mono ?_; rw [H.out]; rintro e w1 ⟨rfl, nn, rfl⟩)
        go_roundg k
        case measure => omega
        case rel => exact ⟨k, by omega, rfl, by rw [← HE.out, E.out], (by rw [show ((k : Int) + 1 + -1) = (k : Int) from by omega]; exact (hA.drewN nn).set_ 0 _), grown_set (grown_drewN hg nn) 0 _⟩


set_option maxHeartbeats 400000 in
theorem pass_k_tail (w0 w : World) (A : Option Addr) (len cap : Nat) (zs : List Int) (bl ba bb a : Nat) (bk : Nat) (kk : Int) (hK : Blk w bk 3 #[.int .i64 kk]) (n3 : bk ≠ ba) (hz : IntsIn .i32 w0 A len zs) (h0 : Nx w0 w) (hlb : w0.heap.size ≤ ba) (hL : Blk w bl 25 #[.slice A len cap]) (hA : Blk w ba 3 #[.int .i64 a]) (hB : Blk w bb 3 #[.int .i64 1])
    (ha : a ≤ len) (hlen : len ≤ 1000) (n1 : bl ≠ ba) (n2 : bb ≠ ba) :
    Calls Try.prog 33 #[.func (.func 31) #[] #[.pointer (some ⟨bk, 0, none⟩)], .pointer (some ⟨ba, 0, none⟩), .pointer (some ⟨bb, 0, none⟩), .pointer (some ⟨bl, 0, none⟩)] w
      fun e w' => e = .returned (.int .i64 (fwd (isK kk) zs a : Nat)) ∧ Blk w' ba 3 #[.int .i64 (fwd (isK kk) zs a : Nat)] ∧ w.grownBy w' (some ba) := by
  go_enter Try.func33, Try.ntmps33
  go_wp2_with fail
  go_loopg [6] (len - a) (fun m u6 wr => ∃ k : Nat, k ≤ len ∧ m = len - k ∧ fwd (isK kk) zs k = fwd (isK kk) zs a ∧ Blk wr ba 3 #[.int .i64 k] ∧ w.grownBy wr (some ba))
  case atStart => exact ⟨a, ha, rfl, rfl, hA, World.grownBy.refl _ _⟩
  case round =>
    clear hA
    obtain ⟨k, hk, rfl, hE, hA, hg⟩ := hrel
    have HE := Lib.hid hE
    clear hE
    have cL : wr.cell? ⟨bl, 0, none⟩ = some (.slice A len cap) := (hL.grown hg (by simpa using n1)).cell 0
    have cB : wr.cell? ⟨bb, 0, none⟩ = some (.int .i64 1) := (hB.grown hg (by simpa using n2)).cell 0
    have cA : wr.cell? ⟨ba, 0, none⟩ = some (.int .i64 k) := hA.cell 0
    have fA := hA.frozen 0
    have ck : wr.cell? ⟨bk, 0, none⟩ = some (.int .i64 kk) := (hK.grown hg (by simpa using n3)).cell 0
    by_cases hlt : k < len
    · obtain ⟨b, off, rfl, hbl, hc⟩ := cell_nth hz hlt
      have hcell : wr.cell? ⟨b, off + k, none⟩ = some (.int .i32 (nth zs k)) := ((h0.grown hg (by intro x hx; injection hx with hx; omega)).cell hbl).trans hc
      have q1 : decide ((k : Int) < 0) = false := by simp
      have q2 : decide ((len : Int) ≤ (k : Int)) = false := by simp; omega
      obtain ⟨v, hv⟩ : ∃ v, (isK kk) (nth zs k) = v := ⟨_, rfl⟩
      have H := Lib.hid hv
      clear hc
      cases v
      · have E := Lib.hid (show fwd (isK kk) zs k = k from fwd_stop hv)
        clear hv
        go_wp2_with (go_at_call 31; refine (tail1_any _ kk bk _ ck).mono ?_; rw [H.out]; rintro e w1 ⟨rfl, nn, rfl⟩)
        go_ret
        exact ⟨ret_int (by rw [← HE.out, E.out]), by rw [← HE.out, E.out]; exact hA.drewN nn, grown_drewN hg nn⟩
      · have E := Lib.hid (show fwd (isK kk) zs (k + 1) = fwd (isK kk) zs k from fwd_step (by rw [hz.1]; exact hlt) hv)
        clear hv
        go_wp2_with (go_at_call 31; refine (tail1_any _ kk bk _ ck).mono ?_; rw [H.out]; rintro e w1 ⟨rfl, nn, rfl⟩)
        go_roundg (len - (k + 1))
        case measure => omega
        case rel => exact ⟨k + 1, by omega, rfl, by rw [E.out]; exact HE.out, (hA.drewN nn).set_ 0 _, grown_set (grown_drewN hg nn) 0 _⟩
    · obtain rfl : k = len := by omega
      have E := Lib.hid (show fwd (isK kk) zs k = k from fwd_end (by rw [hz.1]; omega))
      have q1 : decide ((k : Int) < 0) = false := by simp
      go_wp2_with (go_at_call 31; refine (tail1_any _ kk bk _ ck).mono ?_; rw [H.out]; rintro e w1 ⟨rfl, nn, rfl⟩)
      go_ret
      exact ⟨ret_int (by rw [← HE.out, E.out]), by rw [← HE.out, E.out]; exact hA, hg⟩

end Go.Proofs.Ytmmgbmmphmldeaa.walk
