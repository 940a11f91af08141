/-
  The walk of the law FifoOrder: it returns true for every input. No condition.
-/
import Derived.Test.YtldgfhngieipgaaLaw08c
namespace Go.Proofs.Ytldgfhngieipgaa.walk
open Go.RowKit Go.Proofs.Ytldgfhngieipgaa.kit
set_option linter.unusedVariables false

section
variable {w V w4 : World} {R k : Nat} {q ins outs : List (Int × Int)} {last lost : Int} {gi ci go co g cap : Nat} {o : Obj}
theorem OR.putOut {x : Int × Int} (he : ins = outs ++ x :: q) (hF : FI V (w.heap.size + 1) w.heap.size R q last lost)
    (h3 : V.ownsRow (w.heap.size + 2) 31 2 (.slice (some ⟨gi, 0, none⟩) ins.length ci) ins.length (flat ins))
    (h4 : V.ownsRow (w.heap.size + 2) 31 2 (.slice (some ⟨go, 0, none⟩) outs.length co) outs.length (flat outs))
    (hne : gi ≠ go) (h6 : ins.length ≤ k) (h7 : 0 ≤ lost) (h8 : lost ≤ k) (h9 : 0 ≤ last) (hN : Nx w V)
    (r1 : w4.ownsRow (w.heap.size + 2) 31 2 (.slice (some ⟨g, 0, none⟩) (outs.length + 1) cap) (outs.length + 1) (flat outs ++ [.int .u8 x.1, .int .i64 x.2]))
    (r2 : (V.alloc o).grownBy w4 (Value.slice (some ⟨go, 0, none⟩) outs.length co).ownBlock) (r3 : (Value.slice (some ⟨go, 0, none⟩) outs.length co).ownBlock = some g ∨ g = V.heap.size + 1) :
    OR w R k q ins (outs ++ [x]) last lost gi ci g cap w4 := by
  have e1 : (Value.slice (some ⟨go, 0, none⟩) outs.length co).ownBlock = some go := rfl
  have e2 : (Value.slice (some ⟨gi, 0, none⟩) ins.length ci).ownBlock = some gi := rfl
  rw [e1] at r2 r3
  have l3 := h3.lt gi rfl
  have l4 := h4.lt go rfl
  have hsz := hN.size
  have hFl := hF.lt
  refine ⟨by rw [he]; simp, (hF.nx ((Nx.refl V).alloc o)).grown r2 (by simp; omega) (by simp; omega), (h3.alloc o).kept r2 (.inr (by rw [e2]; simpa using hne)), ?_, ?_, h6, h7, h8, h9, (hN.alloc o).grown r2 (fun k hk => by injection hk with hk; omega)⟩
  · rw [List.length_append, List.length_singleton, show outs ++ [x] = outs ++ [(x.1, x.2)] from rfl, flat_snoc]
    exact r1
  · rcases r3 with r3 | r3
    · injection r3 with r3; omega
    · omega
theorem OR.putIn {B T : Int} (he : ins = outs ++ q) (hF : FI V (w.heap.size + 1) w.heap.size R (q ++ [(B, T)]) last lost)
    (h3 : V.ownsRow (w.heap.size + 2) 31 2 (.slice (some ⟨gi, 0, none⟩) ins.length ci) ins.length (flat ins))
    (h4 : V.ownsRow (w.heap.size + 2) 31 2 (.slice (some ⟨go, 0, none⟩) outs.length co) outs.length (flat outs))
    (hne : gi ≠ go) (h6 : ins.length + 1 ≤ k) (h7 : 0 ≤ lost) (h8 : lost ≤ k) (h9 : 0 ≤ last) (hN : Nx w V)
    (r1 : w4.ownsRow (w.heap.size + 2) 31 2 (.slice (some ⟨g, 0, none⟩) (ins.length + 1) cap) (ins.length + 1) (flat ins ++ [.int .u8 B, .int .i64 T]))
    (r2 : (V.alloc o).grownBy w4 (Value.slice (some ⟨gi, 0, none⟩) ins.length ci).ownBlock) (r3 : (Value.slice (some ⟨gi, 0, none⟩) ins.length ci).ownBlock = some g ∨ g = V.heap.size + 1) :
    OR w R k (q ++ [(B, T)]) (ins ++ [(B, T)]) outs last lost g cap go co w4 := by
  have e2 : (Value.slice (some ⟨go, 0, none⟩) outs.length co).ownBlock = some go := rfl
  have e1 : (Value.slice (some ⟨gi, 0, none⟩) ins.length ci).ownBlock = some gi := rfl
  rw [e1] at r2 r3
  have l3 := h3.lt gi rfl
  have l4 := h4.lt go rfl
  have hsz := hN.size
  have hFl := hF.lt
  refine ⟨by rw [he]; simp, (hF.nx ((Nx.refl V).alloc o)).grown r2 (by simp; omega) (by simp; omega), ?_, (h4.alloc o).kept r2 (.inr (by rw [e2]; simpa using hne.symm)), ?_, by simpa using h6, h7, h8, h9, (hN.alloc o).grown r2 (fun k hk => by injection hk with hk; omega)⟩
  · rw [List.length_append, List.length_singleton, flat_snoc]
    exact r1
  · rcases r3 with r3 | r3
    · injection r3 with r3; omega
    · omega
theorem st_one {x y : Int} : ∀ u ∈ [Value.int .u8 x, .int .i64 y], u.oneCell' = true := by
  intro u hu; simp at hu; rcases hu with rfl | rfl <;> rfl
theorem st_new (w : World) (x y : Int) (t : TypeId) : ∀ j u, [Value.int .u8 x, .int .i64 y][j]? = some u → (w.alloc (.cells #[.int .u8 x, .int .i64 y] t)).cell? ((⟨w.heap.size, 0, none⟩ : Addr).add j) = some u := by
  intro j u hu
  rw [Addr.add_lit, (Blk.new w t _).cell, Nat.zero_add]
  rw [← hu]; simp
theorem st_new2 (w : World) (o : Obj) (x y : Int) (t : TypeId) : ∀ j u, [Value.int .u8 x, .int .i64 y][j]? = some u → ((w.alloc o).alloc (.cells #[.int .u8 x, .int .i64 y] t)).cell? ((⟨w.heap.size + 1, 0, none⟩ : Addr).add j) = some u := by
  have := st_new (w.alloc o) x y t
  rw [World.size_alloc] at this
  exact this
end

set_option maxRecDepth 100000 in
set_option maxHeartbeats 4000000 in
theorem fifoOrder_walk (w : World) (r : Int) (wr0 : (Lit.int .i64 r).wf = true) (A : Option Addr) (len cap : Nat) (l : List (Int × Int)) (hw : StIn w A len l ∧ len ≤ cap ∧ cap ≤ maxLen) :
    Calls Try.prog 4 #[.int .i64 r, .slice A len cap] w fun e w' => e = .returned (.bool true) ∧ Below w.heap.size w w' := by
  obtain ⟨i0, hi, hz0, hzs, hz2⟩ := info_parts Try.infoSt'
  have I0 := Lib.hid (And.intro hi (And.intro hz0 (And.intro hzs hz2)))
  clear hi hz0 hzs hz2
  have hz := hw.1
  have hlm : len ≤ 9223372036854775807 := by have := hw.2.1; have := hw.2.2; unfold maxLen at this; omega
  clear hw wr0
  by_cases hr : r < 1 ∨ 64 < r
  · go_enter Try.func4, Try.ntmps4
    go_wp2_with (first | (go_at_call 6; refine (new_bad _ _ hr).mono ?_; rintro e w1 ⟨rfl, rfl⟩) | (go_at_call 14; refine (queued_any _).mono ?_; rintro e w1 ⟨rfl, x1⟩))
    go_ret
    exact ⟨rfl, x1⟩
  · obtain ⟨R, rfl⟩ := Int.eq_ofNat_of_zero_le (show 0 ≤ r by omega)
    have hR1 : 1 ≤ R := by omega
    have hR2 : R ≤ 64 := by omega
    clear hr
    by_cases hl : 400 < len
    · have d0 : decide ((400 : Int) < (len : Int)) = true := decide_eq_true (by omega)
      go_enter Try.func4, Try.ntmps4
      go_wp2_with (first | (go_at_call 6; refine (new_ok _ R hR1 hR2).mono ?_; rintro e w1 ⟨rfl, f1, n1⟩) | (go_at_call 14; refine (queued_any _).mono ?_; rintro e w2 ⟨rfl, x1⟩))
      go_ret
      exact ⟨rfl, n1.trans x1⟩
    · have d0 : decide ((400 : Int) < (len : Int)) = false := decide_eq_false (by omega)
      have hlen : len ≤ 400 := by omega
      go_enter Try.func4, Try.ntmps4
      go_wp2_with (first | (go_at_call 6; refine (new_ok _ R hR1 hR2).mono ?_; rintro e w1 ⟨rfl, f1, n1⟩))
      have s1 := n1.size
      have hag : w.heap.size + 1 ≠ w.heap.size := by omega
      have l1 := f1.lt
      have hO0 : OR w R 0 [] [] [] 0 0 w1.heap.size 0 (w1.heap.size + 1) 0 ((w1.alloc (.cells #[] 31)).alloc (.cells #[] 31)) := by
        refine ⟨rfl, (f1.nx ((Nx.refl w1).alloc _)).nx ((Nx.refl _).alloc _), ?_, ?_, by omega, by simp, by omega, by omega, by omega, (n1.alloc _).alloc _⟩
        · exact (World.ownsRow_made w1 #[] 0 (by omega) (Nat.zero_le _) (by simp)).alloc _
        · have := World.ownsRow_made (base := w.heap.size + 2) (e := 31) (size := 2) (w1.alloc (.cells #[] 31)) #[] 0 (by simp; omega) (Nat.zero_le _) (by simp)
          rw [World.size_alloc] at this
          exact this
      clear f1 n1
      go_loopw [4, 7, 8, 9, 10, 11] (fun _ vi vo i _ _ wr => ∃ (k : Nat) (q ins outs : List (Int × Int)) (last lost : Int) (gi ci go co : Nat), k ≤ len ∧ i = .int .i64 k ∧ vi = .slice (some ⟨gi, 0, none⟩) ins.length ci ∧ vo = .slice (some ⟨go, 0, none⟩) outs.length co ∧ OR w R k q ins outs last lost gi ci go co wr) (fun _ _ _ i _ _ _ => len - (intOf i).toNat)
      case atStart => exact ⟨0, [], [], [], 0, 0, _, _, _, _, Nat.zero_le _, rfl, rfl, rfl, hO0⟩
      case round =>
        clear hO0
        obtain ⟨k, q, ins, outs, last, lost, gi, ci, go, co, hk, rfl, rfl, rfl, hOR⟩ := hrel
        have hOR' := hOR
        obtain ⟨he, hF, hI, hO, hne, hil, hl0, hl1, hla, hN⟩ := hOR'
        have HE := Lib.hid he
        have hlo : ins.length = outs.length + q.length := by rw [he, List.length_append]
        have hlo1 : outs.length + q.length ≤ ins.length := by omega
        have hlo2 : ins.length ≤ outs.length + q.length := by omega
        clear he hlo
        have hsz := hN.size
        have hFl := hF.lt
        have hFq := hF.len
        by_cases hlt : k < len
        · have q1 : decide ((k : Int) < (len : Int)) = true := decide_eq_true (by omega)
          have q1' : decide (k < len) = true := decide_eq_true hlt
          obtain ⟨b, off, rfl, hlb, hc0, hc1⟩ := hz.at_ hlt
          have hd0 := (hN.cell (p := ⟨b, off + k * 2, none⟩) hlb).trans hc0
          have hd1 := (hN.cell (p := ⟨b, off + k * 2 + 1, none⟩) hlb).trans hc1
          clear hc0 hc1
          have hi0 : (0 : Int) ≤ (k : Int) := by omega
          have hi1 : (k : Int) < (len : Int) := by omega
          generalize (qth l k).1 = B at hd0
          generalize (qth l k).2 = T at hd1
          by_cases hT : T < -1
          · have q2 : decide (T < -1) = true := decide_eq_true hT
            cases q with
            | nil =>
              rw [List.length_nil] at hlo1 hlo2
              have q3 : decide (outs.length < ins.length) = false := decide_eq_false (by omega)
              have q3' : decide ((outs.length : Int) < (ins.length : Int)) = false := decide_eq_false (by omega)
              go_wp2_with fail
              refine (pop_none _ _ _ R _ _ hF).mono ?_
              rintro e w2 ⟨rfl, x2⟩
              clear hF hI hO
              go_wp2_with fail
              go_roundw
              case rel => exact ⟨k + 1, [], ins, outs, last, lost, gi, ci, go, co, by omega, by go_num, rfl, rfl, ((hOR.nx x2).nx ((Nx.refl _).alloc _)).up⟩
              case measure => simp [intOf]; omega
            | cons x q =>
              rw [List.length_cons] at hlo1 hlo2
              have q3 : decide (outs.length < ins.length) = true := decide_eq_true (by omega)
              have q3' : decide ((outs.length : Int) < (ins.length : Int)) = true := decide_eq_true (by omega)
              go_wp2_with fail
              refine (pop_ok _ _ _ R x q _ _ hR2 hag hF).mono ?_
              rintro e w2 ⟨rfl, f2, x2⟩
              obtain ⟨hI2, hO2, hN2⟩ := hOR.fifo f2 x2
              have hS := Blk.new w2 31 #[.int .u8 x.1, .int .i64 x.2]
              have u0 := hS.cell 0; have u1 := hS.cell 1
              simp only [List.getElem?_toArray, List.getElem?_cons_zero, List.getElem?_cons_succ] at u0 u1
              have hI3 := hI2.alloc (.cells #[.int .u8 x.1, .int .i64 x.2] 31)
              have hO3 := hO2.alloc (.cells #[.int .u8 x.1, .int .i64 x.2] 31)
              have hF3 := f2.nx ((Nx.refl w2).alloc (.cells #[.int .u8 x.1, .int .i64 x.2] 31))
              have hN3 := hN2.alloc (.cells #[.int .u8 x.1, .int .i64 x.2] 31)
              have hs3 := hN3.size
              have hl3 := hF3.lt
              clear hF hI hO hI2 hO2 hN2 f2 x2 hS hOR hN
              go_wp2_with (at_builtin; refine wpList_append_lies _ rfl (.tmp 62) (.tmp 64) _ rfl (w.heap.size + 2) 31 i0 _ 2 16 Try.underlying22 I0.out.1 I0.out.2.1 I0.out.2.2.1 I0.out.2.2.2 rfl (by omega) (.slice (some ⟨go, 0, none⟩) outs.length co) outs.length (flat outs) rfl (hO3.alloc _) ⟨w2.heap.size + 1, 0, none⟩ 1 1 _ rfl rfl (st_new2 w2 _ x.1 x.2 _) st_one (by omega) (by unfold maxLen; omega) (by omega) ?_ (w2.heap.size + 1 + 1) (by simp) ?_)
              · simp; simp at hl3; omega
              · intro g4 c4 w4 r1 r2 r3 r4
                have hOR4 := OR.putOut (k := k) HE.out hF3 hI3 hO3 hne hil hl0 hl1 hla hN3 r1 r2 (by rw [World.size_alloc]; exact r3)
                clear hF3 hI3 hO3 hN3 r1 r2 r3 u0 u1
                go_wp2_with fail
                go_roundw
                case rel => exact ⟨k + 1, q, ins, outs ++ [x], last, lost, gi, ci, g4, c4, by omega, by go_num, rfl, by rw [List.length_append, List.length_singleton], hOR4.up⟩
                case measure => simp [intOf]; omega
          · have q2 : decide (T < -1) = false := decide_eq_false hT
            have hD := hF.nx ((Nx.refl wr).drew)
            rcases (show (T < last ∨ 1073741824 < T) ∨ ((last ≤ T ∧ T ≤ 1073741824) ∧ q.length < R) ∨ ((last ≤ T ∧ T ≤ 1073741824) ∧ q.length = R) by omega) with hb | ⟨⟨h1, h2⟩, h3⟩ | ⟨⟨h1, h2⟩, h3⟩
            · go_wp2_with (first | (go_still_tail 11, (by kernel_rfl)))
              refine (push_bad _ _ _ R _ _ _ _ _ hD hb).mono ?_
              rintro e w2 ⟨rfl, rfl⟩
              go_wp2_with fail
              go_roundw
              case rel => exact ⟨k + 1, q, ins, outs, last, lost, gi, ci, go, co, by omega, by go_num, rfl, rfl, (hOR.nx ((Nx.refl _).drew)).up⟩
              case measure => simp [intOf]; omega
            · go_wp2_with (first | (go_still_tail 11, (by kernel_rfl)))
              refine (push_ok _ _ _ R q _ _ _ _ hR2 hag h3 hD h1 h2).mono ?_
              rintro e w2 ⟨rfl, f2, x2⟩
              obtain ⟨hI2, hO2, hN2⟩ := (hOR.nx ((Nx.refl _).drew)).fifo f2 x2
              have hl2 := f2.lt
              have hs2 := hN2.size
              have g0 : w2.cell? ⟨b, off + k * 2, none⟩ = some (.int .u8 B) := (World.cell?_of_block (a := ⟨b, off + k * 2, none⟩) (x2.block b (show b < wr.heap.size by omega) (by omega) (by omega))).trans hd0
              have g1 : w2.cell? ⟨b, off + k * 2 + 1, none⟩ = some (.int .i64 T) := (World.cell?_of_block (a := ⟨b, off + k * 2 + 1, none⟩) (x2.block b (show b < wr.heap.size by omega) (by omega) (by omega))).trans hd1
              clear hF hI hO hD hOR hN x2 hd0 hd1
              go_wp2_with (at_builtin; refine wpList_append_lies _ rfl (.tmp 79) (.tmp 84) _ rfl (w.heap.size + 2) 31 i0 _ 2 16 Try.underlying22 I0.out.1 I0.out.2.1 I0.out.2.2.1 I0.out.2.2.2 rfl (by omega) (.slice (some ⟨gi, 0, none⟩) ins.length ci) ins.length (flat ins) rfl (hI2.alloc _) ⟨w2.heap.size, 0, none⟩ 1 1 _ rfl rfl (st_new w2 B T _) st_one (by omega) (by unfold maxLen; omega) (by omega) ?_ (w2.heap.size + 1) (by simp) ?_)
              · simp; omega
              · intro g4 c4 w4 r1 r2 r3 r4
                have hOR4 := OR.putIn (k := k + 1) HE.out f2 hI2 hO2 hne (by omega) hl0 (by omega) (by omega) hN2 r1 r2 r3
                clear f2 hI2 hO2 hN2 r1 r2 r3
                go_wp2_with fail
                go_roundw
                case rel => exact ⟨k + 1, q ++ [(B, T)], ins ++ [(B, T)], outs, T, lost, g4, c4, go, co, by omega, by go_num, by rw [List.length_append, List.length_singleton], rfl, hOR4⟩
                case measure => simp [intOf]; omega
            · subst h3
              go_wp2_with (first | (go_still_tail 11, (by kernel_rfl)))
              refine (push_full _ _ _ q.length q _ _ _ _ hag rfl hD h1 h2 hl0 (by omega)).mono ?_
              rintro e w2 ⟨rfl, f2, x2⟩
              obtain ⟨hI2, hO2, hN2⟩ := (hOR.nx ((Nx.refl _).drew)).fifo f2 x2
              go_wp2_with fail
              go_roundw
              case rel => exact ⟨k + 1, q, ins, outs, T, lost + 1, gi, ci, go, co, by omega, by go_num, rfl, rfl, HE.out, f2, hI2, hO2, hne, by omega, by omega, by omega, by omega, hN2⟩
              case measure => simp [intOf]; omega
        · have q1 : decide ((k : Int) < (len : Int)) = false := decide_eq_false (by omega)
          have q1' : decide (k < len) = false := decide_eq_false hlt
          clear hF hI hO hN
          go_wp2_with fail
          have hkl : k ≤ 400 := by omega
          obtain ⟨wo, rfl⟩ : ∃ wo : World, wo = wr := ⟨_, rfl⟩
          go_loopw [4, 8, 12, 13] (fun _ vo _ _ wr => ∃ (q outs : List (Int × Int)) (go co : Nat), vo = .slice (some ⟨go, 0, none⟩) outs.length co ∧ OR w R k q ins outs last lost gi ci go co wr) (fun _ vo _ _ _ => ins.length - slen vo)
          case atStart => exact ⟨q, outs, go, co, rfl, hOR⟩
          case round =>
            clear hOR HE hFl hFq hlo1 hlo2 hne hsz
            obtain ⟨q, outs, go, co, rfl, hOR⟩ := hrel
            have hOR' := hOR
            obtain ⟨he, hF, hI, hO, hne, hil, hl0, hl1, hla, hN⟩ := hOR'
            have HE := Lib.hid he
            have hlo : ins.length = outs.length + q.length := by rw [he, List.length_append]
            have hlo1 : outs.length + q.length ≤ ins.length := by omega
            have hlo2 : ins.length ≤ outs.length + q.length := by omega
            clear he hlo
            have hsz := hN.size
            have hFl := hF.lt
            have hFq := hF.len
            cases q with
            | nil =>
              rw [List.length_nil] at hlo1 hlo2
              have q3 : decide (outs.length < ins.length) = false := decide_eq_false (by omega)
              have q3' : decide ((outs.length : Int) < (ins.length : Int)) = false := decide_eq_false (by omega)
              go_wp2_with fail
              refine (pop_none _ _ _ R _ _ hF).mono ?_
              rintro e w2 ⟨rfl, x2⟩
              have hOR2 := (hOR.nx x2).nx ((Nx.refl w2).alloc (.cells #[.int .u8 0, .int .i64 0] 31))
              clear hF hI hO hOR hN x2
              go_wp2_with fail
              refine (queued_any _).mono ?_
              rintro e w3 ⟨rfl, x3⟩
              have hOR3 := hOR2.nx x3
              clear hOR2 x3
              go_wp2_with fail
              obtain ⟨he, _, hI, hO, _, _, _, _, _, hN3⟩ := hOR3
              rw [List.append_nil] at he
              subst he
              obtain ⟨_, _, e1, hI'⟩ := own_st hI
              obtain ⟨_, _, e2, hO'⟩ := own_st hO
              injection e1 with e1 _ _
              injection e2 with e2 _ _
              subst e1 e2
              refine (same_eq _ _ _ _ _ _ _ hI' hO' (by omega)).mono ?_
              rintro e w4 ⟨rfl, x4⟩
              clear hI' hO' hI hO
              go_wp2_with fail
              go_ret
              exact ⟨rfl, hN3.trans x4⟩
            | cons x q =>
              rw [List.length_cons] at hlo1 hlo2
              have q3 : decide (outs.length < ins.length) = true := decide_eq_true (by omega)
              have q3' : decide ((outs.length : Int) < (ins.length : Int)) = true := decide_eq_true (by omega)
              go_wp2_with fail
              refine (pop_ok _ _ _ R x q _ _ hR2 hag hF).mono ?_
              rintro e w2 ⟨rfl, f2, x2⟩
              obtain ⟨hI2, hO2, hN2⟩ := hOR.fifo f2 x2
              have hS := Blk.new w2 31 #[.int .u8 x.1, .int .i64 x.2]
              have u0 := hS.cell 0; have u1 := hS.cell 1
              simp only [List.getElem?_toArray, List.getElem?_cons_zero, List.getElem?_cons_succ] at u0 u1
              have hI3 := hI2.alloc (.cells #[.int .u8 x.1, .int .i64 x.2] 31)
              have hO3 := hO2.alloc (.cells #[.int .u8 x.1, .int .i64 x.2] 31)
              have hF3 := f2.nx ((Nx.refl w2).alloc (.cells #[.int .u8 x.1, .int .i64 x.2] 31))
              have hN3 := hN2.alloc (.cells #[.int .u8 x.1, .int .i64 x.2] 31)
              have hs3 := hN3.size
              have hl3 := hF3.lt
              clear hF hI hO hI2 hO2 hN2 f2 x2 hS hOR hN
              go_wp2_with (at_builtin; refine wpList_append_lies _ rfl (.tmp 98) (.tmp 100) _ rfl (w.heap.size + 2) 31 i0 _ 2 16 Try.underlying22 I0.out.1 I0.out.2.1 I0.out.2.2.1 I0.out.2.2.2 rfl (by omega) (.slice (some ⟨go, 0, none⟩) outs.length co) outs.length (flat outs) rfl (hO3.alloc _) ⟨w2.heap.size + 1, 0, none⟩ 1 1 _ rfl rfl (st_new2 w2 _ x.1 x.2 _) st_one (by omega) (by unfold maxLen; omega) (by omega) ?_ (w2.heap.size + 1 + 1) (by simp) ?_)
              · simp; simp at hl3; omega
              · intro g4 c4 w4 r1 r2 r3 r4
                have hOR4 := OR.putOut (k := k) HE.out hF3 hI3 hO3 hne hil hl0 hl1 hla hN3 r1 r2 (by rw [World.size_alloc]; exact r3)
                clear hF3 hI3 hO3 hN3 r1 r2 r3 u0 u1
                go_wp2_with fail
                go_roundw
                case rel => exact ⟨q, outs ++ [x], g4, c4, by rw [List.length_append, List.length_singleton], hOR4⟩
                case measure => simp [slen]; omega
end Go.Proofs.Ytldgfhngieipgaa.walk
