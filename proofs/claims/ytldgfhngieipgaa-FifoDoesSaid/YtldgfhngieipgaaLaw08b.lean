/-
  The walk of the law FifoDoes: it returns true for every input. No condition.
-/
import Derived.Test.YtldgfhngieipgaaWalk08f
import Derived.Test.YtldgfhngieipgaaWalk08g
import Derived.Test.YtldgfhngieipgaaOpen08
namespace Go.Proofs.Ytldgfhngieipgaa.walk
open Go.RowKit Go.Proofs.Ytldgfhngieipgaa.kit
set_option linter.unusedVariables false

theorem quiet_left {P : Program} {f : FuncId} {args : Array Value} {w : World} {n : Nat} {v : Value}
    (h : Calls P f args (w.drewN n) fun e w' => e = .returned v ∧ w.drewN n = w') : Calls P f args (w.drewN n) fun e w'' => e = .returned v ∧ ∃ m, w'' = w.drewN m :=
  h.mono fun _ _ ⟨he, hm⟩ => ⟨he, n, hm.symm⟩
theorem Nx.belowB {u v x : World} {B : Nat} (h : Nx u v) (k : Below B v x) (hB : u.heap.size ≤ B) : Nx u x := Below.trans h (k.mono hB)

set_option maxRecDepth 100000 in
set_option maxHeartbeats 4000000 in
theorem fifoDoes_walk (w : World) (r : Int) (wr0 : (Lit.int .i64 r).wf = true) (A : Option Addr) (len cap : Nat) (l : List (Int × Int)) (hw : StIn w A len l ∧ len ≤ cap ∧ cap ≤ maxLen) :
    Calls Try.prog 3 #[.int .i64 r, .slice A len cap] w fun e w' => e = .returned (.bool true) ∧ Below w.heap.size w w' := by
  have hz := hw.1
  have hlm : len ≤ 9223372036854775807 := by have := hw.2.1; have := hw.2.2; unfold maxLen at this; omega
  clear hw wr0
  by_cases hr : r < 1 ∨ 64 < r
  · go_enter Try.func3, Try.ntmps3
    go_wp2_with fail
    refine (new_bad _ _ hr).mono ?_
    rintro e w1 ⟨rfl, rfl⟩
    go_wp2_with fail
    refine (rnew_bad _ _ hr).mono ?_
    rintro e w1 ⟨rfl, rfl⟩
    go_wp2_with fail
    refine wp_loop_rounds 1 ?_
    rw [rounds_succ]
    by_cases hl : 0 < len
    · have d0 : decide ((0 : Int) < (len : Int)) = true := decide_eq_true (by omega)
      go_wp2_with (go_at_call 14; refine (queued_any _).mono ?_; rintro e w1 ⟨rfl, x1⟩)
      go_ret
      exact ⟨rfl, x1⟩
    · have d0 : decide ((0 : Int) < (len : Int)) = false := decide_eq_false (by omega)
      go_wp2_with (go_at_call 14; refine (queued_any _).mono ?_; rintro e w1 ⟨rfl, x1⟩)
      go_ret
      exact ⟨rfl, x1⟩
  · obtain ⟨R, rfl⟩ := Int.eq_ofNat_of_zero_le (show 0 ≤ r by omega)
    have hR1 : 1 ≤ R := by omega
    have hR2 : R ≤ 64 := by omega
    clear hr
    go_enter Try.func3, Try.ntmps3
    go_wp2_with fail
    refine (new_ok _ R hR1 hR2).mono ?_
    rintro e w1 ⟨rfl, f1, n1⟩
    go_wp2_with fail
    refine (rnew_ok _ R hR1 hR2).mono ?_
    rintro e w2 ⟨rfl, g2, n2⟩
    go_wp2_with fail
    have s1 := n1.size
    have hag : w.heap.size + 1 ≠ w.heap.size := by omega
    have l1 := f1.lt
    have f2 := f1.nx n2
    have n3 := n1.trans n2
    generalize w1.heap.size = ra at *
    clear f1 n1 n2
    go_loopw [4, 9, 10, 11, 12, 13] (fun _ i _ _ _ _ wr => ∃ (k : Nat) (q : List (Int × Int)) (last lost : Int), k ≤ len ∧ k ≤ 400 ∧ i = .int .i64 k ∧ FI wr (w.heap.size + 1) w.heap.size R q last lost ∧ RF wr ra R q last lost ∧ 0 ≤ lost ∧ lost ≤ k ∧ 0 ≤ last ∧ Nx w wr) (fun _ i _ _ _ _ _ => len - (intOf i).toNat)
    case atStart => exact ⟨0, [], 0, 0, Nat.zero_le _, Nat.zero_le _, rfl, f2, g2, by omega, by omega, by omega, n3⟩
    case round =>
      clear f2 g2 n3
      obtain ⟨k, q, last, lost, hk, hk4, rfl, hF, hG, hl0, hl1, hla, hN⟩ := hrel
      have hsz := hN.size
      have hFl := hF.lt
      have hFq := hF.len
      by_cases hlt : k < len ∧ k < 400
      · obtain ⟨hlt, hlt4⟩ := hlt
        have q1 : decide ((k : Int) < (len : Int)) = true := decide_eq_true (by omega)
        have q1' : decide (k < len) = true := decide_eq_true hlt
        have q4 : decide ((k : Int) < 400) = true := decide_eq_true (by omega)
        obtain ⟨b, off, rfl, hlb, hc0, hc1⟩ := hz.at_ hlt
        have hd0 := (hN.cell (p := ⟨b, off + k * 2, none⟩) hlb).trans hc0
        have hd1 := (hN.cell (p := ⟨b, off + k * 2 + 1, none⟩) hlb).trans hc1
        clear hc0 hc1
        have hi0 : (0 : Int) ≤ (k : Int) := by omega
        have hi1 : (k : Int) < (len : Int) := by omega
        generalize (qth l k).1 = B at hd0
        generalize (qth l k).2 = T at hd1
        by_cases hT : T < -1
        · have q2 : decide (T < -1) = true := decide_eq_true hT
          cases q with
          | nil =>
              go_wp2_with fail
              refine (pop_none _ _ _ R _ _ hF).mono ?_
              rintro e w2 ⟨rfl, y2⟩
              have hS := Blk.new w2 31 #[.int .u8 0, .int .i64 0]
              have hF2 := hF.nx y2
              have hG2 := hG.nx y2
              have hN2 : Nx w _ := hN.trans y2
              have hF2' := hF2.nx ((Nx.refl w2).alloc (.cells #[.int .u8 0, .int .i64 0] 31))
              have hG2' := hG2.nx ((Nx.refl w2).alloc (.cells #[.int .u8 0, .int .i64 0] 31))
              have hN2' := hN2.alloc (.cells #[.int .u8 0, .int .i64 0] 31)
              have hs2 := hN2.size
              have hra := hG2.lt
              clear hF hG hN hF2 hG2 hN2
              go_wp2_with fail
              generalize w2.alloc (.cells #[.int .u8 0, .int .i64 0] 31) = V at *
              refine (rpop_none _ _ R _ _ hG2').mono ?_
              rintro e w3 ⟨rfl, y3⟩
              have hF3 := (hF2'.nx y3).nx ((Nx.refl w3).alloc (.cells #[.int .u8 0, .int .i64 0] 31))
              have hG3 := (hG2'.nx y3).nx ((Nx.refl w3).alloc (.cells #[.int .u8 0, .int .i64 0] 31))
              have hN3 : Nx w _ := (hN2'.trans y3).alloc (.cells #[.int .u8 0, .int .i64 0] 31)
              have hS3 := (hS.nx y3).alloc (.cells #[.int .u8 0, .int .i64 0] 31)
              have hU3 := Blk.new w3 31 #[.int .u8 0, .int .i64 0]
              have u0 := hS3.cell 0; have u1 := hS3.cell 1
              simp only [List.getElem?_toArray, List.getElem?_cons_zero, List.getElem?_cons_succ] at u0 u1
              obtain ⟨vA, vc, bG, _⟩ := hG3.open_
              have p1 := bG.cell 1
              have p3 := bG.cell 3
              simp only [List.getElem?_toArray, List.getElem?_cons_zero, List.getElem?_cons_succ] at p1 p3
              have hlS := hS3.lt
              clear hF2' hG2' hN2' bG hS hS3
              go_wp2_with fail
              go_quiet (first | (go_at_call 12; exact quiet_left (len_any _ _ _ R _ _ _ (hF3.nx ((Nx.refl _).drewN _)))) | (go_at_call 13; exact quiet_left (lost_any _ _ _ R _ _ _ (hF3.nx ((Nx.refl _).drewN _)))))
              go_wp2_with fail
              go_roundw
              case rel => exact ⟨k + 1, [], last, lost, by omega, by omega, by go_num, hF3.nx ((Nx.refl _).drewN _), hG3.nx ((Nx.refl _).drewN _), by omega, by omega, by omega, hN3.drewN _⟩
              case measure => simp [intOf]; omega
          | cons x q =>
              go_wp2_with fail
              refine (pop_ok _ _ _ R x q _ _ hR2 hag hF).mono ?_
              rintro e w2 ⟨rfl, f2, y2⟩
              have hS := Blk.new w2 31 #[.int .u8 x.1, .int .i64 x.2]
              have hF2 := f2
              have hG2 := RF.only hG y2 (by omega) (by omega)
              have hN2 : Nx w _ := Nx.only hN y2 (by omega) (by omega)
              have hF2' := hF2.nx ((Nx.refl w2).alloc (.cells #[.int .u8 x.1, .int .i64 x.2] 31))
              have hG2' := hG2.nx ((Nx.refl w2).alloc (.cells #[.int .u8 x.1, .int .i64 x.2] 31))
              have hN2' := hN2.alloc (.cells #[.int .u8 x.1, .int .i64 x.2] 31)
              have hs2 := hN2.size
              have hra := hG2.lt
              clear hF hG hN hF2 hG2 hN2
              go_wp2_with fail
              generalize w2.alloc (.cells #[.int .u8 x.1, .int .i64 x.2] 31) = V at *
              refine (rpop_ok _ _ R x q _ _ hG2' (by rw [List.length_cons] at hFq; omega)).mono ?_
              rintro e w3 ⟨rfl, g3, y3⟩
              have hF3 := (hF2'.only y3 (by omega) (by omega) (by omega) (by omega)).nx ((Nx.refl w3).alloc (.cells #[.int .u8 x.1, .int .i64 x.2] 31))
              have hG3 := (g3).nx ((Nx.refl w3).alloc (.cells #[.int .u8 x.1, .int .i64 x.2] 31))
              have hN3 : Nx w _ := (Nx.only hN2' y3 (by omega) (by omega)).alloc (.cells #[.int .u8 x.1, .int .i64 x.2] 31)
              have hS3 := (Blk.only hS y3 (by omega) (by omega)).alloc (.cells #[.int .u8 x.1, .int .i64 x.2] 31)
              have hU3 := Blk.new w3 31 #[.int .u8 x.1, .int .i64 x.2]
              have u0 := hS3.cell 0; have u1 := hS3.cell 1
              simp only [List.getElem?_toArray, List.getElem?_cons_zero, List.getElem?_cons_succ] at u0 u1
              obtain ⟨vA, vc, bG, _⟩ := hG3.open_
              have p1 := bG.cell 1
              have p3 := bG.cell 3
              simp only [List.getElem?_toArray, List.getElem?_cons_zero, List.getElem?_cons_succ] at p1 p3
              have hlS := hS3.lt
              clear hF2' hG2' hN2' bG hS hS3
              go_wp2_with fail
              go_quiet (first | (go_at_call 12; exact quiet_left (len_any _ _ _ R _ _ _ (hF3.nx ((Nx.refl _).drewN _)))) | (go_at_call 13; exact quiet_left (lost_any _ _ _ R _ _ _ (hF3.nx ((Nx.refl _).drewN _)))))
              go_wp2_with fail
              go_roundw
              case rel => exact ⟨k + 1, q, last, lost, by omega, by omega, by go_num, hF3.nx ((Nx.refl _).drewN _), hG3.nx ((Nx.refl _).drewN _), by omega, by omega, by omega, hN3.drewN _⟩
              case measure => simp [intOf]; omega
        · have q2 : decide (T < -1) = false := decide_eq_false hT
          rcases (show (T < last ∨ 1073741824 < T) ∨ ((last ≤ T ∧ T ≤ 1073741824) ∧ q.length < R) ∨ ((last ≤ T ∧ T ≤ 1073741824) ∧ q.length = R) by omega) with hb | ⟨⟨h1, h2⟩, h3⟩ | ⟨⟨h1, h2⟩, h3⟩
          · go_wp2_with fail
            go_region_held3 (fun w' => w'.cell? ⟨b, off + k * 2, none⟩ = some (.int .u8 B) ∧ w'.cell? ⟨b, off + k * 2 + 1, none⟩ = some (.int .i64 T)) (go_keep)
              (first | (go_at_call 10; refine (push_bad _ _ _ R _ _ _ _ _ (hF.nx ((Nx.refl wr).drew)) hb).mono ?_; rintro e w2 ⟨rfl, rfl⟩) | (go_at_call 11; refine (rpush_bad _ _ R _ _ _ _ _ (hG.nx ((Nx.refl wr).drew)) (by omega)).mono ?_; rintro e w2 ⟨rfl, rfl⟩))
            go_wp2_with fail
            have hF3 := hF.nx ((Nx.refl wr).drew)
            have hG3 := hG.nx ((Nx.refl wr).drew)
            have hN3 : Nx w _ := hN.drew
            generalize wr.drew = W2 at *
            obtain ⟨vA, vc, bG, _⟩ := hG3.open_
            have p1 := bG.cell 1
            have p3 := bG.cell 3
            simp only [List.getElem?_toArray, List.getElem?_cons_zero, List.getElem?_cons_succ] at p1 p3
            go_quiet (first | (go_at_call 12; exact quiet_left (len_any _ _ _ R _ _ _ (hF3.nx ((Nx.refl _).drewN _)))) | (go_at_call 13; exact quiet_left (lost_any _ _ _ R _ _ _ (hF3.nx ((Nx.refl _).drewN _)))))
            go_wp2_with fail
            go_roundw
            case rel => exact ⟨k + 1, q, last, lost, by omega, by omega, by go_num, hF3.nx ((Nx.refl _).drewN _), hG3.nx ((Nx.refl _).drewN _), by omega, by omega, by omega, hN3.drewN _⟩
            case measure => simp [intOf]; omega
          · have r7 : (q ++ [(B, T)]).length = q.length + 1 := by simp
            go_wp2_with fail
            go_region_held3 (fun w' => w'.cell? ⟨b, off + k * 2, none⟩ = some (.int .u8 B) ∧ w'.cell? ⟨b, off + k * 2 + 1, none⟩ = some (.int .i64 T)) (first | go_keep | exact ⟨(x2.block b (by show b < wr.heap.size; omega) (by omega) (by omega) |> World.cell?_of_block).trans hd0, (x2.block b (by show b < wr.heap.size; omega) (by omega) (by omega) |> World.cell?_of_block).trans hd1⟩ | exact ⟨((x3.block b (by omega) |> World.cell?_of_block).trans (x2.block b (by show b < wr.heap.size; omega) (by omega) (by omega) |> World.cell?_of_block)).trans hd0, ((x3.block b (by omega) |> World.cell?_of_block).trans (x2.block b (by show b < wr.heap.size; omega) (by omega) (by omega) |> World.cell?_of_block)).trans hd1⟩)
              (first | (go_at_call 10; refine (push_ok _ _ _ R q _ _ _ _ hR2 hag h3 (hF.nx ((Nx.refl wr).drew)) h1 h2).mono ?_; rintro e w2 ⟨rfl, f2, x2⟩) | (go_at_call 11; refine (rpush_ok _ _ R q _ _ _ _ (RF.only (hG.nx ((Nx.refl wr).drew)) x2 (by omega) (by omega)) h3 hR2 (by omega) h1 h2).mono ?_; rintro e w3 ⟨rfl, g3, x3⟩))
            go_wp2_with fail
            have hF3 := f2.below x3 (by omega) (by omega)
            have hG3 := g3
            have hN3 : Nx w _ := Nx.belowB (Nx.only hN.drew x2 (by omega) (by omega)) x3 (by omega)
            clear f2 g3 x2 x3 hF hG
            obtain ⟨vA, vc, bG, _⟩ := hG3.open_
            have p1 := bG.cell 1
            have p3 := bG.cell 3
            simp only [List.getElem?_toArray, List.getElem?_cons_zero, List.getElem?_cons_succ] at p1 p3
            go_quiet (first | (go_at_call 12; exact quiet_left (len_any _ _ _ R _ _ _ (hF3.nx ((Nx.refl _).drewN _)))) | (go_at_call 13; exact quiet_left (lost_any _ _ _ R _ _ _ (hF3.nx ((Nx.refl _).drewN _)))))
            go_wp2_with fail
            go_roundw
            case rel => exact ⟨k + 1, q ++ [(B, T)], T, lost, by omega, by omega, by go_num, hF3.nx ((Nx.refl _).drewN _), hG3.nx ((Nx.refl _).drewN _), by omega, by omega, by omega, hN3.drewN _⟩
            case measure => simp [intOf]; omega
          · subst h3
            go_wp2_with fail
            go_region_held3 (fun w' => w'.cell? ⟨b, off + k * 2, none⟩ = some (.int .u8 B) ∧ w'.cell? ⟨b, off + k * 2 + 1, none⟩ = some (.int .i64 T)) (first | go_keep | exact ⟨(x2.block b (by show b < wr.heap.size; omega) (by omega) (by omega) |> World.cell?_of_block).trans hd0, (x2.block b (by show b < wr.heap.size; omega) (by omega) (by omega) |> World.cell?_of_block).trans hd1⟩ | exact ⟨((x3.block b (by omega) |> World.cell?_of_block).trans (x2.block b (by show b < wr.heap.size; omega) (by omega) (by omega) |> World.cell?_of_block)).trans hd0, ((x3.block b (by omega) |> World.cell?_of_block).trans (x2.block b (by show b < wr.heap.size; omega) (by omega) (by omega) |> World.cell?_of_block)).trans hd1⟩)
              (first | (go_at_call 10; refine (push_full _ _ _ q.length q _ _ _ _ hag rfl (hF.nx ((Nx.refl wr).drew)) h1 h2 hl0 (by omega)).mono ?_; rintro e w2 ⟨rfl, f2, x2⟩) | (go_at_call 11; refine (rpush_full _ _ q _ _ _ _ (RF.only (hG.nx ((Nx.refl wr).drew)) x2 (by omega) (by omega)) (by omega) h1 h2 hl0 (by omega)).mono ?_; rintro e w3 ⟨rfl, g3, x3⟩))
            go_wp2_with fail
            have hF3 := f2.below x3 (by omega) (by omega)
            have hG3 := g3
            have hN3 : Nx w _ := Nx.belowB (Nx.only hN.drew x2 (by omega) (by omega)) x3 (by omega)
            clear f2 g3 x2 x3 hF hG
            obtain ⟨vA, vc, bG, _⟩ := hG3.open_
            have p1 := bG.cell 1
            have p3 := bG.cell 3
            simp only [List.getElem?_toArray, List.getElem?_cons_zero, List.getElem?_cons_succ] at p1 p3
            go_quiet (first | (go_at_call 12; exact quiet_left (len_any _ _ _ q.length _ _ _ (hF3.nx ((Nx.refl _).drewN _)))) | (go_at_call 13; exact quiet_left (lost_any _ _ _ q.length _ _ _ (hF3.nx ((Nx.refl _).drewN _)))))
            go_wp2_with fail
            go_roundw
            case rel => exact ⟨k + 1, q, T, lost + 1, by omega, by omega, by go_num, hF3.nx ((Nx.refl _).drewN _), hG3.nx ((Nx.refl _).drewN _), by omega, by omega, by omega, hN3.drewN _⟩
            case measure => simp [intOf]; omega
      · have hx : ¬ k < len ∨ (k < len ∧ ¬ k < 400) := by omega
        clear hlt
        rcases hx with hlt | ⟨hlt', hlt⟩
        · have q1 : decide ((k : Int) < (len : Int)) = false := decide_eq_false (by omega)
          have q1' : decide (k < len) = false := decide_eq_false hlt
          go_wp2_with (first | (go_at_call 14; refine (queued_any _).mono ?_; rintro e w2 ⟨rfl, x1⟩))
          go_ret
          exact ⟨rfl, hN.trans x1⟩
        · have q1 : decide ((k : Int) < (len : Int)) = true := decide_eq_true (by omega)
          have q1' : decide (k < len) = true := decide_eq_true hlt'
          have q4 : decide ((k : Int) < 400) = false := decide_eq_false (by omega)
          go_wp2_with (first | (go_at_call 14; refine (queued_any _).mono ?_; rintro e w2 ⟨rfl, x1⟩))
          go_ret
          exact ⟨rfl, hN.trans x1⟩
end Go.Proofs.Ytldgfhngieipgaa.walk
