/-
  Keys: one byte more (Feed). No condition but the library's two tables and a bound on the bytes' number.
-/
import Derived.Test.YtmfccecjphfkiaaDoorWalk16j
import Derived.Laws.BytesArg
namespace Go.Proofs.YtmfccecjphfkiaaDoor.walk
open Go.RowKit Go.Proofs.YtmfccecjphfkiaaDoor.kit Go.Proofs.YtmfccecjphfkiaaDoor.plain
set_option linter.unusedVariables false

set_option maxHeartbeats 2000000 in
theorem feed_bad (p : ByteArray) (at' b t wait : Int) (w : World) (hT : TB w) (hs : p.size ≤ 1000000) (hbad : isK (L p) at' = false ∨ waitB wait = false ∨ tickB t = false ∨ t < at') :
    Calls Tryd.prog 21 #[.agg #[.string p, .int .i64 at'], .agg #[.int .u8 b, .int .i64 t], .int .i64 wait] w fun e w' => e = .returned (.tuple #[.agg #[.string ⟨#[]⟩, .int .i64 0], .slice none 0 0, .int .i64 1]) ∧ Nx w w' := by
  have n1 := (((Nx.refl w).alloc (.cells #[.string p, .int .i64 at'] 30)).alloc (.cells #[.int .u8 b, .int .i64 t] 40)).alloc (.cells #[.string ⟨#[]⟩, .int .i64 0] 30)
  have hb := ((Blk.new w 30 #[.string p, .int .i64 at']).alloc (.cells #[.int .u8 b, .int .i64 t] 40)).alloc (.cells #[.string ⟨#[]⟩, .int .i64 0] 30)
  have hd := (Blk.new (w.alloc (.cells #[.string p, .int .i64 at'] 30)) 40 #[.int .u8 b, .int .i64 t]).alloc (.cells #[.string ⟨#[]⟩, .int .i64 0] 30)
  have hk := Blk.new ((w.alloc (.cells #[.string p, .int .i64 at'] 30)).alloc (.cells #[.int .u8 b, .int .i64 t] 40)) 30 #[.string ⟨#[]⟩, .int .i64 0]
  rw [World.size_alloc] at hd
  rw [World.size_alloc, World.size_alloc] at hk
  have C1 := Lib.hid (isk_any p at' _ (hT.nx n1) hs)
  have C2 := Lib.hid (fun W => waits_any wait W)
  have C3 := Lib.hid (fun W => tick_any t W)
  cases h1 : isK (L p) at' with
  | false =>
    rw [h1] at C1
    clear h1 hbad C2 C3
    go_enter Tryd.func21, Tryd.ntmps21
    go_wp2_with fail
    refine C1.out.mono ?_
    rintro e w1 ⟨rfl, x1⟩
    clear C1
    have hk1 := hk.nx x1
    obtain ⟨k0, k1, f0, f1⟩ := blk_cells hk1
    obtain ⟨r0, r1, _, _⟩ := blk_cells (blk_two (u := .string ⟨#[]⟩) (v := .int .i64 0) hk1)
    have R := Lib.hid (And.intro r0 r1)
    clear r0 r1 hb hd hk hk1
    go_wp2_with fail
    refine bodyPost_ret (v := .tuple #[.agg #[.string ⟨#[]⟩, .int .i64 0], .slice none 0 0, .int .i64 1]) (by simp [results, Tryd.results21, go_sem, R.out.1, R.out.2]) rfl ⟨rfl, ?_⟩
    exact ((n1.trans x1).setCell (p := ⟨w.heap.size + 1 + 1, 0, none⟩) (show w.heap.size ≤ w.heap.size + 1 + 1 by omega) _).setCell (p := ⟨w.heap.size + 1 + 1, 1, none⟩) (show w.heap.size ≤ w.heap.size + 1 + 1 by omega) _
  | true =>
    rw [h1] at C1 hbad
    clear h1
    cases h2 : waitB wait with
    | false =>
      rw [h2] at C2
      clear h2 hbad C3
      go_enter Tryd.func21, Tryd.ntmps21
      go_wp2_with fail
      refine C1.out.mono ?_
      rintro e w1 ⟨rfl, x1⟩
      clear C1
      have hk1 := hk.nx x1
      obtain ⟨k0, k1, f0, f1⟩ := blk_cells hk1
      obtain ⟨r0, r1, _, _⟩ := blk_cells (blk_two (u := .string ⟨#[]⟩) (v := .int .i64 0) hk1)
      have R := Lib.hid (And.intro r0 r1)
      clear r0 r1 hb hd hk hk1
      go_wp2_with fail
      refine (C2.out _).mono ?_
      rintro e w2 ⟨rfl, rfl⟩
      clear C2
      go_wp2_with fail
      refine bodyPost_ret (v := .tuple #[.agg #[.string ⟨#[]⟩, .int .i64 0], .slice none 0 0, .int .i64 1]) (by simp [results, Tryd.results21, go_sem, R.out.1, R.out.2]) rfl ⟨rfl, ?_⟩
      exact ((n1.trans x1).setCell (p := ⟨w.heap.size + 1 + 1, 0, none⟩) (show w.heap.size ≤ w.heap.size + 1 + 1 by omega) _).setCell (p := ⟨w.heap.size + 1 + 1, 1, none⟩) (show w.heap.size ≤ w.heap.size + 1 + 1 by omega) _
    | true =>
      rw [h2] at C2 hbad
      clear h2
      cases h3 : tickB t with
      | false =>
        rw [h3] at C3
        clear h3 hbad
        go_enter Tryd.func21, Tryd.ntmps21
        go_wp2_with fail
        refine C1.out.mono ?_
        rintro e w1 ⟨rfl, x1⟩
        clear C1
        have hk1 := hk.nx x1
        obtain ⟨d0, d1, _, _⟩ := blk_cells (hd.nx x1)
        obtain ⟨k0, k1, f0, f1⟩ := blk_cells hk1
        obtain ⟨r0, r1, _, _⟩ := blk_cells (blk_two (u := .string ⟨#[]⟩) (v := .int .i64 0) hk1)
        have R := Lib.hid (And.intro r0 r1)
        clear r0 r1 hb hd hk hk1
        go_wp2_with fail
        refine (C2.out _).mono ?_
        rintro e w2 ⟨rfl, rfl⟩
        clear C2
        go_wp2_with fail
        refine (C3.out _).mono ?_
        rintro e w2 ⟨rfl, rfl⟩
        clear C3
        go_wp2_with fail
        refine bodyPost_ret (v := .tuple #[.agg #[.string ⟨#[]⟩, .int .i64 0], .slice none 0 0, .int .i64 1]) (by simp [results, Tryd.results21, go_sem, R.out.1, R.out.2]) rfl ⟨rfl, ?_⟩
        exact ((n1.trans x1).setCell (p := ⟨w.heap.size + 1 + 1, 0, none⟩) (show w.heap.size ≤ w.heap.size + 1 + 1 by omega) _).setCell (p := ⟨w.heap.size + 1 + 1, 1, none⟩) (show w.heap.size ≤ w.heap.size + 1 + 1 by omega) _
      | true =>
        rw [h3] at C3 hbad
        clear h3
        have hlt : t < at' := by simpa using hbad
        have q1 : decide (t < at') = true := decide_eq_true hlt
        clear hbad
        go_enter Tryd.func21, Tryd.ntmps21
        go_wp2_with fail
        refine C1.out.mono ?_
        rintro e w1 ⟨rfl, x1⟩
        clear C1
        have hk1 := hk.nx x1
        obtain ⟨b0, b1, _, _⟩ := blk_cells (hb.nx x1)
        obtain ⟨d0, d1, _, _⟩ := blk_cells (hd.nx x1)
        obtain ⟨k0, k1, f0, f1⟩ := blk_cells hk1
        obtain ⟨r0, r1, _, _⟩ := blk_cells (blk_two (u := .string ⟨#[]⟩) (v := .int .i64 0) hk1)
        have R := Lib.hid (And.intro r0 r1)
        clear r0 r1 hb hd hk hk1
        go_wp2_with fail
        refine (C2.out _).mono ?_
        rintro e w2 ⟨rfl, rfl⟩
        clear C2
        go_wp2_with fail
        refine (C3.out _).mono ?_
        rintro e w2 ⟨rfl, rfl⟩
        clear C3
        go_wp2_with fail
        refine bodyPost_ret (v := .tuple #[.agg #[.string ⟨#[]⟩, .int .i64 0], .slice none 0 0, .int .i64 1]) (by simp [results, Tryd.results21, go_sem, R.out.1, R.out.2]) rfl ⟨rfl, ?_⟩
        exact ((n1.trans x1).setCell (p := ⟨w.heap.size + 1 + 1, 0, none⟩) (show w.heap.size ≤ w.heap.size + 1 + 1 by omega) _).setCell (p := ⟨w.heap.size + 1 + 1, 1, none⟩) (show w.heap.size ≤ w.heap.size + 1 + 1 by omega) _
end Go.Proofs.YtmfccecjphfkiaaDoor.walk
