/-
  Keys: what Feed answers, in one statement for each side; keys that wait and typed bytes that came in, opened. No condition but bounds and, for the program's side, the library's two tables.
-/
import Derived.Test.YtmfccecjphfkiaaDoorWalk16m
namespace Go.Proofs.YtmfccecjphfkiaaDoor.walk
open Go.RowKit Go.Proofs.YtmfccecjphfkiaaDoor.kit Go.Proofs.YtmfccecjphfkiaaDoor.plain
set_option linter.unusedVariables false

/-- what waits behind the settling, and what was settled -/
def pendK (p : List UInt8) (at' t wait : Int) : List UInt8 := if dueK p at' t wait = true then [] else p
def preK (p : List UInt8) (at' t wait : Int) : List KEY := if dueK p at' t wait = true then settleK p else []
theorem isK_len {p : List UInt8} {at' : Int} (h : isK p at' = true) : p.length ≤ 10 := by
  unfold isK at h
  split at h
  · rename_i e; rw [e]; simp
  · simp at h
    rcases one_e p with ⟨g, _⟩ | ⟨_, _, g⟩ | ⟨g, _⟩
    · omega
    · exact g
    · rw [g] at h; simp at h
theorem feed_ok (p : ByteArray) (at' b t wait : Int) (w : World) (hT : TB w) (h1 : isK (L p) at' = true) (h2 : waitB wait = true) (h3 : tickB t = true) (h4 : at' ≤ t) :
    Calls Tryd.prog 21 #[.agg #[.string p, .int .i64 at'], .agg #[.int .u8 b, .int .i64 t], .int .i64 wait] w (FP (restOf (pendK (L p) at' t wait ++ [UInt8.ofNat b.toNat])) t (preK (L p) at' t wait ++ keysOf (pendK (L p) at' t wait ++ [UInt8.ofNat b.toNat])) w) := by
  have hs : p.size ≤ 10 := by have := isK_len h1; rwa [L_length] at this
  have hsl := settle_len (L p)
  rw [L_length] at hsl
  unfold pendK preK
  cases hD : dueK (L p) at' t wait with
  | true => exact feed_go p at' b t wait w hT (by omega) h1 h2 h3 h4 ⟨#[]⟩ 0 (settleK (L p)) (by decide) (by omega) fun W hW => rest_yes p at' t wait W hW (by omega) hD
  | false => exact feed_go p at' b t wait w hT (by omega) h1 h2 h3 h4 p at' [] (by omega) (by decide) fun W hW => rest_no p at' t wait W hW (by omega) hD
theorem rfeed_ok (p : ByteArray) (at' b t wait : Int) (w : World) (h1 : isK (L p) at' = true) (h2 : waitB wait = true) (h3 : tickB t = true) (h4 : at' ≤ t) :
    Calls Tryd.prog 22 #[.agg #[.string p, .int .i64 at'], .agg #[.int .u8 b, .int .i64 t], .int .i64 wait] w (FP (restOf (pendK (L p) at' t wait ++ [UInt8.ofNat b.toNat])) t (preK (L p) at' t wait ++ keysOf (pendK (L p) at' t wait ++ [UInt8.ofNat b.toNat])) w) := by
  have hs : p.size ≤ 10 := by have := isK_len h1; rwa [L_length] at this
  have hsl := settle_len (L p)
  rw [L_length] at hsl
  unfold pendK preK
  cases hD : dueK (L p) at' t wait with
  | true => exact rfeed_go p at' b t wait w (by omega) h1 h2 h3 h4 ⟨#[]⟩ 0 (settleK (L p)) (by decide) (by omega) fun W => rrest_yes p at' t wait W (by omega) hD
  | false => exact rfeed_go p at' b t wait w (by omega) h1 h2 h3 h4 p at' [] (by omega) (by decide) fun W => rrest_no p at' t wait W (by omega) hD

section
open Go.WideShapes Go.ChangeShapes Go.Joins Go.Deep
theorem open_keys {H : Type} {enc : TypeId × Value → H} {W : World} {b0 : Nat} {v : Value} {d : DataW H} {p : List MemPlace}
    (hv : Value.okWide Tryd.prog W .any b0 30 v) (h : DataW.Trod enc Tryd.prog W 0 (fun _ => true) true 30 v d p) : ∃ (s : ByteArray) (n : Int), v = .agg #[.string s, .int .i64 n] := by
  obtain ⟨c0, c1, y0, y1, m, rfl, _, _, hy0, hy1⟩ := open_agg2 Tryd.underlying30 (by kernel_rfl) (by kernel_rfl) hv h
  obtain ⟨a, e0, _⟩ := DataW.trod_string Tryd.underlying9 hy0
  obtain ⟨n, e1, _⟩ := DataW.trod_int Tryd.underlying3 hy1
  simp at e0 e1
  subst e0 e1
  exact ⟨a, n, rfl⟩
theorem open_stamped {H : Type} {enc : TypeId × Value → H} {W : World} {b0 : Nat} {v : Value} {d : DataW H} {p : List MemPlace}
    (hv : Value.okWide Tryd.prog W .any b0 40 v) (h : DataW.Trod enc Tryd.prog W 0 (fun _ => true) true 40 v d p) : ∃ (b n : Int), v = .agg #[.int .u8 b, .int .i64 n] := by
  obtain ⟨c0, c1, y0, y1, m, rfl, _, _, hy0, hy1⟩ := open_agg2 Tryd.underlying40 (by kernel_rfl) (by kernel_rfl) hv h
  obtain ⟨a, e0, _⟩ := DataW.trod_int Tryd.underlying5 hy0
  obtain ⟨n, e1, _⟩ := DataW.trod_int Tryd.underlying3 hy1
  simp at e0 e1
  subst e0 e1
  exact ⟨a, n, rfl⟩
end

section
set_option maxRecDepth 100000
theorem ex1 : one (L ⟨#[27, 91, 65, 120]⟩) = ((3, 0), 3, 0) := by decide +kernel
theorem ex2 : one (L ⟨#[27, 91]⟩) = ((0, 0), 0, 3) := by decide +kernel
theorem ex3 : one (L ⟨#[]⟩) = ((0, 0), 0, 6) := by decide +kernel
theorem ex4 (w : World) (hT : TB w) : Calls Tryd.prog 21 #[.agg #[.string ⟨#[]⟩, .int .i64 0], .agg #[.int .u8 27, .int .i64 5], .int .i64 3] w (FP [27] 5 [] w) := feed_ok ⟨#[]⟩ 0 27 5 3 w hT (by decide +kernel) (by decide +kernel) (by decide +kernel) (by decide)
theorem ex5 (w : World) (hT : TB w) : Calls Tryd.prog 21 #[.agg #[.string ⟨#[27]⟩, .int .i64 5], .agg #[.int .u8 102, .int .i64 7], .int .i64 3] w (FP [] 7 [(2, 102)] w) := feed_ok ⟨#[27]⟩ 5 102 7 3 w hT (by decide +kernel) (by decide +kernel) (by decide +kernel) (by decide)
theorem ex6 (w : World) (hT : TB w) : Calls Tryd.prog 21 #[.agg #[.string ⟨#[27]⟩, .int .i64 5], .agg #[.int .u8 102, .int .i64 8], .int .i64 3] w (FP [] 8 [(10, 0), (1, 102)] w) := feed_ok ⟨#[27]⟩ 5 102 8 3 w hT (by decide +kernel) (by decide +kernel) (by decide +kernel) (by decide)
theorem ex7 (w : World) (hT : TB w) : Calls Tryd.prog 12 #[.agg #[.string ⟨#[27]⟩, .int .i64 5], .int .i64 8, .int .i64 3] w (RP ⟨#[]⟩ 0 [(10, 0)] w) := rest_yes ⟨#[27]⟩ 5 8 3 w hT (by decide) (by decide +kernel)
theorem ex8 (w : World) : Calls Tryd.prog 15 #[.string ⟨#[27, 91, 49]⟩] w (KP [(10, 0), (1, 91), (1, 49)] w) := settle_any ⟨#[27, 91, 49]⟩ w (by decide)
end
end Go.Proofs.YtmfccecjphfkiaaDoor.walk
