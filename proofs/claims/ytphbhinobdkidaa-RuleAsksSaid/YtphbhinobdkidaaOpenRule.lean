/- An api.Rule that comes in as an argument, opened. -/
import Derived.Test.YtphbhinobdkidaaProg
import Derived.Test.YtphbhinobdkidaaSlices
import Derived.Lib.SmallJoins
namespace Go.Proofs.Ytphbhinobdkidaa
open Go.RowKit
set_option linter.unusedVariables false
set_option linter.unusedSimpArgs false

set_option maxRecDepth 100000 in
theorem open_rule {H : Type} {enc : TypeId × Value → H} {W : World} {r : Reach} {b0 base : Nat} {spare : Nat → Bool} {held : Bool} {v : Value} {d : DataW H} {ps : List MemPlace}
    (hv : Value.okWide Try.prog W r b0 25 v) (h : DataW.Trod enc Try.prog W base spare held 25 v d ps) :
    ∃ (p : ByteArray) (e b k : Int), v = .agg #[.string p, .int .u64 e, .int .u64 b, .int .u8 k] ∧ p.size ≤ maxLen ∧ (Lit.int .u64 e).wf = true ∧ (Lit.int .u64 b).wf = true ∧ (Lit.int .u8 k).wf = true := by
  obtain ⟨c0, c1, c2, c3, y0, y1, y2, y3, m, rfl, -, -, h0, h1, h2, h3⟩ := Joins.open_agg4 Try.underlying25 (by kernel_rfl) (by kernel_rfl) hv h
  obtain ⟨p, e0, -, w0⟩ := DataW.trod_string Try.underlying9 h0
  obtain ⟨e, e1, -, w1⟩ := DataW.trod_int Try.underlying22 h1
  obtain ⟨b, e2, -, w2⟩ := DataW.trod_int Try.underlying22 h2
  obtain ⟨k, e3, -, w3⟩ := DataW.trod_int Try.underlying5 h3
  simp at e0 e1 e2 e3
  subst e0 e1 e2 e3
  exact ⟨p, e, b, k, rfl, w0, w1, w2, w3⟩
end Go.Proofs.Ytphbhinobdkidaa
