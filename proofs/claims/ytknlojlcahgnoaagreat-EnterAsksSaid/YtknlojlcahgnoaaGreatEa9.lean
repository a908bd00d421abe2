/- Slices of deeds: what they read as; Heavy. -/
import Derived.Deep.QuietTactic
import Derived.BigQuiet
import Derived.Test.YtknlojlcahgnoaaGreatEa5

namespace Go.Proofs.YtknlojlcahgnoaaGreat
open Go.RowKit
set_option linter.unusedVariables false
set_option linter.unusedSimpArgs false

structure Deed where
  kind : Int
  wait : Int
  big : Int
  keyv : Value
  key : List UInt8
  rule : Int
  n : Int
  to : Int
def Deed.cells (d : Deed) : Array Value := #[.int .u8 d.kind, .int .u32 d.wait, .int .u8 d.big, d.keyv, .int .u8 d.rule, .int .u16 d.n, .int .u8 d.to]
structure DeedOk (w : World) (d : Deed) : Prop where
  k0 : 0 ≤ d.kind
  k1 : d.kind < 256
  w0 : 0 ≤ d.wait
  w1 : d.wait < 4294967296
  b0 : 0 ≤ d.big
  b1 : d.big < 256
  key : ByteSlice w d.keyv d.key
  r0 : 0 ≤ d.rule
  r1 : d.rule < 256
  n0 : 0 ≤ d.n
  n1 : d.n < 65536
  t0 : 0 ≤ d.to
  t1 : d.to < 256
theorem DeedOk.ext {w w' : World} {d : Deed} (h : DeedOk w d) (e : Ext w w') : DeedOk w' d :=
  ⟨h.k0, h.k1, h.w0, h.w1, h.b0, h.b1, h.key.ext e, h.r0, h.r1, h.n0, h.n1, h.t0, h.t1⟩

/-- a slice whose elements are these deeds -/
structure DeedSlice (w : World) (v : Value) (l : List Deed) : Prop where
  form : ∃ a c, v = .slice a l.length c ∧ (l ≠ [] → ∃ b o, a = some ⟨b, o, none⟩ ∧ ∀ j (h : j < l.length) i, i < 7 → w.cell? ⟨b, o + j * 7 + i, none⟩ = (l[j].cells)[i]?)
  len : l.length ≤ maxLen
  each : ∀ d ∈ l, DeedOk w d
theorem keep_opt {w w' : World} (e : Ext w w') {a : Addr} {c : Option Value} (hc : c.isSome = true) (h : w.cell? a = c) : w'.cell? a = c := by
  cases c with
  | none => cases hc
  | some v => exact e.keep h
theorem DeedSlice.ext {w w' : World} {v : Value} {l : List Deed} (h : DeedSlice w v l) (e : Ext w w') : DeedSlice w' v l := by
  obtain ⟨a, c, hv, hl⟩ := h.form
  refine ⟨⟨a, c, hv, fun hne => ?_⟩, h.len, fun d hd => (h.each d hd).ext e⟩
  obtain ⟨b, o, ha, hc⟩ := hl hne
  refine ⟨b, o, ha, fun j hj i hi => keep_opt e ?_ (hc j hj i hi)⟩
  simp [Deed.cells, hi]

end Go.Proofs.YtknlojlcahgnoaaGreat
