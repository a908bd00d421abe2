/- Slices of deeds: what they read as; Heavy. -/
import Derived.Deep.QuietTactic
import Derived.BigQuiet
import Derived.Test.YtknlojlcahgnoaaGreatEb7

namespace Go.Proofs.YtknlojlcahgnoaaGreat
open Go.RowKit
set_option linter.unusedVariables false
set_option linter.unusedSimpArgs false

structure Deed where
  kind : Int
  wait : Int
  big : Int
  keyv : Value
  key : List UInt8
  rule : Int
  n : Int
  to : Int
def Deed.cells (d : Deed) : Array Value := #[.int .u8 d.kind, .int .u32 d.wait, .int .u8 d.big, d.keyv, .int .u8 d.rule, .int .u16 d.n, .int .u8 d.to]
structure DeedOk (w : World) (d : Deed) : Prop where
  k0 : 0 ≤ d.kind
  k1 : d.kind < 256
  w0 : 0 ≤ d.wait
  w1 : d.wait < 4294967296
  b0 : 0 ≤ d.big
  b1 : d.big < 256
  key : ByteSlice w d.keyv d.key
  r0 : 0 ≤ d.rule
  r1 : d.rule < 256
  n0 : 0 ≤ d.n
  n1 : d.n < 65536
  t0 : 0 ≤ d.to
  t1 : d.to < 256
theorem DeedOk.ext {w w' : World} {d : Deed} (h : DeedOk w d) (e : Ext w w') : DeedOk w' d :=
  ⟨h.k0, h.k1, h.w0, h.w1, h.b0, h.b1, h.key.ext e, h.r0, h.r1, h.n0, h.n1, h.t0, h.t1⟩

/-- a slice whose elements are these deeds -/
structure DeedSlice (w : World) (v : Value) (l : List Deed) : Prop where
  form : ∃ a c, v = .slice a l.length c ∧ (l ≠ [] → ∃ b o, a = some ⟨b, o, none⟩ ∧ ∀ j (h : j < l.length) i, i < 7 → w.cell? ⟨b, o + j * 7 + i, none⟩ = (l[j].cells)[i]?)
  len : l.length ≤ maxLen
  each : ∀ d ∈ l, DeedOk w d
theorem keep_opt {w w' : World} (e : Ext w w') {a : Addr} {c : Option Value} (hc : c.isSome = true) (h : w.cell? a = c) : w'.cell? a = c := by
  cases c with
  | none => cases hc
  | some v => exact e.keep h
theorem DeedSlice.ext {w w' : World} {v : Value} {l : List Deed} (h : DeedSlice w v l) (e : Ext w w') : DeedSlice w' v l := by
  obtain ⟨a, c, hv, hl⟩ := h.form
  refine ⟨⟨a, c, hv, fun hne => ?_⟩, h.len, fun d hd => (h.each d hd).ext e⟩
  obtain ⟨b, o, ha, hc⟩ := hl hne
  refine ⟨b, o, ha, fun j hj i hi => keep_opt e ?_ (hc j hj i hi)⟩
  simp [Deed.cells, hi]

/-- one deed's cells, where a walk looks for them -/
theorem deed_cells {w w' : World} {b o : Nat} {l : List Deed} (hc : ∀ j (h : j < l.length) i, i < 7 → w.cell? ⟨b, o + j * 7 + i, none⟩ = (l[j].cells)[i]?) (e : Ext w w') (k : Nat) (hk : k < l.length) :
    w'.cell? ⟨b, o + k * 7, none⟩ = some (.int .u8 l[k].kind) ∧ w'.cell? ⟨b, o + k * 7 + 1, none⟩ = some (.int .u32 l[k].wait) ∧ w'.cell? ⟨b, o + k * 7 + 2, none⟩ = some (.int .u8 l[k].big) ∧
      w'.cell? ⟨b, o + k * 7 + 3, none⟩ = some l[k].keyv ∧ w'.cell? ⟨b, o + k * 7 + 4, none⟩ = some (.int .u8 l[k].rule) ∧ w'.cell? ⟨b, o + k * 7 + 5, none⟩ = some (.int .u16 l[k].n) ∧ w'.cell? ⟨b, o + k * 7 + 6, none⟩ = some (.int .u8 l[k].to) :=
  ⟨e.keep (hc k hk 0 (by omega)), e.keep (hc k hk 1 (by omega)), e.keep (hc k hk 2 (by omega)), e.keep (hc k hk 3 (by omega)), e.keep (hc k hk 4 (by omega)), e.keep (hc k hk 5 (by omega)), e.keep (hc k hk 6 (by omega))⟩

set_option maxHeartbeats 1000000 in
set_option maxRecDepth 100000 in
theorem law14_Heavy (v : Value) (l : List Deed) (w : World) (hv : DeedSlice w v l) :
    Calls Tryz.prog 25 #[v] w fun e w' => (∃ n : Int, e = .returned (.int .i64 n)) ∧ Ext w w' := by
  obtain ⟨⟨a, c, rfl, hl⟩, hlen, heach⟩ := hv
  unfold maxLen at hlen
  have HL := Lib.hid hl
  have HE := Lib.hid heach
  clear hl heach
  go_enter Tryz.func25, Tryz.ntmps25
  go_wp2
  go_loopw [3, 4] (fun s i wr => ∃ (k : Nat) (n : Int), k ≤ l.length ∧ i = .int .i64 k ∧ s = .int .i64 n ∧ Ext w wr) (fun _ i _ => l.length - (intOf i).toNat)
  case atStart => exact ⟨0, 0, by omega, rfl, rfl, Ext.refl _⟩
  case round =>
    obtain ⟨k, n, hk, rfl, rfl, hx⟩ := hrel
    by_cases hlt : k < l.length
    · by_cases h6 : n ≤ 1000
      · obtain ⟨b, o, rfl, hc⟩ := HL.out (by intro e; rw [e] at hlt; simp at hlt)
        have hd := HE.out l[k] (List.getElem_mem _)
        have hcell := (deed_cells hc hx k hlt).2.2.2.1
        have hlt2 := cell_lt hcell
        obtain ⟨ka, kc, hkv, -⟩ := hd.key.form
        have hkl := hd.key.len
        rw [hkv] at hcell
        generalize (l[k].key).length = kn at *
        clear hc hd hkv
        go_wp2
        go_roundw
        case rel => exact ⟨k + 1, _, by omega, by go_num, rfl, hx⟩
        case measure => simp [intOf]; omega
      · go_wp2
        go_ret
        exact ⟨⟨_, rfl⟩, (by repeat (first | with_reducible exact Ext.refl _ | with_reducible assumption | with_reducible refine Ext.alloc ?_ _ | with_reducible refine Ext.drew ?_ | (with_reducible refine Ext.setCell ?_ (by first | exact Nat.le_refl _ | (dsimp only; omega) | (simp; done) | (simp; omega)) _) | with_reducible refine Ext.trans ?_ (by with_reducible assumption)))⟩
    · go_wp2
      go_ret
      exact ⟨⟨_, rfl⟩, (by repeat (first | with_reducible exact Ext.refl _ | with_reducible assumption | with_reducible refine Ext.alloc ?_ _ | with_reducible refine Ext.drew ?_ | (with_reducible refine Ext.setCell ?_ (by first | exact Nat.le_refl _ | (dsimp only; omega) | (simp; done) | (simp; omega)) _) | with_reducible refine Ext.trans ?_ (by with_reducible assumption)))⟩
end Go.Proofs.YtknlojlcahgnoaaGreat
