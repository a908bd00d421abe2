/- Slices of bytes and of texts: what they read as; how they come out of an argument's reading. -/
import Derived.Test.YtnlmbmbalmkiiaaGreatBase
import Derived.OpenShut
import Derived.ShutString
import Derived.SliceStrings
namespace Go.Proofs.YtnlmbmbalmkiiaaGreat
open Go.ChangeShapes Go.WideShapes Go.ChangeAt Go.RowKit
set_option linter.unusedVariables false
set_option linter.unusedSimpArgs false

theorem wfu8 {a : Int} (h : (Lit.int .u8 a).wf = true) : 0 ≤ a ∧ a < 256 := by
  have : 0 ≤ a ∧ a ≤ 255 := by simpa [Lit.wf, IntKind.min, IntKind.max, IntKind.signed, IntKind.bits] using h
  omega
theorem wfu16 {a : Int} (h : (Lit.int .u16 a).wf = true) : 0 ≤ a ∧ a < 65536 := by
  have : 0 ≤ a ∧ a ≤ 65535 := by simpa [Lit.wf, IntKind.min, IntKind.max, IntKind.signed, IntKind.bits] using h
  omega
theorem wfu32 {a : Int} (h : (Lit.int .u32 a).wf = true) : 0 ≤ a ∧ a < 4294967296 := by
  have : 0 ≤ a ∧ a ≤ 4294967295 := by simpa [Lit.wf, IntKind.min, IntKind.max, IntKind.signed, IntKind.bits] using h
  omega
theorem wfu64 {a : Int} (h : (Lit.int .u64 a).wf = true) : 0 ≤ a ∧ a < 18446744073709551616 := by
  have : 0 ≤ a ∧ a ≤ 18446744073709551615 := by simpa [Lit.wf, IntKind.min, IntKind.max, IntKind.signed, IntKind.bits] using h
  omega
theorem wfi64 {a : Int} (h : (Lit.int .i64 a).wf = true) : -9223372036854775808 ≤ a ∧ a ≤ 9223372036854775807 := by
  simpa [Lit.wf, IntKind.min, IntKind.max, IntKind.signed, IntKind.bits] using h

/-- a slice whose cells are these texts -/
structure StrSlice (w : World) (v : Value) (l : List ByteArray) : Prop where
  form : ∃ a c, v = .slice a l.length c ∧ (l ≠ [] → ∃ b o, a = some ⟨b, o, none⟩ ∧ ∀ j (h : j < l.length), w.cell? ⟨b, o + j, none⟩ = some (.string l[j]))
  len : l.length ≤ maxLen
  each : ∀ s ∈ l, s.size ≤ maxLen
theorem StrSlice.ext {w w' : World} {v : Value} {l : List ByteArray} (h : StrSlice w v l) (e : Ext w w') : StrSlice w' v l := by
  obtain ⟨a, c, hv, hl⟩ := h.form
  refine ⟨⟨a, c, hv, fun hne => ?_⟩, h.len, h.each⟩
  obtain ⟨b, o, ha, hc⟩ := hl hne
  exact ⟨b, o, ha, fun j hj => e.keep (hc j hj)⟩
theorem StrSlice.new {w : World} {b n c : Nat} {t : TypeId} (l : List ByteArray) (hb : Blk w b (l.map Value.string).toArray t) (hn : l.length = n) (hlen : n ≤ maxLen) (heach : ∀ s ∈ l, s.size ≤ maxLen) :
    StrSlice w (.slice (some ⟨b, 0, none⟩) n c) l := by
  subst hn
  refine ⟨⟨_, _, rfl, fun _ => ⟨b, 0, rfl, fun j hj => ?_⟩⟩, hlen, heach⟩
  rw [hb.cell]
  simp [hj]

/-- a slice whose cells are these bytes -/
structure ByteSlice (w : World) (v : Value) (l : List UInt8) : Prop where
  form : ∃ a c, v = .slice a l.length c ∧ (l ≠ [] → ∃ b o, a = some ⟨b, o, none⟩ ∧ ∀ j (h : j < l.length), w.cell? ⟨b, o + j, none⟩ = some (.int .u8 (l[j].toNat : Int)))
  len : l.length ≤ maxLen
theorem ByteSlice.ext {w w' : World} {v : Value} {l : List UInt8} (h : ByteSlice w v l) (e : Ext w w') : ByteSlice w' v l := by
  obtain ⟨a, c, hv, hl⟩ := h.form
  refine ⟨⟨a, c, hv, fun hne => ?_⟩, h.len⟩
  obtain ⟨b, o, ha, hc⟩ := hl hne
  exact ⟨b, o, ha, fun j hj => e.keep (hc j hj)⟩

theorem plain_addr {w : World} {a : Addr} {v : Value} (h : w.cell? (a.add 0) = some v) : a = ⟨a.block, a.off, none⟩ := by
  have e : a.add 0 = a := by simp [Addr.add]
  rw [e] at h
  have hs : a.spot = none := by
    unfold World.cell? at h
    cases hsp : a.spot with
    | none => rfl
    | some x => simp [hsp] at h; split at h <;> cases h
  cases a
  simp at hs
  subst hs
  rfl
theorem addr_add (b o j : Nat) : (⟨b, o, none⟩ : Addr).add j = ⟨b, o + j, none⟩ := by
  unfold Addr.add; split <;> simp_all

section
variable {H : Type} {enc : TypeId × Value → H} {P : Program} {W : World} {r : Reach} {b0 base : Nat} {held : Bool} {t e : TypeId} {v : Value} {d : DataW H} {p : List MemPlace}

theorem open_strsl (ht : P.underlying t = some (.slice e)) (he : P.underlying e = some .string) (hc : P.cellsOf e = 1) (hv : Value.okWide P W r b0 t v) (h : DataW.Trod enc P W base (fun _ => true) held t v d p) : ∃ l, StrSlice W v l := by
  obtain ⟨a0, len, cap, rfl⟩ := okWide_slice ht hv
  obtain ⟨fuel, hf⟩ := h
  rcases open_strings ht he hc hf with ⟨hcs, _⟩ | ⟨x, len', cap', ss, hcs, _, hl, hm, hz, _, hcell, hws⟩
  · simp [Value.cells] at hcs
    obtain ⟨rfl, rfl, rfl⟩ := hcs
    exact ⟨[], ⟨_, _, rfl, fun h => absurd rfl h⟩, by simp, by simp⟩
  · simp [Value.cells] at hcs
    obtain ⟨rfl, rfl, rfl⟩ := hcs
    simp only [if_true] at hz
    have hlen : (ss.take len).length = len := by rw [List.length_take, hz]; omega
    refine ⟨ss.take len, ⟨some x, cap, by rw [hlen], fun hne => ?_⟩, by rw [hlen]; omega, fun s hs => hws s (List.mem_of_mem_take hs)⟩
    have h0 : 0 < len := by
      rcases Nat.eq_zero_or_pos len with e | e
      · subst e; simp at hne
      · exact e
    have ex := plain_addr (hcell 0 (by omega))
    refine ⟨x.block, x.off, by rw [← ex], fun j hj => ?_⟩
    rw [hlen] at hj
    rw [← addr_add, ← ex, hcell j (by omega)]
    simp [List.getD, List.getElem?_eq_getElem (show j < ss.length by omega)]

theorem open_bytes (ht : P.underlying t = some (.slice e)) (he : P.underlying e = some (.int .u8)) (hc : P.cellsOf e = 1) (hv : Value.okWide P W r b0 t v) (h : DataW.Trod enc P W base (fun _ => true) held t v d p) : ∃ l, ByteSlice W v l := by
  obtain ⟨a0, len, cap, rfl⟩ := okWide_slice ht hv
  obtain ⟨fuel, hf⟩ := h
  rcases open_ints ht he hc hf with ⟨hcs, _⟩ | ⟨x, len', cap', zs, hcs, _, hl, hm, hz, _, hcell, hwz⟩
  · simp [Value.cells] at hcs
    obtain ⟨rfl, rfl, rfl⟩ := hcs
    exact ⟨[], ⟨_, _, rfl, fun h => absurd rfl h⟩, by simp⟩
  · simp [Value.cells] at hcs
    obtain ⟨rfl, rfl, rfl⟩ := hcs
    simp only [if_true] at hz
    have hlen : ((zs.take len).map fun n => UInt8.ofNat n.toNat).length = len := by rw [List.length_map, List.length_take, hz]; omega
    refine ⟨(zs.take len).map fun n => UInt8.ofNat n.toNat, ⟨some x, cap, by rw [hlen], fun hne => ?_⟩, by rw [hlen]; omega⟩
    have h0 : 0 < len := by
      rcases Nat.eq_zero_or_pos len with e | e
      · subst e; simp at hne
      · exact e
    have ex := plain_addr (hcell 0 (by omega))
    refine ⟨x.block, x.off, by rw [← ex], fun j hj => ?_⟩
    rw [hlen] at hj
    have hw := hwz (zs[j]'(by omega)) (List.getElem_mem _)
    have hb : 0 ≤ zs[j]'(by omega) ∧ zs[j]'(by omega) ≤ 255 := by simpa [Lit.wf, IntKind.min, IntKind.max, IntKind.signed, IntKind.bits] using hw
    rw [← addr_add, ← ex, hcell j (by omega)]
    simp only [List.getElem_map, List.getElem_take]
    simp [List.getD, List.getElem?_eq_getElem (show j < zs.length by omega)]
    omega
end
end Go.Proofs.YtnlmbmbalmkiiaaGreat
