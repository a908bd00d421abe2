/- Walk: tollerlaw17.EnterWrong. -/
import Derived.KernelRfl
import Derived.Test.YtknlojlcahgnoaaGreatG49
import Derived.Test.YtknlojlcahgnoaaGreatG40
import Derived.Test.YtknlojlcahgnoaaGreatG43

/- Walk: tollerlaw17.EnterWrong. -/
namespace Go.Proofs.YtknlojlcahgnoaaGreat
open Go.RowKit
attribute [local go_sem] Oper.semAt_some
set_option linter.unusedVariables false
set_option linter.unusedSimpArgs false

def ewR (k : Int) : Rl := ⟨⟨#[]⟩, 1000, 5, k⟩
theorem ew_rule {n : Int} : polR0 n = ewR 1 ∨ polR0 n = ewR 2 ∨ polR0 n = ewR 3 := by
  unfold polR0 ewR
  rcases (by omega : n % 3 = 0 ∨ n % 3 = 1 ∨ n % 3 = 2) with h | h | h <;> rw [h]
  · exact Or.inl rfl
  · exact Or.inr (Or.inl rfl)
  · exact Or.inr (Or.inr rfl)
theorem ew_c1 : cfgErr 1 [ewR 1] = 0 := by kernel_rfl
theorem ew_c2 : cfgErr 1 [ewR 2] = 0 := by kernel_rfl
theorem ew_c3 : cfgErr 1 [ewR 3] = 0 := by kernel_rfl
theorem ew_cfg {n : Int} : cfgErr 1 [polR0 n] = 0 := by
  rcases ew_rule (n := n) with h | h | h <;> rw [h]
  · exact ew_c1
  · exact ew_c2
  · exact ew_c3
theorem ew_d1 : rCap (bestD [ewR 1] ⟨#[97]⟩) = 5000 := by kernel_rfl
theorem ew_d2 : rCap (bestD [ewR 2] ⟨#[97]⟩) = 5000 := by kernel_rfl
theorem ew_d3 : rCap (bestD [ewR 3] ⟨#[97]⟩) = 5000 := by kernel_rfl
theorem ew_cap {n : Int} : rCap (bestD [polR0 n] ⟨#[97]⟩) = 5000 := by
  rcases ew_rule (n := n) with h | h | h <;> rw [h]
  · exact ew_d1
  · exact ew_d2
  · exact ew_d3
theorem ew_key : keyOk ⟨#[97]⟩ = true := by kernel_rfl
theorem ew_err {n c t : Int} : entErr c [polR0 n] ⟨⟨#[97]⟩, t⟩ = if satSub t c = 0 then 44 else if 5000 < satSub t c then 44 else 0 := by
  unfold entErr
  rw [ew_cap, ew_key, if_neg (by decide)]
theorem ew_one {n c t : Int} (hc : c ≤ 9223372036854775807) : entRight 1 c [polR0 n] [⟨⟨#[97]⟩, t⟩] = if satSub t c = 0 then 44 else if 5000 < satSub t c then 44 else 0 := by
  rw [← ew_err (n := n)]
  unfold entRight
  rw [if_neg (by simp [ew_cfg]), if_neg (by omega), if_neg (by simp), if_neg (by simp [sortedB])]
  by_cases q : entErr c [polR0 n] ⟨⟨#[97]⟩, t⟩ = 0 <;> simp [List.find?, q]
theorem ew_two {n c : Int} {a b : Ent} (hc : c ≤ 9223372036854775807) : entRight 1 c [polR0 n] [a, b] = 32 := entRight_many ew_cfg (by omega) (by simp)
theorem ew_big {n c : Int} (hc : 9223372036854775807 < c) : entRight 1 c [polR0 n] [] = 11 := entRight_big ew_cfg hc
theorem ents_one {w : World} {b : Nat} {k : ByteArray} {t : Int} {T : TypeId} (h : Blk w b #[.string k, .int .u64 t] T) : EntsAt w (.slice (some ⟨b, 0, none⟩) 1 1) [⟨k, t⟩] := by
  refine ⟨_, _, rfl, fun _ => ⟨b, 0, rfl, fun j hj i hi => ?_⟩⟩
  obtain rfl : j = 0 := by simp at hj; omega
  rw [h.cell]
  simp [Ent.cells]
theorem ents_two {w : World} {b : Nat} {k k' : ByteArray} {t t' : Int} {T : TypeId} (h : Blk w b #[.string k, .int .u64 t, .string k', .int .u64 t'] T) : EntsAt w (.slice (some ⟨b, 0, none⟩) 2 2) [⟨k, t⟩, ⟨k', t'⟩] := by
  refine ⟨_, _, rfl, fun _ => ⟨b, 0, rfl, fun j hj i hi => ?_⟩⟩
  rw [h.cell]
  rcases (by simp at hj; omega : j = 0 ∨ j = 1) with rfl | rfl <;> rcases (by omega : i = 0 ∨ i = 1) with rfl | rfl <;> simp [Ent.cells]

theorem rules_row {base : Nat} {w : World} {v : Value} {l : List Rl} (h : RuleRow base w v l) : RulesAt w v l := by
  obtain ⟨a, c, hv⟩ := h.size
  refine ⟨a, c, hv, fun hl => ?_⟩
  obtain ⟨b, c', hv', -, -, -⟩ := RowOf.cells (enc := Rl.cells) (k := 4) Rl.size4 h 0 (List.length_pos_iff.2 hl)
  rw [hv] at hv'
  cases hv'
  refine ⟨b, 0, rfl, fun j hj i hi => ?_⟩
  obtain ⟨b', c', hv', -, -, hq⟩ := RowOf.cells (enc := Rl.cells) (k := 4) Rl.size4 h j hj
  rw [hv] at hv'
  cases hv'
  rw [Nat.zero_add]
  exact hq i hi
theorem wrap_u {x : Int} (h0 : 0 ≤ x) (h1 : x < 18446744073709551616) : IntKind.u64.wrap x = x := by
  simp [IntKind.wrap, IntKind.signed, IntKind.bits]; omega
set_option maxHeartbeats 4000000 in
set_option maxRecDepth 100000 in
theorem law17_EnterWrong (n clk g : Int) (w : World) (hn0 : 0 ≤ n) (hn1 : n < 65536) (hc0 : 0 ≤ clk) (hc1 : clk < 18446744073709551616) (hg0 : 0 ≤ g) (hg1 : g < 4294967296) :
    Calls Tryz.prog 9 #[.int .u16 n, .int .u64 clk, .int .u32 g] w fun x w' => x = .returned (.bool true) ∧ Ext w w' := by
  have HP := Lib.hid (law12_Policy n (.slice none 0 0) [] w hn0 hn1 ⟨⟨none, 0, rfl, fun h => absurd rfl h⟩, by decide, fun d hd => by cases hd⟩)
  obtain ⟨c, hc⟩ : ∃ c, clk / 4 = c := ⟨_, rfl⟩
  obtain ⟨d, hd⟩ : ∃ d, clk / 2 = d := ⟨_, rfl⟩
  have hcb : 0 ≤ c ∧ c < 4611686018427387904 := by omega
  have hdb : 0 ≤ d ∧ d < 9223372036854775808 := by omega
  go_enter Tryz.func9, Tryz.ntmps9
  go_wp2_with fail
  refine HP.out.mono ?_
  rintro x w1 ⟨rv, rfl, hrow, hx1⟩
  have hrow' : RuleRow w.heap.size w1 rv [polR0 n] := hrow
  obtain ⟨ra, rc, hrv⟩ := hrow'.size
  have hrv2 : rv = .slice ra 1 rc := hrv
  subst hrv2
  have HROW := Lib.hid hrow'
  have bP := Blk.new w1 #[.int .i64 (1 + n % 50), .slice ra 1 rc] 28
  have cP := bP.cell
  clear hrow hrow' hrv HP
  have hrul : RulesAt w1 (.slice ra 1 rc) [polR0 n] := rules_row HROW.out
  have HB := Lib.hid bP
  clear bP
  go_upto_region 4 with fail
  have e1 : Ext w (w1.alloc (.cells #[.int .i64 1, .slice ra 1 rc] 28)) := hx1.alloc _
  have r1 : RulesAt (w1.alloc (.cells #[.int .i64 1, .slice ra 1 rc] 28)) (.slice ra 1 rc) [polR0 n] := hrul.ext Rl.size4 ((Ext.refl w1).alloc _)
  have b1 := Blk.new w1 #[.int .i64 1, .slice ra 1 rc] 28
  generalize w1.alloc (.cells #[.int .i64 1, .slice ra 1 rc] 28) = w2 at *
  generalize w1.heap.size = p1 at *
  have HE1 := Lib.hid e1
  have HR1 := Lib.hid r1
  have HB1 := Lib.hid b1
  clear cP HB HROW hrul hx1 e1 r1 b1
  have k1 : IntKind.u64.wrap (c + 5000) = c + 5000 := wrap_u (by omega) (by omega)
  go_upto_region 5 with fail
  have x3 : Ext w2 ((w2.alloc (.cells #[.string ⟨#[97]⟩, .int .u64 (c + 5000)] 80)).alloc (.cells #[.int .u64 c, .slice (some ⟨w2.heap.size, 0, none⟩) 1 1] 52)) := ((Ext.refl w2).alloc _).alloc _
  have a3 := (Blk.new w2 #[.string ⟨#[97]⟩, .int .u64 (c + 5000)] 80).alloc (.cells #[.int .u64 c, .slice (some ⟨w2.heap.size, 0, none⟩) 1 1] 52)
  have s3 := Blk.new' (w2.alloc (.cells #[.string ⟨#[97]⟩, .int .u64 (c + 5000)] 80)) #[.int .u64 c, .slice (some ⟨w2.heap.size, 0, none⟩) 1 1] 52 (b := w2.heap.size + 1) (by simp)
  generalize (w2.alloc (.cells #[.string ⟨#[97]⟩, .int .u64 (c + 5000)] 80)).alloc (.cells #[.int .u64 c, .slice (some ⟨w2.heap.size, 0, none⟩) 1 1] 52) = w3 at *
  generalize w2.heap.size = q3 at *
  have HX3 := Lib.hid x3
  have HA3 := Lib.hid a3
  have HS3 := Lib.hid s3
  clear x3 a3 s3
  have k2 : IntKind.u64.wrap (c + 1) = c + 1 := wrap_u (by omega) (by omega)
  go_upto_region 6 with fail
  have x4 : Ext w3 ((w3.alloc (.cells #[.string ⟨#[97]⟩, .int .u64 (c + 1), .string ⟨#[98]⟩, .int .u64 (c + 1)] 80)).alloc (.cells #[.int .u64 c, .slice (some ⟨w3.heap.size, 0, none⟩) 2 2] 52)) := ((Ext.refl w3).alloc _).alloc _
  have a4 := (Blk.new w3 #[.string ⟨#[97]⟩, .int .u64 (c + 1), .string ⟨#[98]⟩, .int .u64 (c + 1)] 80).alloc (.cells #[.int .u64 c, .slice (some ⟨w3.heap.size, 0, none⟩) 2 2] 52)
  have s4 := Blk.new' (w3.alloc (.cells #[.string ⟨#[97]⟩, .int .u64 (c + 1), .string ⟨#[98]⟩, .int .u64 (c + 1)] 80)) #[.int .u64 c, .slice (some ⟨w3.heap.size, 0, none⟩) 2 2] 52 (b := w3.heap.size + 1) (by simp)
  generalize (w3.alloc (.cells #[.string ⟨#[97]⟩, .int .u64 (c + 1), .string ⟨#[98]⟩, .int .u64 (c + 1)] 80)).alloc (.cells #[.int .u64 c, .slice (some ⟨w3.heap.size, 0, none⟩) 2 2] 52) = w4 at *
  generalize w3.heap.size = q4 at *
  have HX4 := Lib.hid x4
  have HA4 := Lib.hid a4
  have HS4 := Lib.hid s4
  clear x4 a4 s4
  have k3 : IntKind.u64.wrap (c + 5001) = c + 5001 := wrap_u (by omega) (by omega)
  have k4 : IntKind.u64.wrap g = g := wrap_u (by omega) (by omega)
  have k5 : IntKind.u64.wrap (c + 5001 + g) = c + 5001 + g := wrap_u (by omega) (by omega)
  go_upto_region 7 with fail
  have x5 : Ext w4 ((w4.alloc (.cells #[.string ⟨#[97]⟩, .int .u64 (c + 5001 + g)] 80)).alloc (.cells #[.int .u64 c, .slice (some ⟨w4.heap.size, 0, none⟩) 1 1] 52)) := ((Ext.refl w4).alloc _).alloc _
  have a5 := (Blk.new w4 #[.string ⟨#[97]⟩, .int .u64 (c + 5001 + g)] 80).alloc (.cells #[.int .u64 c, .slice (some ⟨w4.heap.size, 0, none⟩) 1 1] 52)
  have s5 := Blk.new' (w4.alloc (.cells #[.string ⟨#[97]⟩, .int .u64 (c + 5001 + g)] 80)) #[.int .u64 c, .slice (some ⟨w4.heap.size, 0, none⟩) 1 1] 52 (b := w4.heap.size + 1) (by simp)
  generalize (w4.alloc (.cells #[.string ⟨#[97]⟩, .int .u64 (c + 5001 + g)] 80)).alloc (.cells #[.int .u64 c, .slice (some ⟨w4.heap.size, 0, none⟩) 1 1] 52) = w5 at *
  generalize w4.heap.size = q5 at *
  have HX5 := Lib.hid x5
  have HA5 := Lib.hid a5
  have HS5 := Lib.hid s5
  clear x5 a5 s5
  have k6 : IntKind.u64.wrap (c + 1 - min c g) = c + 1 - min c g := wrap_u (by omega) (by omega)
  go_upto_region 8 with fail
  have x6 : Ext w5 ((w5.alloc (.cells #[.string ⟨#[97]⟩, .int .u64 (c + 1 - min c g)] 80)).alloc (.cells #[.int .u64 (c + 1), .slice (some ⟨w5.heap.size, 0, none⟩) 1 1] 52)) := ((Ext.refl w5).alloc _).alloc _
  have a6 := (Blk.new w5 #[.string ⟨#[97]⟩, .int .u64 (c + 1 - min c g)] 80).alloc (.cells #[.int .u64 (c + 1), .slice (some ⟨w5.heap.size, 0, none⟩) 1 1] 52)
  have s6 := Blk.new' (w5.alloc (.cells #[.string ⟨#[97]⟩, .int .u64 (c + 1 - min c g)] 80)) #[.int .u64 (c + 1), .slice (some ⟨w5.heap.size, 0, none⟩) 1 1] 52 (b := w5.heap.size + 1) (by simp)
  generalize (w5.alloc (.cells #[.string ⟨#[97]⟩, .int .u64 (c + 1 - min c g)] 80)).alloc (.cells #[.int .u64 (c + 1), .slice (some ⟨w5.heap.size, 0, none⟩) 1 1] 52) = w6 at *
  generalize w5.heap.size = q6 at *
  have HX6 := Lib.hid x6
  have HA6 := Lib.hid a6
  have HS6 := Lib.hid s6
  clear x6 a6 s6
  have k7 : IntKind.u64.wrap (9223372036854775808 + d) = 9223372036854775808 + d := wrap_u (by omega) (by omega)
  go_upto_region 9 with fail
  have x7 : Ext w6 (w6.alloc (.cells #[.int .u64 (9223372036854775808 + d), .slice none 0 0] 52)) := (Ext.refl w6).alloc _
  have s7 := Blk.new w6 #[.int .u64 (9223372036854775808 + d), .slice none 0 0] 52
  generalize w6.alloc (.cells #[.int .u64 (9223372036854775808 + d), .slice none 0 0] 52) = w7 at *
  generalize w6.heap.size = q7 at *
  have y7 : Ext w w7 := ((((HE1.out.trans HX3.out).trans HX4.out).trans HX5.out).trans HX6.out).trans x7
  have y2 : Ext w2 w7 := (((HX3.out.trans HX4.out).trans HX5.out).trans HX6.out).trans x7
  have y3 : Ext w3 w7 := ((HX4.out.trans HX5.out).trans HX6.out).trans x7
  have y4 : Ext w4 w7 := (HX5.out.trans HX6.out).trans x7
  have y5 : Ext w5 w7 := HX6.out.trans x7
  have HY := Lib.hid y7
  have HC := Lib.hid (fun (V : World) (e : Ext w7 V) => And.intro (HB1.out.ext (y2.trans e)).cell (And.intro (HS3.out.ext (y3.trans e)).cell (And.intro (HS4.out.ext (y4.trans e)).cell (And.intro (HS5.out.ext (y5.trans e)).cell (And.intro (HS6.out.ext (x7.trans e)).cell (s7.ext e).cell)))))
  have hro : ∀ r ∈ [polR0 n], RlOk r := by
    intro r hr
    obtain rfl := List.mem_singleton.1 hr
    exact polR0_ok hn0
  have hka : (⟨#[97]⟩ : ByteArray).size ≤ maxLen := by decide
  have hkb : (⟨#[98]⟩ : ByteArray).size ≤ maxLen := by decide
  have hcc : c ≤ 9223372036854775807 := by omega
  have hcc1 : c + 1 ≤ 9223372036854775807 := by omega
  have v3 : entRight 1 c [polR0 n] [⟨⟨#[97]⟩, c + 5000⟩] = 0 := by
    rw [ew_one hcc, satSub_le (by omega), if_neg (by omega), if_neg (by omega)]
  have v5 : entRight 1 c [polR0 n] [⟨⟨#[97]⟩, c + 5001 + g⟩] = 44 := by
    rw [ew_one hcc, satSub_le (by omega), if_neg (by omega), if_pos (by omega)]
  have v6 : entRight 1 (c + 1) [polR0 n] [⟨⟨#[97]⟩, c + 1 - min c g⟩] = 44 := by
    rw [ew_one hcc1, if_pos]
    unfold satSub
    split <;> omega
  have hR3 : ∀ V, Ext w7 V → Calls Tryz.prog 30 #[.agg #[.int .i64 1, .slice ra 1 rc], .agg #[.int .u64 c, .slice (some ⟨q3, 0, none⟩) 1 1]] V fun x w' => x = .returned (.int .u16 0) ∧ Ext V w' := fun V e => by
    have h := enter_Right 1 (.slice ra 1 rc) [polR0 n] c (.slice (some ⟨q3, 0, none⟩) 1 1) [⟨⟨#[97]⟩, c + 5000⟩] V (by decide) (by decide) (HR1.out.ext Rl.size4 (y2.trans e)) hro (by simp) (by omega) (by omega) (ents_one (HA3.out.ext (y3.trans e))) (fun x hx => by obtain rfl := List.mem_singleton.1 hx; exact ⟨hka, by dsimp only; omega, by dsimp only; omega⟩) (by simp)
    rwa [v3] at h
  have hR4 : ∀ V, Ext w7 V → Calls Tryz.prog 30 #[.agg #[.int .i64 1, .slice ra 1 rc], .agg #[.int .u64 c, .slice (some ⟨q4, 0, none⟩) 2 2]] V fun x w' => x = .returned (.int .u16 32) ∧ Ext V w' := fun V e => by
    have h := enter_Right 1 (.slice ra 1 rc) [polR0 n] c (.slice (some ⟨q4, 0, none⟩) 2 2) [⟨⟨#[97]⟩, c + 1⟩, ⟨⟨#[98]⟩, c + 1⟩] V (by decide) (by decide) (HR1.out.ext Rl.size4 (y2.trans e)) hro (by simp) (by omega) (by omega) (ents_two (HA4.out.ext (y4.trans e))) (fun x hx => by
      rcases List.mem_cons.1 hx with rfl | hx
      · exact ⟨hka, by dsimp only; omega, by dsimp only; omega⟩
      · obtain rfl := List.mem_singleton.1 hx
        exact ⟨hkb, by dsimp only; omega, by dsimp only; omega⟩) (by simp)
    rwa [ew_two hcc] at h
  have he5 : ∀ x ∈ [(⟨⟨#[97]⟩, c + 5001 + g⟩ : Ent)], EntOk x := fun x hx => by obtain rfl := List.mem_singleton.1 hx; exact ⟨hka, by dsimp only; omega, by dsimp only; omega⟩
  have hR5 : ∀ V, Ext w7 V → Calls Tryz.prog 30 #[.agg #[.int .i64 1, .slice ra 1 rc], .agg #[.int .u64 c, .slice (some ⟨q5, 0, none⟩) 1 1]] V fun x w' => x = .returned (.int .u16 44) ∧ Ext V w' := fun V e => by
    have h := enter_Right 1 (.slice ra 1 rc) [polR0 n] c (.slice (some ⟨q5, 0, none⟩) 1 1) [⟨⟨#[97]⟩, c + 5001 + g⟩] V (by decide) (by decide) (HR1.out.ext Rl.size4 (y2.trans e)) hro (by simp) (by omega) (by omega) (ents_one (HA5.out.ext (y5.trans e))) he5 (by simp)
    rwa [v5] at h
  have hR6 : ∀ V, Ext w7 V → Calls Tryz.prog 30 #[.agg #[.int .i64 1, .slice ra 1 rc], .agg #[.int .u64 (c + 1), .slice (some ⟨q6, 0, none⟩) 1 1]] V fun x w' => x = .returned (.int .u16 44) ∧ Ext V w' := fun V e => by
    have h := enter_Right 1 (.slice ra 1 rc) [polR0 n] (c + 1) (.slice (some ⟨q6, 0, none⟩) 1 1) [⟨⟨#[97]⟩, c + 1 - min c g⟩] V (by decide) (by decide) (HR1.out.ext Rl.size4 (y2.trans e)) hro (by simp) (by omega) (by omega) (ents_one (HA6.out.ext (x7.trans e))) (fun x hx => by obtain rfl := List.mem_singleton.1 hx; exact ⟨hka, by dsimp only; omega, by dsimp only; omega⟩) (by simp)
    rwa [v6] at h
  have hR7 : ∀ V, Ext w7 V → Calls Tryz.prog 30 #[.agg #[.int .i64 1, .slice ra 1 rc], .agg #[.int .u64 (9223372036854775808 + d), .slice none 0 0]] V fun x w' => x = .returned (.int .u16 11) ∧ Ext V w' := fun V e => by
    have h := enter_Right 1 (.slice ra 1 rc) [polR0 n] (9223372036854775808 + d) (.slice none 0 0) [] V (by decide) (by decide) (HR1.out.ext Rl.size4 (y2.trans e)) hro (by simp) (by omega) (by omega) (ElemsAt.nil _ _ _) (fun x hx => by cases hx) (by decide)
    rwa [ew_big (by omega)] at h
  have hEN : Calls Tryz.prog 29 #[.agg #[.int .i64 1, .slice ra 1 rc], .int .u64 0, .agg #[.int .u64 c, .slice (some ⟨q5, 0, none⟩) 1 1]] w7 fun x w' => x = .returned (.tuple #[.pointer none, .int .u16 44]) ∧ Ext w7 w' := by
    refine (enter_Enter 1 (.slice ra 1 rc) [polR0 n] 0 c (.slice (some ⟨q5, 0, none⟩) 1 1) [⟨⟨#[97]⟩, c + 5001 + g⟩] w7 (by decide) (by decide) (HR1.out.ext Rl.size4 y2) hro (by simp) (by decide) (by decide) (by omega) (by omega) (ents_one (HA5.out.ext y5)) he5 (by simp)).mono ?_
    rintro x w' (⟨h0, h1, h2⟩ | ⟨h0, -⟩)
    · rw [v5] at h1
      exact ⟨h1, h2⟩
    · rw [v5] at h0
      cases h0
  have H3 := Lib.hid hR3
  have H4 := Lib.hid hR4
  have H5 := Lib.hid hR5
  have H6 := Lib.hid hR6
  have H7 := Lib.hid hR7
  have HEN := Lib.hid hEN
  clear hR3 hR4 hR5 hR6 hR7 hEN he5 v3 v5 v6 hro hka hkb hcc hcc1 y7 y2 y3 y4 y5 x7 s7 HE1 HX3 HX4 HX5 HX6 HA3 HA4 HA5 HA6 HS3 HS4 HS5 HS6 HR1 HB1 k1 k2 k3 k4 k5 k6 k7
  obtain ⟨c1, c2, c3, c4, c5, c6⟩ := HC.out _ (Ext.refl _)
  go_wp2_with fail
  refine HEN.out.mono ?_
  rintro x w8 ⟨rfl, hx8⟩
  clear c1 c2 c3 c4 c5 c6
  go_wp2_with fail
  refine (law17_known w8).mono ?_
  rintro x w9 ⟨rfl, hx9⟩
  have z9 := hx8.trans hx9
  obtain ⟨c1, c2, c3, c4, c5, c6⟩ := HC.out _ z9
  go_wp2_with fail
  refine (H3.out _ z9).mono ?_
  rintro x w10 ⟨rfl, hx10⟩
  have z10 := z9.trans hx10
  clear c1 c2 c3 c4 c5 c6
  obtain ⟨c1, c2, c3, c4, c5, c6⟩ := HC.out _ z10
  go_wp2_with fail
  refine (H4.out _ z10).mono ?_
  rintro x w11 ⟨rfl, hx11⟩
  have z11 := z10.trans hx11
  clear c1 c2 c3 c4 c5 c6
  obtain ⟨c1, c2, c3, c4, c5, c6⟩ := HC.out _ z11
  go_wp2_with fail
  refine (H5.out _ z11).mono ?_
  rintro x w12 ⟨rfl, hx12⟩
  have z12 := z11.trans hx12
  clear c1 c2 c3 c4 c5 c6
  obtain ⟨c1, c2, c3, c4, c5, c6⟩ := HC.out _ z12
  go_wp2_with fail
  refine (H6.out _ z12).mono ?_
  rintro x w13 ⟨rfl, hx13⟩
  have z13 := z12.trans hx13
  clear c1 c2 c3 c4 c5 c6
  obtain ⟨c1, c2, c3, c4, c5, c6⟩ := HC.out _ z13
  go_wp2_with fail
  refine (H7.out _ z13).mono ?_
  rintro x w14 ⟨rfl, hx14⟩
  go_wp2
  go_ret
  exact ⟨rfl, HY.out.trans (z13.trans hx14)⟩
end Go.Proofs.YtknlojlcahgnoaaGreat
