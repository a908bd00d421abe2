/- Walks: enter.keys, what is wrong with an entry, slices.IndexFunc of entries, enter.Right. -/
import Derived.Test.YtknlojlcahgnoaaGreatG46
import Derived.Test.YtknlojlcahgnoaaGreatG29
import Derived.Test.YtknlojlcahgnoaaGreatG37
import Derived.Test.YtknlojlcahgnoaaGreatG8
import Derived.Test.YtknlojlcahgnoaaGreatG5

/- Walks: enter.keys, what is wrong with an entry, slices.IndexFunc of entries, enter.Right. -/
namespace Go.Proofs.YtknlojlcahgnoaaGreat
open Go.RowKit
set_option linter.unusedVariables false
set_option linter.unusedSimpArgs false

abbrev EntsAt (w : World) (v : Value) (l : List Ent) : Prop := ElemsAt Ent.cells 2 w v l
theorem Ent.size2 (e : Ent) : e.cells.size = 2 := rfl
def EntOk (e : Ent) : Prop := e.key.size ≤ maxLen ∧ 0 ≤ e.till ∧ e.till < 18446744073709551616
/-- the rule that counts for a key -/
def bestD (rs : List Rl) (k : ByteArray) : Rl := (bestR rs k.data.toList).getD rl0
def rCap (r : Rl) : Int := ruleCap r.p r.e r.b r.k
theorem findV_D (rs : List Rl) (k : ByteArray) : findV (bestR rs k.data.toList) = .tuple #[.agg (bestD rs k).cells, .bool (bestR rs k.data.toList).isSome] := by
  unfold findV bestD
  cases bestR rs k.data.toList <;> rfl
/-- what is wrong with an entry -/
def entErr (clock : Int) (rs : List Rl) (e : Ent) : Int :=
  if keyOk e.key = false then 12 else if satSub e.till clock = 0 then 44 else if rCap (bestD rs e.key) < satSub e.till clock then 44 else 0
/-- what is wrong with a snapshot -/
def entRight (most clock : Int) (rs : List Rl) (es : List Ent) : Int :=
  if cfgErr most rs ≠ 0 then cfgErr most rs else if 9223372036854775807 < clock then 11 else if most < es.length then 32 else
  if sortedB (es.map (·.key)) = false then 42 else match es.find? (fun e => decide (entErr clock rs e ≠ 0)) with
  | some e => entErr clock rs e
  | none => 0
theorem bestD_ok {rs : List Rl} (h : ∀ r ∈ rs, RlOk r) (k : ByteArray) : RlOk (bestD rs k) := by
  unfold bestD
  cases hb : bestR rs k.data.toList with
  | none => exact ⟨by decide, by decide, by decide, by decide, by decide, by decide, by decide⟩
  | some r => exact h r (firstAt_mem ((bestR_char _ rs).2 r hb).first).1

set_option maxHeartbeats 2000000 in
set_option maxRecDepth 100000 in
theorem enter_keys (v : Value) (es : List Ent) (w : World) (hv : EntsAt w v es) (hlen : es.length ≤ 1000000) :
    Calls Tryz.prog 72 #[v] w fun x w' => ∃ v', x = .returned v' ∧ PfxRow w.heap.size w' v' (es.map (·.key)) ∧ Ext w w' := by
  obtain ⟨a, c, rfl⟩ := hv.size
  have HV := Lib.hid hv
  have hml : (1000000 : Nat) + 1 ≤ maxLen := by decide
  obtain ⟨i0, hi, hz0, hz1, hz2⟩ := info_parts pfx_info
  have HI := Lib.hid (And.intro hi (And.intro hz0 (And.intro hz1 hz2)))
  clear hv hi hz0 hz1 hz2
  go_enter Tryz.func72, Tryz.ntmps72
  go_wp2
  go_loopw [3, 8] (fun o i wr => ∃ (k : Nat), k ≤ es.length ∧ i = .int .i64 k ∧ PfxRow w.heap.size wr o ((es.take k).map (·.key)) ∧ Ext w wr) (fun _ i _ => es.length - (intOf i).toNat)
  case atStart => exact ⟨0, by omega, rfl, RowOf.empty _ _ _ _ _, Ext.refl _⟩
  case round =>
    obtain ⟨k, hk, rfl, hrow, hx⟩ := hrel
    have HROW := Lib.hid hrow
    have hxs := Ext.sz hx
    have HX := Lib.hid hx
    clear hrow
    by_cases hlt : k < es.length
    · obtain ⟨b, o, rfl, hbl, hc⟩ := (HV.out.ext Ent.size2 hx).cells Ent.size2 (by decide) k hlt
      have c0 : wr.cell? ⟨b, o + k * 2, none⟩ = some (.string es[k].key) := hc 0 (by decide)
      have c1 : wr.cell? ⟨b, o + k * 2 + 1, none⟩ = some (.int .u64 es[k].till) := hc 1 (by decide)
      have htk : (es.take (k + 1)).map (·.key) = (es.take k).map (·.key) ++ [es[k].key] := by rw [List.take_succ_eq_append_getElem hlt, List.map_append]; rfl
      have htl : ((es.take k).map (·.key)).length ≤ k := by rw [List.length_map, List.length_take]; omega
      have HTL := Lib.hid htl
      obtain ⟨r, hr⟩ : ∃ r, es[k] = r := ⟨_, rfl⟩
      rw [hr] at c0 c1 htk
      have HTK := Lib.hid htk
      clear hc hr htk htl hx
      go_upto_region 5 with fail
      have bS : Blk (wr.alloc (.cells #[.string r.key, .int .u64 r.till] 80)) wr.heap.size r.cells 80 := Blk.new wr _ _
      have hxa : Ext wr (wr.alloc (.cells #[.string r.key, .int .u64 r.till] 80)) := (Ext.refl wr).alloc _
      generalize wr.alloc (.cells #[.string r.key, .int .u64 r.till] 80) = wa at *
      have s0 : wa.cell? ⟨wr.heap.size, 0, none⟩ = some (.string r.key) := bS.cell 0
      have HXA := Lib.hid hxa
      have hsa := Ext.sz hxa
      clear bS hxa c0 c1
      go_wp2_with (first
        | (at_builtin; refine wpList_append_own _ rfl (.tmp 12) (.tmp 15) 32 rfl w.heap.size 9 i0 (.string ⟨#[]⟩) 1 16 Tryz.underlying32 HI.out.1 HI.out.2.1 HI.out.2.2.1 HI.out.2.2.2 rfl (by decide) _ _ _ rfl ((own_ext HROW.out.own HXA.out).alloc _) ⟨wa.heap.size, 0, none⟩ 1 1 [.string r.key] rfl rfl (blk_news (C := #[.string r.key]) (Blk.new _ _ _)) (by simp [Value.oneCell']) (by have := HTL.out; omega) (by have := HTL.out; omega) (by simp; omega) ?_; rintro v' w4 hown hgrow -)
        | fail)
      have hx4 : Ext w w4 := Ext.grownAt ((HX.out.trans HXA.out).alloc _) ((own_ext HROW.out.own HXA.out).alloc _) (Nat.le_refl _) hgrow
      have hrow4 : PfxRow w.heap.size w4 v' ((es.take (k + 1)).map (·.key)) := pfxrow_more hown HTK.out
      clear hown hgrow
      go_wp2
      go_roundw
      case rel => exact ⟨k + 1, by omega, by go_num, hrow4, hx4⟩
      case measure => simp [intOf]; omega
    · have hkl : k = es.length := by omega
      have HK := Lib.hid hkl
      clear hkl
      go_wp2
      go_ret
      refine ⟨_, rfl, ?_, HX.out⟩
      have := HROW.out
      rwa [HK.out, List.take_of_length_le (Nat.le_refl _)] at this

/-- what the closures of enter.Right are bound to -/
structure WrongAt (w : World) (bt bs bf : Nat) (clock : Int) (rs : List Rl) : Prop where
  tree : ∃ lo root many ns, w.cell? ⟨bt, 0, none⟩ = some (.pointer (some ⟨root, 0, none⟩)) ∧ TreeAt w lo root many ns ∧ HoldsR ns rs
  clk : w.cell? ⟨bs, 0, none⟩ = some (.int .u64 clock)
  fn : w.cell? ⟨bf, 0, none⟩ = some (.func (.func 73) #[] #[.pointer (some ⟨bt, 0, none⟩), .pointer (some ⟨bs, 0, none⟩)])
theorem WrongAt.ext {w w' : World} {bt bs bf : Nat} {clock : Int} {rs : List Rl} (h : WrongAt w bt bs bf clock rs) (e : Ext w w') : WrongAt w' bt bs bf clock rs := by
  obtain ⟨⟨lo, root, many, ns, h1, h2, h3⟩, h4, h5⟩ := h
  exact ⟨⟨lo, root, many, ns, e.keep h1, h2.ext e, h3⟩, e.keep h4, e.keep h5⟩

theorem satSub_bnd {a b : Int} (ha : 0 ≤ a) (ha1 : a < 18446744073709551616) (hb : 0 ≤ b) : 0 ≤ satSub a b ∧ satSub a b < 18446744073709551616 := by unfold satSub; split <;> omega
set_option maxHeartbeats 2000000 in
set_option maxRecDepth 100000 in
theorem enter_wrong (bt bs bf : Nat) (clock : Int) (rs : List Rl) (e : Ent) (w : World) (h : WrongAt w bt bs bf clock rs) (hro : ∀ r ∈ rs, RlOk r) (he : EntOk e) (hn0 : 0 ≤ clock) (hn1 : clock < 18446744073709551616) :
    Calls Tryz.prog 73 #[.agg #[.string e.key, .int .u64 e.till], .pointer (some ⟨bt, 0, none⟩), .pointer (some ⟨bs, 0, none⟩)] w fun x w' => x = .returned (.int .u16 (entErr clock rs e)) ∧ Ext w w' := by
  obtain ⟨ky, till⟩ := e
  obtain ⟨⟨lo, root, many, ns, h1, h2, h3⟩, h4, h5⟩ := h
  obtain ⟨e1, e2, e3⟩ := he
  simp only at e1 e2 e3
  have hx0 : Ext w (w.alloc (.cells #[.string ky, .int .u64 till] 80)) := (Ext.refl w).alloc _
  have bE := Blk.new w #[.string ky, .int .u64 till] 80
  have HK := Lib.hid (fun W : World => key_Right ky W e1)
  by_cases hk : keyOk ky = false
  · have hE : entErr clock rs ⟨ky, till⟩ = 12 := if_pos hk
    rw [hE]
    rw [hk] at HK
    have cE := bE.cell
    have HX0 := Lib.hid hx0
    clear hk hE hx0 bE h2 h3
    go_enter Tryz.func73, Tryz.ntmps73
    go_wp2_with (first | (go_at_call 74; (refine (HK.out _).mono ?_); rintro ee w1 ⟨rfl, hx1⟩; have HX1 := Lib.hid hx1; clear hx1) | fail)
    go_ret
    exact ⟨rfl, HX0.out.trans HX1.out⟩
  have hk' : keyOk ky = true := by simpa using hk
  rw [hk'] at HK
  have hF := satSub_bnd (b := clock) e2 e3 hn0
  have hE : entErr clock rs ⟨ky, till⟩ = if satSub till clock = 0 then 44 else if rCap (bestD rs ky) < satSub till clock then 44 else 0 := if_neg hk
  have HS := Lib.hid (fun W : World => num_Sub till clock W e2 e3 hn0 hn1)
  have HFIND := Lib.hid (fun (W : World) (hx : Ext w W) => tree_Find lo root many ns rs ky W (h2.ext hx) h3 e1)
  have hbo := bestD_ok hro ky
  rw [findV_D] at HFIND
  rw [hE]
  generalize satSub till clock = F at *
  generalize hb : bestD rs ky = r at *
  generalize (bestR rs ky.data.toList).isSome = bo at *
  have hfind : ∀ (W : World), Ext w W → Calls Tryz.prog 67 #[.pointer (some ⟨root, 0, none⟩), .string ky] W fun x w' => x = .returned (.tuple #[.agg #[.string r.p, .int .u64 r.e, .int .u64 r.b, .int .u8 r.k], .bool bo]) ∧ Ext W w' := HFIND.out
  clear HFIND
  have HFIND := Lib.hid hfind
  clear hfind
  obtain ⟨o1, o2, o3, o4, o5, o6, o7⟩ := hbo
  have HC := Lib.hid (fun W : World => rule_Cap r.p r.e r.b r.k W o1 o2 o3 o4 o5)
  have hcu := ruleCap_u r.p r.e r.b r.k o2 o4
  have hcE : rCap r = ruleCap r.p r.e r.b r.k := rfl
  rw [hcE]
  generalize ruleCap r.p r.e r.b r.k = C at *
  have HX0 := Lib.hid hx0
  have h1' := hx0.keep h1
  have h4' := hx0.keep h4
  have cE := bE.cell
  have HT1 := Lib.hid h1'
  have HT4 := Lib.hid h4'
  have HBE := Lib.hid bE
  clear hk hk' hE hro hx0 h1 h2 h3 h4 h5 hb hcE h1' h4' cE bE
  obtain ⟨f1, f2⟩ := hF
  obtain ⟨g1, g2⟩ := hcu
  by_cases hF0 : F = 0
  · rw [if_pos hF0]
    subst hF0
    go_enter Tryz.func73, Tryz.ntmps73
    go_upto_region 4 with (first
      | (go_at_call 74; (refine (HK.out _).mono ?_); rintro ee w1 ⟨rfl, hx1⟩
         have t1 := hx1.keep HT1.out
         have bE1 := HBE.out.ext hx1
         have cE1 := bE1.cell
         have HBE1 := Lib.hid bE1
         have HX1 := Lib.hid (HX0.out.trans hx1)
         have HT41 := Lib.hid (hx1.keep HT4.out)
         clear hx1 bE1)
      | (go_at_call 67; (refine (HFIND.out _ HX1.out).mono ?_); rintro ee w2 ⟨rfl, hx2⟩
         have HX2 := Lib.hid (HX1.out.trans hx2)
         have HT42 := Lib.hid (hx2.keep HT41.out)
         have HBE2 := Lib.hid (HBE1.out.ext hx2)
         clear hx2)
      | fail)
    have bR := Blk.new w2 #[.string r.p, .int .u64 r.e, .int .u64 r.b, .int .u8 r.k] 37
    have hx3 : Ext w2 (w2.alloc (.cells #[.string r.p, .int .u64 r.e, .int .u64 r.b, .int .u8 r.k] 37)) := (Ext.refl w2).alloc _
    generalize w2.alloc (.cells #[.string r.p, .int .u64 r.e, .int .u64 r.b, .int .u8 r.k] 37) = w3 at *
    have cR0 : w3.cell? ⟨w2.heap.size, 0, none⟩ = some (.string r.p) := bR.cell 0
    have cR1 : w3.cell? ⟨w2.heap.size, 1, none⟩ = some (.int .u64 r.e) := bR.cell 1
    have cR2 : w3.cell? ⟨w2.heap.size, 2, none⟩ = some (.int .u64 r.b) := bR.cell 2
    have cR3 : w3.cell? ⟨w2.heap.size, 3, none⟩ = some (.int .u8 r.k) := bR.cell 3
    have cE3 := (HBE2.out.ext hx3).cell
    have t43 := hx3.keep HT42.out
    have HX3 := Lib.hid (HX2.out.trans hx3)
    clear bR hx3
    go_wp2_with (first
      | (go_at_call 75; (refine (HS.out _).mono ?_); rintro ee w4 ⟨rfl, rfl⟩)
      | (go_at_call 69; (refine (HC.out _).mono ?_); rintro ee w5 ⟨rfl, hx5⟩; have HX5 := Lib.hid hx5; clear hx5)
      | fail)
    go_ret
    exact ⟨rfl, HX3.out⟩
  · have q1 : (F == 0) = false := by simpa using hF0
    have q1' : ¬ F = 0 := hF0
    rw [if_neg hF0]
    by_cases hCF : C < F
    · have q2 : decide (F > C) = true := decide_eq_true hCF
      rw [if_pos hCF]
      clear hF0
      go_enter Tryz.func73, Tryz.ntmps73
      go_upto_region 4 with (first
        | (go_at_call 74; (refine (HK.out _).mono ?_); rintro ee w1 ⟨rfl, hx1⟩
           have t1 := hx1.keep HT1.out
           have bE1 := HBE.out.ext hx1
           have cE1 := bE1.cell
           have HBE1 := Lib.hid bE1
           have HX1 := Lib.hid (HX0.out.trans hx1)
           have HT41 := Lib.hid (hx1.keep HT4.out)
           clear hx1 bE1)
        | (go_at_call 67; (refine (HFIND.out _ HX1.out).mono ?_); rintro ee w2 ⟨rfl, hx2⟩
           have HX2 := Lib.hid (HX1.out.trans hx2)
           have HT42 := Lib.hid (hx2.keep HT41.out)
           have HBE2 := Lib.hid (HBE1.out.ext hx2)
           clear hx2)
        | fail)
      have bR := Blk.new w2 #[.string r.p, .int .u64 r.e, .int .u64 r.b, .int .u8 r.k] 37
      have hx3 : Ext w2 (w2.alloc (.cells #[.string r.p, .int .u64 r.e, .int .u64 r.b, .int .u8 r.k] 37)) := (Ext.refl w2).alloc _
      generalize w2.alloc (.cells #[.string r.p, .int .u64 r.e, .int .u64 r.b, .int .u8 r.k] 37) = w3 at *
      have cR0 : w3.cell? ⟨w2.heap.size, 0, none⟩ = some (.string r.p) := bR.cell 0
      have cR1 : w3.cell? ⟨w2.heap.size, 1, none⟩ = some (.int .u64 r.e) := bR.cell 1
      have cR2 : w3.cell? ⟨w2.heap.size, 2, none⟩ = some (.int .u64 r.b) := bR.cell 2
      have cR3 : w3.cell? ⟨w2.heap.size, 3, none⟩ = some (.int .u8 r.k) := bR.cell 3
      have cE3 := (HBE2.out.ext hx3).cell
      have t43 := hx3.keep HT42.out
      have HX3 := Lib.hid (HX2.out.trans hx3)
      clear bR hx3
      go_wp2_with (first
        | (go_at_call 75; (refine (HS.out _).mono ?_); rintro ee w4 ⟨rfl, rfl⟩)
        | (go_at_call 69; (refine (HC.out _).mono ?_); rintro ee w5 ⟨rfl, hx5⟩; have HX5 := Lib.hid hx5; clear hx5)
        | fail)
      go_ret
      exact ⟨rfl, HX3.out.trans HX5.out⟩
    · have q2 : decide (F > C) = false := decide_eq_false hCF
      rw [if_neg hCF]
      clear hF0
      go_enter Tryz.func73, Tryz.ntmps73
      go_upto_region 4 with (first
        | (go_at_call 74; (refine (HK.out _).mono ?_); rintro ee w1 ⟨rfl, hx1⟩
           have t1 := hx1.keep HT1.out
           have bE1 := HBE.out.ext hx1
           have cE1 := bE1.cell
           have HBE1 := Lib.hid bE1
           have HX1 := Lib.hid (HX0.out.trans hx1)
           have HT41 := Lib.hid (hx1.keep HT4.out)
           clear hx1 bE1)
        | (go_at_call 67; (refine (HFIND.out _ HX1.out).mono ?_); rintro ee w2 ⟨rfl, hx2⟩
           have HX2 := Lib.hid (HX1.out.trans hx2)
           have HT42 := Lib.hid (hx2.keep HT41.out)
           have HBE2 := Lib.hid (HBE1.out.ext hx2)
           clear hx2)
        | fail)
      have bR := Blk.new w2 #[.string r.p, .int .u64 r.e, .int .u64 r.b, .int .u8 r.k] 37
      have hx3 : Ext w2 (w2.alloc (.cells #[.string r.p, .int .u64 r.e, .int .u64 r.b, .int .u8 r.k] 37)) := (Ext.refl w2).alloc _
      generalize w2.alloc (.cells #[.string r.p, .int .u64 r.e, .int .u64 r.b, .int .u8 r.k] 37) = w3 at *
      have cR0 : w3.cell? ⟨w2.heap.size, 0, none⟩ = some (.string r.p) := bR.cell 0
      have cR1 : w3.cell? ⟨w2.heap.size, 1, none⟩ = some (.int .u64 r.e) := bR.cell 1
      have cR2 : w3.cell? ⟨w2.heap.size, 2, none⟩ = some (.int .u64 r.b) := bR.cell 2
      have cR3 : w3.cell? ⟨w2.heap.size, 3, none⟩ = some (.int .u8 r.k) := bR.cell 3
      have cE3 := (HBE2.out.ext hx3).cell
      have t43 := hx3.keep HT42.out
      have HX3 := Lib.hid (HX2.out.trans hx3)
      clear bR hx3
      go_wp2_with (first
        | (go_at_call 75; (refine (HS.out _).mono ?_); rintro ee w4 ⟨rfl, rfl⟩)
        | (go_at_call 69; (refine (HC.out _).mono ?_); rintro ee w5 ⟨rfl, hx5⟩; have HX5 := Lib.hid hx5; clear hx5)
        | fail)
      go_ret
      exact ⟨rfl, HX3.out.trans HX5.out⟩
end Go.Proofs.YtknlojlcahgnoaaGreat
