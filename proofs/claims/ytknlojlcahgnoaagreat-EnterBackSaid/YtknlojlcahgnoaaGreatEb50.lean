/- Walks: config.prefixes, config.Right. Walks: enter.keys, what is wrong with an entry, slices.IndexFunc of entries, enter.Right. -/
import Derived.Test.YtknlojlcahgnoaaGreatEb47
import Derived.Test.YtknlojlcahgnoaaGreatEb21
import Derived.Test.YtknlojlcahgnoaaGreatEb10
import Derived.Test.YtknlojlcahgnoaaGreatEb34
import Derived.Test.YtknlojlcahgnoaaGreatEb41
import Derived.Test.YtknlojlcahgnoaaGreatEb6

namespace Go.Proofs.YtknlojlcahgnoaaGreat
open Go.RowKit
set_option linter.unusedVariables false
set_option linter.unusedSimpArgs false

/-- texts in a row of the call's own -/
abbrev PfxRow (base : Nat) (w : World) (v : Value) (l : List ByteArray) : Prop := RowOf (fun k => #[.string k]) 1 9 base w v l
theorem pfxrow_more {base : Nat} {w : World} {v : Value} {l l' : List ByteArray} {s : ByteArray} (h : w.ownsRow base 9 1 v (l.length + 1) (flatE (fun k => #[Value.string k]) l ++ [.string s])) (e : l' = l ++ [s]) : PfxRow base w v l' := by
  subst e
  refine RowOf.mk' h (by simp) (flatE_snoc _ _ _).symm ?_
  obtain ⟨g, cap, rfl⟩ := ownsRow_succ h
  simp
theorem pfxrow_strs {base : Nat} {w : World} {v : Value} {l : List ByteArray} (h : PfxRow base w v l) (heach : ∀ s ∈ l, s.size ≤ maxLen) : StrSlice w v l := by
  obtain ⟨a, c, rfl⟩ := h.size
  refine ⟨⟨a, c, rfl, fun hne => ?_⟩, h.len, heach⟩
  have h0 : 0 < l.length := List.length_pos_iff.2 hne
  obtain ⟨b, c', hv, -, -, -⟩ := RowOf.cells (enc := fun k => #[Value.string k]) (k := 1) (fun _ => rfl) h 0 h0
  simp at hv
  refine ⟨b, 0, hv.1, fun j hj => ?_⟩
  obtain ⟨b', c'', hv', -, -, hc⟩ := RowOf.cells (enc := fun k => #[Value.string k]) (k := 1) (fun _ => rfl) h j hj
  simp at hv'
  have : b' = b := by
    have := hv.1.symm.trans hv'.1
    simp at this
    exact this.symm
  subst this
  have := hc 0 (by decide)
  simpa using this
theorem pfx_info : (Tryz.prog.info? 9).map (fun i => (i.zero, i.size, i.bytes)) = some (some (.string ⟨#[]⟩), 1, 16) := by kernel_rfl

set_option maxHeartbeats 2000000 in
set_option maxRecDepth 100000 in
theorem config_prefixes (v : Value) (rs : List Rl) (w : World) (hv : RulesAt w v rs) (hlen : rs.length ≤ 1000000) :
    Calls Tryz.prog 82 #[v] w fun x w' => ∃ v', x = .returned v' ∧ PfxRow w.heap.size w' v' (rs.map (·.p)) ∧ Ext w w' := by
  obtain ⟨a, c, rfl⟩ := hv.size
  have HV := Lib.hid hv
  have hml : (1000000 : Nat) + 1 ≤ maxLen := by decide
  obtain ⟨i0, hi, hz0, hz1, hz2⟩ := info_parts pfx_info
  have HI := Lib.hid (And.intro hi (And.intro hz0 (And.intro hz1 hz2)))
  clear hv hi hz0 hz1 hz2
  go_enter Tryz.func82, Tryz.ntmps82
  go_wp2
  go_loopw [3, 8] (fun o i wr => ∃ (k : Nat), k ≤ rs.length ∧ i = .int .i64 k ∧ PfxRow w.heap.size wr o ((rs.take k).map (·.p)) ∧ Ext w wr) (fun _ i _ => rs.length - (intOf i).toNat)
  case atStart => exact ⟨0, by omega, rfl, RowOf.empty _ _ _ _ _, Ext.refl _⟩
  case round =>
    obtain ⟨k, hk, rfl, hrow, hx⟩ := hrel
    have HROW := Lib.hid hrow
    have hxs := Ext.sz hx
    have HX := Lib.hid hx
    clear hrow
    by_cases hlt : k < rs.length
    · obtain ⟨b, o, rfl, hbl, hc⟩ := (HV.out.ext Rl.size4 hx).cells Rl.size4 (by decide) k hlt
      have c0 : wr.cell? ⟨b, o + k * 4, none⟩ = some (.string rs[k].p) := hc 0 (by decide)
      have c1 : wr.cell? ⟨b, o + k * 4 + 1, none⟩ = some (.int .u64 rs[k].e) := hc 1 (by decide)
      have c2 : wr.cell? ⟨b, o + k * 4 + 2, none⟩ = some (.int .u64 rs[k].b) := hc 2 (by decide)
      have c3 : wr.cell? ⟨b, o + k * 4 + 3, none⟩ = some (.int .u8 rs[k].k) := hc 3 (by decide)
      have htk : (rs.take (k + 1)).map (·.p) = (rs.take k).map (·.p) ++ [rs[k].p] := by rw [List.take_succ_eq_append_getElem hlt, List.map_append]; rfl
      have htl : ((rs.take k).map (·.p)).length ≤ k := by rw [List.length_map, List.length_take]; omega
      have HTL := Lib.hid htl
      obtain ⟨r, hr⟩ : ∃ r, rs[k] = r := ⟨_, rfl⟩
      rw [hr] at c0 c1 c2 c3 htk
      have HTK := Lib.hid htk
      clear hc hr htk htl hx
      go_upto_region 5 with fail
      have bS : Blk (wr.alloc (.cells #[.string r.p, .int .u64 r.e, .int .u64 r.b, .int .u8 r.k] 37)) wr.heap.size r.cells 37 := Blk.new wr _ _
      have hxa : Ext wr (wr.alloc (.cells #[.string r.p, .int .u64 r.e, .int .u64 r.b, .int .u8 r.k] 37)) := (Ext.refl wr).alloc _
      generalize wr.alloc (.cells #[.string r.p, .int .u64 r.e, .int .u64 r.b, .int .u8 r.k] 37) = wa at *
      have s0 : wa.cell? ⟨wr.heap.size, 0, none⟩ = some (.string r.p) := bS.cell 0
      have HXA := Lib.hid hxa
      have hsa := Ext.sz hxa
      clear bS hxa c0 c1 c2 c3
      go_wp2_with (first
        | (at_builtin; refine wpList_append_own _ rfl (.tmp 12) (.tmp 15) 32 rfl w.heap.size 9 i0 (.string ⟨#[]⟩) 1 16 Tryz.underlying32 HI.out.1 HI.out.2.1 HI.out.2.2.1 HI.out.2.2.2 rfl (by decide) _ _ _ rfl ((own_ext HROW.out.own HXA.out).alloc _) ⟨wa.heap.size, 0, none⟩ 1 1 [.string r.p] rfl rfl (blk_news (C := #[.string r.p]) (Blk.new _ _ _)) (by simp [Value.oneCell']) (by have := HTL.out; omega) (by have := HTL.out; omega) (by simp; omega) ?_; rintro v' w4 hown hgrow -)
        | fail)
      have hx4 : Ext w w4 := Ext.grownAt ((HX.out.trans HXA.out).alloc _) ((own_ext HROW.out.own HXA.out).alloc _) (Nat.le_refl _) hgrow
      have hrow4 : PfxRow w.heap.size w4 v' ((rs.take (k + 1)).map (·.p)) := pfxrow_more hown HTK.out
      clear hown hgrow
      go_wp2
      go_roundw
      case rel => exact ⟨k + 1, by omega, by go_num, hrow4, hx4⟩
      case measure => simp [intOf]; omega
    · have hkl : k = rs.length := by omega
      have HK := Lib.hid hkl
      clear hkl
      go_wp2
      go_ret
      refine ⟨_, rfl, ?_, HX.out⟩
      have := HROW.out
      rwa [HK.out, List.take_of_length_le (Nat.le_refl _)] at this

def rErr (r : Rl) : Int := ruleErr r.p r.e r.b r.k
/-- what is wrong with rules that are right each -/
def restL : List Rl → Int
  | [] => 31
  | r :: t => if r.p = ⟨#[]⟩ then (if sortedB ((r :: t).map (·.p)) = true then 0 else 28) else 31
def cfgRest (rs : List Rl) : Int := restL (ordL Rl.key rs)
/-- what is wrong with a policy -/
def cfgErr (most : Int) (rs : List Rl) : Int :=
  if most < 1 ∨ 1000000 < most then 29 else if 1000 < rs.length then 32 else
  match rs.find? (fun r => decide (rErr r ≠ 0)) with
  | some r => rErr r
  | none => cfgRest rs
theorem cfgErr_most {most : Int} {rs : List Rl} (h : most < 1 ∨ 1000000 < most) : cfgErr most rs = 29 := by unfold cfgErr; rw [if_pos h]
theorem cfgErr_many {most : Int} {rs : List Rl} (h : ¬ (most < 1 ∨ 1000000 < most)) (h2 : 1000 < rs.length) : cfgErr most rs = 32 := by unfold cfgErr; rw [if_neg h, if_pos h2]
theorem cfgErr_rule {most : Int} {rs : List Rl} (h : ¬ (most < 1 ∨ 1000000 < most)) (h2 : ¬ 1000 < rs.length) {k : Nat} (hk : k < rs.length) (h3 : ∀ r ∈ rs.take k, rErr r = 0) (h4 : rErr rs[k] ≠ 0) : cfgErr most rs = rErr rs[k] := by
  have e : rs.find? (fun r => decide (rErr r ≠ 0)) = some rs[k] := by
    rw [List.find?_eq_some_iff_getElem]
    refine ⟨by simpa using h4, k, hk, rfl, fun j hj => ?_⟩
    have := h3 rs[j] (List.mem_iff_getElem.2 ⟨j, by rw [List.length_take]; omega, by rw [List.getElem_take]⟩)
    simpa using this
  unfold cfgErr
  rw [if_neg h, if_neg h2, e]
theorem cfgErr_rest {most : Int} {rs : List Rl} (h : ¬ (most < 1 ∨ 1000000 < most)) (h2 : ¬ 1000 < rs.length) (h3 : ∀ r ∈ rs, rErr r = 0) : cfgErr most rs = cfgRest rs := by
  have e : rs.find? (fun r => decide (rErr r ≠ 0)) = none := by
    rw [List.find?_eq_none]
    intro r hr
    simpa using h3 r hr
  unfold cfgErr
  rw [if_neg h, if_neg h2, e]
theorem emp_of {p : ByteArray} (h : p.toList.isEmpty = true) : p = ⟨#[]⟩ := by
  have e : p.toList = p.data.toList := ByteArray.toList_eq p
  rw [e, List.isEmpty_iff] at h
  cases p with
  | mk d => congr 1; exact Array.toList_eq_nil_iff.1 h
theorem RulesAt.cells0 {w : World} {v : Value} {r : Rl} {t : List Rl} (h : RulesAt w v (r :: t)) : ∃ b o c, v = .slice (some ⟨b, o, none⟩) (t.length + 1) c ∧ b < w.heap.size ∧ w.cell? ⟨b, o, none⟩ = some (.string r.p) := by
  obtain ⟨a, c, rfl, hl⟩ := h
  obtain ⟨b, o, rfl, hc⟩ := hl (by simp)
  have h0 := hc 0 (by simp) 0 (by decide)
  simp [Rl.cells] at h0
  exact ⟨b, o, c, rfl, cell_lt h0, h0⟩
theorem pol_rules (W : World) (a0 a1 : Value) : (Instr.field 28 (.agg #[a0, a1]) 1).run Tryz.prog W = .ok a1 W := by kernel_rfl
set_option maxHeartbeats 2000000 in
set_option maxRecDepth 100000 in
theorem config_Right (most : Int) (v : Value) (rs : List Rl) (w : World) (hm0 : -9223372036854775808 ≤ most) (hm1 : most ≤ 9223372036854775807) (hv : RulesAt w v rs) (hro : ∀ r ∈ rs, RlOk r) (hlen : rs.length ≤ 1000000000) :
    Calls Tryz.prog 35 #[.agg #[.int .i64 most, v]] w fun x w' => x = .returned (.int .u16 (cfgErr most rs)) ∧ Ext w w' := by
  obtain ⟨a, c, rfl⟩ := hv.size
  have hx0 : Ext w (w.alloc (.cells #[.int .i64 most, .slice a rs.length c] 28)) := (Ext.refl w).alloc _
  have bP := Blk.new w #[.int .i64 most, .slice a rs.length c] 28
  have HV := Lib.hid (hv.ext Rl.size4 hx0)
  have HRO := Lib.hid hro
  have HLEN := Lib.hid hlen
  by_cases h1 : most < 1
  · have hE := cfgErr_most (rs := rs) (Or.inl h1)
    rw [hE]
    clear hE hv hro
    have h1d : decide (most < 1) = true := decide_eq_true h1
    have hx := Lib.hid hx0
    clear hx0
    have cP := bP.cell
    go_enter Tryz.func35, Tryz.ntmps35
    go_wp2
    go_ret
    exact ⟨rfl, hx.out⟩
  by_cases h2 : 1000000 < most
  · have hE := cfgErr_most (rs := rs) (Or.inr h2)
    rw [hE]
    clear hE hv hro
    have h1d : decide (most < 1) = false := decide_eq_false h1
    have h2d : decide (1000000 < most) = true := decide_eq_true h2
    have hx := Lib.hid hx0
    clear hx0
    have cP := bP.cell
    go_enter Tryz.func35, Tryz.ntmps35
    go_wp2
    go_ret
    exact ⟨rfl, hx.out⟩
  have h12 : ¬ (most < 1 ∨ 1000000 < most) := by omega
  have h1d : decide (most < 1) = false := decide_eq_false h1
  have h2d : decide (1000000 < most) = false := decide_eq_false h2
  by_cases h3 : 1000 < rs.length
  · have hE := cfgErr_many h12 h3
    rw [hE]
    clear hE hv hro h12
    have h3d : decide (1000 < rs.length) = true := decide_eq_true h3
    have h3z : (1000 : Int) < (rs.length : Int) := by omega
    have hx := Lib.hid hx0
    clear hx0
    have cP := bP.cell
    go_enter Tryz.func35, Tryz.ntmps35
    go_wp2
    go_ret
    exact ⟨rfl, hx.out⟩
  have h3d : decide (1000 < rs.length) = false := decide_eq_false h3
  have h3z : ¬ (1000 : Int) < (rs.length : Int) := by omega
  have H12 := Lib.hid h12
  have hpr := pol_rules
  have hX0 := Lib.hid hx0
  have cP := bP.cell
  have BP := Lib.hid bP
  clear hv hro h12 hx0 bP
  go_enter Tryz.func35, Tryz.ntmps35
  go_upto_region 1 with fail
  generalize w.alloc (.cells #[.int .i64 most, .slice a rs.length c] 28) = w0 at *
  go_wp2
  go_loopw [22] (fun i wr => ∃ (k : Nat), k ≤ rs.length ∧ i = .int .i64 k ∧ Hid (∀ r ∈ rs.take k, rErr r = 0) ∧ Ext w0 wr) (fun i _ => rs.length - (intOf i).toNat)
  case atStart => exact ⟨0, by omega, rfl, fun r hr => by simp at hr, Ext.refl _⟩
  case round =>
    obtain ⟨k, hk, rfl, HALL, hx⟩ := hrel
    have hxs := Ext.sz hx
    have HX := Lib.hid hx
    by_cases hlt : k < rs.length
    · obtain ⟨b, o, rfl, hbl, hc⟩ := (HV.out.ext Rl.size4 hx).cells Rl.size4 (by decide) k hlt
      have c0 : wr.cell? ⟨b, o + k * 4, none⟩ = some (.string rs[k].p) := hc 0 (by decide)
      have c1 : wr.cell? ⟨b, o + k * 4 + 1, none⟩ = some (.int .u64 rs[k].e) := hc 1 (by decide)
      have c2 : wr.cell? ⟨b, o + k * 4 + 2, none⟩ = some (.int .u64 rs[k].b) := hc 2 (by decide)
      have c3 : wr.cell? ⟨b, o + k * 4 + 3, none⟩ = some (.int .u8 rs[k].k) := hc 3 (by decide)
      have hok := HRO.out rs[k] (List.getElem_mem hlt)
      have hbad := fun h => cfgErr_rule H12.out h3 hlt HALL.out h
      have hgood : rErr rs[k] = 0 → ∀ r ∈ rs.take (k + 1), rErr r = 0 := fun h r hr => by
        rw [List.take_succ_eq_append_getElem hlt] at hr
        rcases List.mem_append.1 hr with hr | hr
        · exact HALL.out r hr
        · obtain rfl := List.mem_singleton.1 hr; exact h
      obtain ⟨r, hr⟩ : ∃ r, rs[k] = r := ⟨_, rfl⟩
      rw [hr] at c0 c1 c2 c3 hok hbad hgood
      have HBAD := Lib.hid hbad
      have HGOOD := Lib.hid hgood
      clear hc hr hx hbad hgood
      obtain ⟨o1, o2, o3, o4, o5, o6, o7⟩ := hok
      have HC := Lib.hid (fun W : World => rule_Right r.p r.e r.b r.k W o1 o2 o3 o4 o5)
      obtain ⟨E, hE⟩ : ∃ E, ruleErr r.p r.e r.b r.k = E := ⟨_, rfl⟩
      rw [show rErr r = E from hE] at HBAD HGOOD
      rw [hE] at HC
      go_upto_region 8 with fail
      have bS : Blk (wr.alloc (.cells #[.string r.p, .int .u64 r.e, .int .u64 r.b, .int .u8 r.k] 37)) wr.heap.size r.cells 37 := Blk.new wr _ _
      have hxa : Ext wr (wr.alloc (.cells #[.string r.p, .int .u64 r.e, .int .u64 r.b, .int .u8 r.k] 37)) := (Ext.refl wr).alloc _
      generalize wr.alloc (.cells #[.string r.p, .int .u64 r.e, .int .u64 r.b, .int .u8 r.k] 37) = wa at *
      have s0 : wa.cell? ⟨wr.heap.size, 0, none⟩ = some (.string r.p) := bS.cell 0
      have s1 : wa.cell? ⟨wr.heap.size, 1, none⟩ = some (.int .u64 r.e) := bS.cell 1
      have s2 : wa.cell? ⟨wr.heap.size, 2, none⟩ = some (.int .u64 r.b) := bS.cell 2
      have s3 : wa.cell? ⟨wr.heap.size, 3, none⟩ = some (.int .u8 r.k) := bS.cell 3
      have HXA := Lib.hid hxa
      clear bS hxa c0 c1 c2 c3 hE
      by_cases h0 : E = 0
      · have HG0 := Lib.hid (HGOOD.out h0)
        clear HGOOD HBAD
        subst h0
        go_wp2_with (first
          | (go_at_call 81; (refine (HC.out _).mono ?_); rintro ee w1 ⟨rfl, hx1⟩; have HX1 := Lib.hid hx1; clear hx1)
          | fail)
        go_roundw
        case rel => exact ⟨k + 1, by omega, by go_num, HG0.out, (HX.out.trans HXA.out).trans HX1.out⟩
        case measure => simp [intOf]; omega
      · have e1 : (E != 0) = true := by simpa using h0
        have e2 : (E == 0) = false := by simpa using h0
        go_wp2_with (first
          | (go_at_call 81; (refine (HC.out _).mono ?_); rintro ee w1 ⟨rfl, hx1⟩; have HX1 := Lib.hid hx1; clear hx1)
          | fail)
        go_ret
        exact ⟨ret_int (HBAD.out h0).symm, hX0.out.trans ((HX.out.trans HXA.out).trans HX1.out)⟩
    · have hkl : k = rs.length := by omega
      have hall : ∀ r ∈ rs, rErr r = 0 := by have := HALL.out; rwa [hkl, List.take_of_length_le (Nat.le_refl _)] at this
      have hR : cfgErr most rs = restL (ordL Rl.key rs) := cfgErr_rest H12.out h3 hall
      have cQ := (BP.out.ext hx).cell
      have HO := Lib.hid (config_Order most (.slice a rs.length c) rs wr (HV.out.ext Rl.size4 hx) HLEN.out)
      have hmem : ∀ x ∈ ordL Rl.key rs, RlOk x := fun x hx => HRO.out x ((ordL_perm rs).mem_iff.1 hx)
      have hll : (ordL Rl.key rs).length ≤ 1000000 := by rw [ordL_len]; omega
      clear hkl hall hx HALL
      generalize ordL Rl.key rs = L at *
      have HMEM := Lib.hid hmem
      have HLL := Lib.hid hll
      have HR := Lib.hid hR
      clear hmem hR
      cases L with
      | nil =>
        clear HMEM hll HLL
        go_wp2_with (first
          | (go_at_call 19; (refine HO.out.mono ?_); rintro ee w1 ⟨v', rfl, hown, hx1⟩
             obtain ⟨va, vc, rfl⟩ := hown.size
             have HX1 := Lib.hid hx1
             clear hown hx1)
          | fail)
        go_ret
        exact ⟨ret_int HR.out.symm, hX0.out.trans (HX.out.trans HX1.out)⟩
      | cons r t =>
        simp only [List.length_cons] at hll
        have ht0 : decide (t.length + 1 = 0) = false := by simp
        by_cases hp : r.p = ⟨#[]⟩
        · have hpe4 : r.p.toList.isEmpty = true := by rw [hp, ByteArray.toList_eq]; rfl
          have hpe5 : decide (r.p = ⟨#[]⟩) = true := by simpa using hp
          have HRE : Hid (cfgErr most rs = if sortedB ((r :: t).map (·.p)) = true then 0 else 28) := by show _ = _; rw [HR.out]; show (if r.p = ⟨#[]⟩ then _ else _) = _; rw [if_pos hp]
          have hstr : ∀ s ∈ (r :: t).map (·.p), s.size ≤ maxLen := fun s hs => by
            rw [List.mem_map] at hs
            obtain ⟨x, hx, rfl⟩ := hs
            exact (HMEM.out x hx).1
          have HSTR := Lib.hid hstr
          have hl2 : ((r :: t).map (·.p)).length ≤ 1000000 := by rw [List.length_map]; exact HLL.out
          have HL2 := Lib.hid hl2
          clear hstr hl2 hp HMEM HR
          have hpf : ∀ (v : Value) (w : World), RulesAt w v (r :: t) → Calls Tryz.prog 82 #[v] w fun x w' => ∃ v', x = .returned v' ∧ PfxRow w.heap.size w' v' ((r :: t).map (·.p)) ∧ Ext w w' := fun v w h => config_prefixes v (r :: t) w h HLL.out
          obtain ⟨PL, hPL⟩ : ∃ PL, (r :: t).map (·.p) = PL := ⟨_, rfl⟩
          rw [hPL] at hpf HSTR HL2 HRE
          obtain ⟨V, hV⟩ : ∃ V, sortedB PL = V := ⟨_, rfl⟩
          have hks : ∀ (v : Value) (w : World), StrSlice w v PL → Calls Tryz.prog 71 #[v] w fun x w' => x = .returned (.bool V) ∧ Ext w w' := fun v w h => by
            have := key_Sorted v PL w h HL2.out
            rwa [hV] at this
          rw [hV] at HRE
          have HPP := Lib.hid hpf
          have HKS := Lib.hid hks
          clear hV hPL hpf hks
          cases V with
          | true =>
            go_wp2_with (first
              | (go_at_call 19; (refine HO.out.mono ?_); rintro ee w1 ⟨v', rfl, hown, hx1⟩
                 obtain ⟨b, o, vc, rfl, hbl, hc⟩ := RulesAt.cells0 (RuleOwn.at hown)
                 have c0 : w1.cell? ⟨b, o, none⟩ = some (.string r.p) := hc
                 have HX1 := Lib.hid hx1
                 have HPF := Lib.hid (HPP.out (.slice (some ⟨b, o, none⟩) (t.length + 1) vc) w1 (RuleOwn.at hown))
                 clear hown hx1 hc)
              | (go_at_call 82; (refine HPF.out.mono ?_); rintro ee w2 ⟨v2, rfl, hrow, hx2⟩
                 obtain ⟨va2, vc2, rfl⟩ := hrow.size
                 have HX2 := Lib.hid hx2
                 have HSL := Lib.hid (HKS.out _ w2 (pfxrow_strs hrow HSTR.out))
                 clear hrow hx2)
              | (go_at_call 71; (refine HSL.out.mono ?_); rintro ee w3 ⟨rfl, hx3⟩
                 have HX3 := Lib.hid hx3
                 clear hx3)
              | fail)
            go_ret
            exact ⟨ret_int (by rw [HRE.out]; rfl), hX0.out.trans (HX.out.trans (HX1.out.trans (HX2.out.trans HX3.out)))⟩
          | false =>
            go_wp2_with (first
              | (go_at_call 19; (refine HO.out.mono ?_); rintro ee w1 ⟨v', rfl, hown, hx1⟩
                 obtain ⟨b, o, vc, rfl, hbl, hc⟩ := RulesAt.cells0 (RuleOwn.at hown)
                 have c0 : w1.cell? ⟨b, o, none⟩ = some (.string r.p) := hc
                 have HX1 := Lib.hid hx1
                 have HPF := Lib.hid (HPP.out (.slice (some ⟨b, o, none⟩) (t.length + 1) vc) w1 (RuleOwn.at hown))
                 clear hown hx1 hc)
              | (go_at_call 82; (refine HPF.out.mono ?_); rintro ee w2 ⟨v2, rfl, hrow, hx2⟩
                 obtain ⟨va2, vc2, rfl⟩ := hrow.size
                 have HX2 := Lib.hid hx2
                 have HSL := Lib.hid (HKS.out _ w2 (pfxrow_strs hrow HSTR.out))
                 clear hrow hx2)
              | (go_at_call 71; (refine HSL.out.mono ?_); rintro ee w3 ⟨rfl, hx3⟩
                 have HX3 := Lib.hid hx3
                 clear hx3)
              | fail)
            go_ret
            exact ⟨ret_int (by rw [HRE.out]; rfl), hX0.out.trans (HX.out.trans (HX1.out.trans (HX2.out.trans HX3.out)))⟩
        · have hpe2 : decide (r.p = ⟨#[]⟩) = false := by simpa using hp
          have hpe4 : r.p.toList.isEmpty = false := by
            by_cases q : r.p.toList.isEmpty = true
            · exact absurd (emp_of q) hp
            · simpa using q
          have HRE : Hid (cfgErr most rs = 31) := by show _ = _; rw [HR.out]; show (if r.p = ⟨#[]⟩ then _ else _) = _; rw [if_neg hp]
          clear hp HMEM HLL HR
          go_wp2_with (first
            | (go_at_call 19; (refine HO.out.mono ?_); rintro ee w1 ⟨v', rfl, hown, hx1⟩
               obtain ⟨b, o, vc, rfl, hbl, hc⟩ := RulesAt.cells0 (RuleOwn.at hown)
               have c0 : w1.cell? ⟨b, o, none⟩ = some (.string r.p) := hc
               have HX1 := Lib.hid hx1
               clear hown hx1 hc)
            | fail)
          go_ret
          exact ⟨ret_int HRE.out.symm, hX0.out.trans (HX.out.trans HX1.out)⟩
end Go.Proofs.YtknlojlcahgnoaaGreat

namespace Go.Proofs.YtknlojlcahgnoaaGreat
open Go.RowKit
set_option linter.unusedVariables false
set_option linter.unusedSimpArgs false

abbrev EntsAt (w : World) (v : Value) (l : List Ent) : Prop := ElemsAt Ent.cells 2 w v l
theorem Ent.size2 (e : Ent) : e.cells.size = 2 := rfl
def EntOk (e : Ent) : Prop := e.key.size ≤ maxLen ∧ 0 ≤ e.till ∧ e.till < 18446744073709551616
/-- the rule that counts for a key -/
def bestD (rs : List Rl) (k : ByteArray) : Rl := (bestR rs k.data.toList).getD rl0
def rCap (r : Rl) : Int := ruleCap r.p r.e r.b r.k
theorem findV_D (rs : List Rl) (k : ByteArray) : findV (bestR rs k.data.toList) = .tuple #[.agg (bestD rs k).cells, .bool (bestR rs k.data.toList).isSome] := by
  unfold findV bestD
  cases bestR rs k.data.toList <;> rfl
/-- what is wrong with an entry -/
def entErr (clock : Int) (rs : List Rl) (e : Ent) : Int :=
  if keyOk e.key = false then 12 else if satSub e.till clock = 0 then 44 else if rCap (bestD rs e.key) < satSub e.till clock then 44 else 0
/-- what is wrong with a snapshot -/
def entRight (most clock : Int) (rs : List Rl) (es : List Ent) : Int :=
  if cfgErr most rs ≠ 0 then cfgErr most rs else if 9223372036854775807 < clock then 11 else if most < es.length then 32 else
  if sortedB (es.map (·.key)) = false then 42 else match es.find? (fun e => decide (entErr clock rs e ≠ 0)) with
  | some e => entErr clock rs e
  | none => 0
theorem bestD_ok {rs : List Rl} (h : ∀ r ∈ rs, RlOk r) (k : ByteArray) : RlOk (bestD rs k) := by
  unfold bestD
  cases hb : bestR rs k.data.toList with
  | none => exact ⟨by decide, by decide, by decide, by decide, by decide, by decide, by decide⟩
  | some r => exact h r (firstAt_mem ((bestR_char _ rs).2 r hb).first).1

set_option maxHeartbeats 2000000 in
set_option maxRecDepth 100000 in
theorem enter_keys (v : Value) (es : List Ent) (w : World) (hv : EntsAt w v es) (hlen : es.length ≤ 1000000) :
    Calls Tryz.prog 72 #[v] w fun x w' => ∃ v', x = .returned v' ∧ PfxRow w.heap.size w' v' (es.map (·.key)) ∧ Ext w w' := by
  obtain ⟨a, c, rfl⟩ := hv.size
  have HV := Lib.hid hv
  have hml : (1000000 : Nat) + 1 ≤ maxLen := by decide
  obtain ⟨i0, hi, hz0, hz1, hz2⟩ := info_parts pfx_info
  have HI := Lib.hid (And.intro hi (And.intro hz0 (And.intro hz1 hz2)))
  clear hv hi hz0 hz1 hz2
  go_enter Tryz.func72, Tryz.ntmps72
  go_wp2
  go_loopw [3, 8] (fun o i wr => ∃ (k : Nat), k ≤ es.length ∧ i = .int .i64 k ∧ PfxRow w.heap.size wr o ((es.take k).map (·.key)) ∧ Ext w wr) (fun _ i _ => es.length - (intOf i).toNat)
  case atStart => exact ⟨0, by omega, rfl, RowOf.empty _ _ _ _ _, Ext.refl _⟩
  case round =>
    obtain ⟨k, hk, rfl, hrow, hx⟩ := hrel
    have HROW := Lib.hid hrow
    have hxs := Ext.sz hx
    have HX := Lib.hid hx
    clear hrow
    by_cases hlt : k < es.length
    · obtain ⟨b, o, rfl, hbl, hc⟩ := (HV.out.ext Ent.size2 hx).cells Ent.size2 (by decide) k hlt
      have c0 : wr.cell? ⟨b, o + k * 2, none⟩ = some (.string es[k].key) := hc 0 (by decide)
      have c1 : wr.cell? ⟨b, o + k * 2 + 1, none⟩ = some (.int .u64 es[k].till) := hc 1 (by decide)
      have htk : (es.take (k + 1)).map (·.key) = (es.take k).map (·.key) ++ [es[k].key] := by rw [List.take_succ_eq_append_getElem hlt, List.map_append]; rfl
      have htl : ((es.take k).map (·.key)).length ≤ k := by rw [List.length_map, List.length_take]; omega
      have HTL := Lib.hid htl
      obtain ⟨r, hr⟩ : ∃ r, es[k] = r := ⟨_, rfl⟩
      rw [hr] at c0 c1 htk
      have HTK := Lib.hid htk
      clear hc hr htk htl hx
      go_upto_region 5 with fail
      have bS : Blk (wr.alloc (.cells #[.string r.key, .int .u64 r.till] 80)) wr.heap.size r.cells 80 := Blk.new wr _ _
      have hxa : Ext wr (wr.alloc (.cells #[.string r.key, .int .u64 r.till] 80)) := (Ext.refl wr).alloc _
      generalize wr.alloc (.cells #[.string r.key, .int .u64 r.till] 80) = wa at *
      have s0 : wa.cell? ⟨wr.heap.size, 0, none⟩ = some (.string r.key) := bS.cell 0
      have HXA := Lib.hid hxa
      have hsa := Ext.sz hxa
      clear bS hxa c0 c1
      go_wp2_with (first
        | (at_builtin; refine wpList_append_own _ rfl (.tmp 12) (.tmp 15) 32 rfl w.heap.size 9 i0 (.string ⟨#[]⟩) 1 16 Tryz.underlying32 HI.out.1 HI.out.2.1 HI.out.2.2.1 HI.out.2.2.2 rfl (by decide) _ _ _ rfl ((own_ext HROW.out.own HXA.out).alloc _) ⟨wa.heap.size, 0, none⟩ 1 1 [.string r.key] rfl rfl (blk_news (C := #[.string r.key]) (Blk.new _ _ _)) (by simp [Value.oneCell']) (by have := HTL.out; omega) (by have := HTL.out; omega) (by simp; omega) ?_; rintro v' w4 hown hgrow -)
        | fail)
      have hx4 : Ext w w4 := Ext.grownAt ((HX.out.trans HXA.out).alloc _) ((own_ext HROW.out.own HXA.out).alloc _) (Nat.le_refl _) hgrow
      have hrow4 : PfxRow w.heap.size w4 v' ((es.take (k + 1)).map (·.key)) := pfxrow_more hown HTK.out
      clear hown hgrow
      go_wp2
      go_roundw
      case rel => exact ⟨k + 1, by omega, by go_num, hrow4, hx4⟩
      case measure => simp [intOf]; omega
    · have hkl : k = es.length := by omega
      have HK := Lib.hid hkl
      clear hkl
      go_wp2
      go_ret
      refine ⟨_, rfl, ?_, HX.out⟩
      have := HROW.out
      rwa [HK.out, List.take_of_length_le (Nat.le_refl _)] at this

/-- what the closures of enter.Right are bound to -/
structure WrongAt (w : World) (bt bs bf : Nat) (clock : Int) (rs : List Rl) : Prop where
  tree : ∃ lo root many ns, w.cell? ⟨bt, 0, none⟩ = some (.pointer (some ⟨root, 0, none⟩)) ∧ TreeAt w lo root many ns ∧ HoldsR ns rs
  clk : w.cell? ⟨bs, 0, none⟩ = some (.int .u64 clock)
  fn : w.cell? ⟨bf, 0, none⟩ = some (.func (.func 73) #[] #[.pointer (some ⟨bt, 0, none⟩), .pointer (some ⟨bs, 0, none⟩)])
theorem WrongAt.ext {w w' : World} {bt bs bf : Nat} {clock : Int} {rs : List Rl} (h : WrongAt w bt bs bf clock rs) (e : Ext w w') : WrongAt w' bt bs bf clock rs := by
  obtain ⟨⟨lo, root, many, ns, h1, h2, h3⟩, h4, h5⟩ := h
  exact ⟨⟨lo, root, many, ns, e.keep h1, h2.ext e, h3⟩, e.keep h4, e.keep h5⟩

theorem satSub_bnd {a b : Int} (ha : 0 ≤ a) (ha1 : a < 18446744073709551616) (hb : 0 ≤ b) : 0 ≤ satSub a b ∧ satSub a b < 18446744073709551616 := by unfold satSub; split <;> omega
set_option maxHeartbeats 2000000 in
set_option maxRecDepth 100000 in
theorem enter_wrong (bt bs bf : Nat) (clock : Int) (rs : List Rl) (e : Ent) (w : World) (h : WrongAt w bt bs bf clock rs) (hro : ∀ r ∈ rs, RlOk r) (he : EntOk e) (hn0 : 0 ≤ clock) (hn1 : clock < 18446744073709551616) :
    Calls Tryz.prog 73 #[.agg #[.string e.key, .int .u64 e.till], .pointer (some ⟨bt, 0, none⟩), .pointer (some ⟨bs, 0, none⟩)] w fun x w' => x = .returned (.int .u16 (entErr clock rs e)) ∧ Ext w w' := by
  obtain ⟨ky, till⟩ := e
  obtain ⟨⟨lo, root, many, ns, h1, h2, h3⟩, h4, h5⟩ := h
  obtain ⟨e1, e2, e3⟩ := he
  simp only at e1 e2 e3
  have hx0 : Ext w (w.alloc (.cells #[.string ky, .int .u64 till] 80)) := (Ext.refl w).alloc _
  have bE := Blk.new w #[.string ky, .int .u64 till] 80
  have HK := Lib.hid (fun W : World => key_Right ky W e1)
  by_cases hk : keyOk ky = false
  · have hE : entErr clock rs ⟨ky, till⟩ = 12 := if_pos hk
    rw [hE]
    rw [hk] at HK
    have cE := bE.cell
    have HX0 := Lib.hid hx0
    clear hk hE hx0 bE h2 h3
    go_enter Tryz.func73, Tryz.ntmps73
    go_wp2_with (first | (go_at_call 74; (refine (HK.out _).mono ?_); rintro ee w1 ⟨rfl, hx1⟩; have HX1 := Lib.hid hx1; clear hx1) | fail)
    go_ret
    exact ⟨rfl, HX0.out.trans HX1.out⟩
  have hk' : keyOk ky = true := by simpa using hk
  rw [hk'] at HK
  have hF := satSub_bnd (b := clock) e2 e3 hn0
  have hE : entErr clock rs ⟨ky, till⟩ = if satSub till clock = 0 then 44 else if rCap (bestD rs ky) < satSub till clock then 44 else 0 := if_neg hk
  have HS := Lib.hid (fun W : World => num_Sub till clock W e2 e3 hn0 hn1)
  have HFIND := Lib.hid (fun (W : World) (hx : Ext w W) => tree_Find lo root many ns rs ky W (h2.ext hx) h3 e1)
  have hbo := bestD_ok hro ky
  rw [findV_D] at HFIND
  rw [hE]
  generalize satSub till clock = F at *
  generalize hb : bestD rs ky = r at *
  generalize (bestR rs ky.data.toList).isSome = bo at *
  have hfind : ∀ (W : World), Ext w W → Calls Tryz.prog 67 #[.pointer (some ⟨root, 0, none⟩), .string ky] W fun x w' => x = .returned (.tuple #[.agg #[.string r.p, .int .u64 r.e, .int .u64 r.b, .int .u8 r.k], .bool bo]) ∧ Ext W w' := HFIND.out
  clear HFIND
  have HFIND := Lib.hid hfind
  clear hfind
  obtain ⟨o1, o2, o3, o4, o5, o6, o7⟩ := hbo
  have HC := Lib.hid (fun W : World => rule_Cap r.p r.e r.b r.k W o1 o2 o3 o4 o5)
  have hcu := ruleCap_u r.p r.e r.b r.k o2 o4
  have hcE : rCap r = ruleCap r.p r.e r.b r.k := rfl
  rw [hcE]
  generalize ruleCap r.p r.e r.b r.k = C at *
  have HX0 := Lib.hid hx0
  have h1' := hx0.keep h1
  have h4' := hx0.keep h4
  have cE := bE.cell
  have HT1 := Lib.hid h1'
  have HT4 := Lib.hid h4'
  have HBE := Lib.hid bE
  clear hk hk' hE hro hx0 h1 h2 h3 h4 h5 hb hcE h1' h4' cE bE
  obtain ⟨f1, f2⟩ := hF
  obtain ⟨g1, g2⟩ := hcu
  by_cases hF0 : F = 0
  · rw [if_pos hF0]
    subst hF0
    go_enter Tryz.func73, Tryz.ntmps73
    go_upto_region 4 with (first
      | (go_at_call 74; (refine (HK.out _).mono ?_); rintro ee w1 ⟨rfl, hx1⟩
         have t1 := hx1.keep HT1.out
         have bE1 := HBE.out.ext hx1
         have cE1 := bE1.cell
         have HBE1 := Lib.hid bE1
         have HX1 := Lib.hid (HX0.out.trans hx1)
         have HT41 := Lib.hid (hx1.keep HT4.out)
         clear hx1 bE1)
      | (go_at_call 67; (refine (HFIND.out _ HX1.out).mono ?_); rintro ee w2 ⟨rfl, hx2⟩
         have HX2 := Lib.hid (HX1.out.trans hx2)
         have HT42 := Lib.hid (hx2.keep HT41.out)
         have HBE2 := Lib.hid (HBE1.out.ext hx2)
         clear hx2)
      | fail)
    have bR := Blk.new w2 #[.string r.p, .int .u64 r.e, .int .u64 r.b, .int .u8 r.k] 37
    have hx3 : Ext w2 (w2.alloc (.cells #[.string r.p, .int .u64 r.e, .int .u64 r.b, .int .u8 r.k] 37)) := (Ext.refl w2).alloc _
    generalize w2.alloc (.cells #[.string r.p, .int .u64 r.e, .int .u64 r.b, .int .u8 r.k] 37) = w3 at *
    have cR0 : w3.cell? ⟨w2.heap.size, 0, none⟩ = some (.string r.p) := bR.cell 0
    have cR1 : w3.cell? ⟨w2.heap.size, 1, none⟩ = some (.int .u64 r.e) := bR.cell 1
    have cR2 : w3.cell? ⟨w2.heap.size, 2, none⟩ = some (.int .u64 r.b) := bR.cell 2
    have cR3 : w3.cell? ⟨w2.heap.size, 3, none⟩ = some (.int .u8 r.k) := bR.cell 3
    have cE3 := (HBE2.out.ext hx3).cell
    have t43 := hx3.keep HT42.out
    have HX3 := Lib.hid (HX2.out.trans hx3)
    clear bR hx3
    go_wp2_with (first
      | (go_at_call 75; (refine (HS.out _).mono ?_); rintro ee w4 ⟨rfl, rfl⟩)
      | (go_at_call 69; (refine (HC.out _).mono ?_); rintro ee w5 ⟨rfl, hx5⟩; have HX5 := Lib.hid hx5; clear hx5)
      | fail)
    go_ret
    exact ⟨rfl, HX3.out⟩
  · have q1 : (F == 0) = false := by simpa using hF0
    have q1' : ¬ F = 0 := hF0
    rw [if_neg hF0]
    by_cases hCF : C < F
    · have q2 : decide (F > C) = true := decide_eq_true hCF
      rw [if_pos hCF]
      clear hF0
      go_enter Tryz.func73, Tryz.ntmps73
      go_upto_region 4 with (first
        | (go_at_call 74; (refine (HK.out _).mono ?_); rintro ee w1 ⟨rfl, hx1⟩
           have t1 := hx1.keep HT1.out
           have bE1 := HBE.out.ext hx1
           have cE1 := bE1.cell
           have HBE1 := Lib.hid bE1
           have HX1 := Lib.hid (HX0.out.trans hx1)
           have HT41 := Lib.hid (hx1.keep HT4.out)
           clear hx1 bE1)
        | (go_at_call 67; (refine (HFIND.out _ HX1.out).mono ?_); rintro ee w2 ⟨rfl, hx2⟩
           have HX2 := Lib.hid (HX1.out.trans hx2)
           have HT42 := Lib.hid (hx2.keep HT41.out)
           have HBE2 := Lib.hid (HBE1.out.ext hx2)
           clear hx2)
        | fail)
      have bR := Blk.new w2 #[.string r.p, .int .u64 r.e, .int .u64 r.b, .int .u8 r.k] 37
      have hx3 : Ext w2 (w2.alloc (.cells #[.string r.p, .int .u64 r.e, .int .u64 r.b, .int .u8 r.k] 37)) := (Ext.refl w2).alloc _
      generalize w2.alloc (.cells #[.string r.p, .int .u64 r.e, .int .u64 r.b, .int .u8 r.k] 37) = w3 at *
      have cR0 : w3.cell? ⟨w2.heap.size, 0, none⟩ = some (.string r.p) := bR.cell 0
      have cR1 : w3.cell? ⟨w2.heap.size, 1, none⟩ = some (.int .u64 r.e) := bR.cell 1
      have cR2 : w3.cell? ⟨w2.heap.size, 2, none⟩ = some (.int .u64 r.b) := bR.cell 2
      have cR3 : w3.cell? ⟨w2.heap.size, 3, none⟩ = some (.int .u8 r.k) := bR.cell 3
      have cE3 := (HBE2.out.ext hx3).cell
      have t43 := hx3.keep HT42.out
      have HX3 := Lib.hid (HX2.out.trans hx3)
      clear bR hx3
      go_wp2_with (first
        | (go_at_call 75; (refine (HS.out _).mono ?_); rintro ee w4 ⟨rfl, rfl⟩)
        | (go_at_call 69; (refine (HC.out _).mono ?_); rintro ee w5 ⟨rfl, hx5⟩; have HX5 := Lib.hid hx5; clear hx5)
        | fail)
      go_ret
      exact ⟨rfl, HX3.out.trans HX5.out⟩
    · have q2 : decide (F > C) = false := decide_eq_false hCF
      rw [if_neg hCF]
      clear hF0
      go_enter Tryz.func73, Tryz.ntmps73
      go_upto_region 4 with (first
        | (go_at_call 74; (refine (HK.out _).mono ?_); rintro ee w1 ⟨rfl, hx1⟩
           have t1 := hx1.keep HT1.out
           have bE1 := HBE.out.ext hx1
           have cE1 := bE1.cell
           have HBE1 := Lib.hid bE1
           have HX1 := Lib.hid (HX0.out.trans hx1)
           have HT41 := Lib.hid (hx1.keep HT4.out)
           clear hx1 bE1)
        | (go_at_call 67; (refine (HFIND.out _ HX1.out).mono ?_); rintro ee w2 ⟨rfl, hx2⟩
           have HX2 := Lib.hid (HX1.out.trans hx2)
           have HT42 := Lib.hid (hx2.keep HT41.out)
           have HBE2 := Lib.hid (HBE1.out.ext hx2)
           clear hx2)
        | fail)
      have bR := Blk.new w2 #[.string r.p, .int .u64 r.e, .int .u64 r.b, .int .u8 r.k] 37
      have hx3 : Ext w2 (w2.alloc (.cells #[.string r.p, .int .u64 r.e, .int .u64 r.b, .int .u8 r.k] 37)) := (Ext.refl w2).alloc _
      generalize w2.alloc (.cells #[.string r.p, .int .u64 r.e, .int .u64 r.b, .int .u8 r.k] 37) = w3 at *
      have cR0 : w3.cell? ⟨w2.heap.size, 0, none⟩ = some (.string r.p) := bR.cell 0
      have cR1 : w3.cell? ⟨w2.heap.size, 1, none⟩ = some (.int .u64 r.e) := bR.cell 1
      have cR2 : w3.cell? ⟨w2.heap.size, 2, none⟩ = some (.int .u64 r.b) := bR.cell 2
      have cR3 : w3.cell? ⟨w2.heap.size, 3, none⟩ = some (.int .u8 r.k) := bR.cell 3
      have cE3 := (HBE2.out.ext hx3).cell
      have t43 := hx3.keep HT42.out
      have HX3 := Lib.hid (HX2.out.trans hx3)
      clear bR hx3
      go_wp2_with (first
        | (go_at_call 75; (refine (HS.out _).mono ?_); rintro ee w4 ⟨rfl, rfl⟩)
        | (go_at_call 69; (refine (HC.out _).mono ?_); rintro ee w5 ⟨rfl, hx5⟩; have HX5 := Lib.hid hx5; clear hx5)
        | fail)
      go_ret
      exact ⟨rfl, HX3.out.trans HX5.out⟩
end Go.Proofs.YtknlojlcahgnoaaGreat
