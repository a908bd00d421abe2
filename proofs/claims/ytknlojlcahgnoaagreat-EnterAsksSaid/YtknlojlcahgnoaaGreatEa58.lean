/- Walk: tollerref17.Enter. Walk: tollerlaw17.asks. -/
import Derived.Deep.DeepCutAuto
import Derived.BigQuiet
import Derived.Test.YtknlojlcahgnoaaGreatEa56
import Derived.Test.YtknlojlcahgnoaaGreatEa55
import Derived.Test.YtknlojlcahgnoaaGreatEa20
import Derived.Test.YtknlojlcahgnoaaGreatEa28
import Derived.Test.YtknlojlcahgnoaaGreatEa37
import Derived.Test.YtknlojlcahgnoaaGreatEa44

namespace Go.Proofs.YtknlojlcahgnoaaGreat
open Go.RowKit
set_option linter.unusedVariables false
set_option linter.unusedSimpArgs false

/-- what tollerref17.Enter hands back -/
def REnterIs (w : World) (most cl clk : Int) (rs : List Rl) (es : List Ent) (x : Ending) (w' : World) : Prop :=
  (entRight most clk rs es ≠ 0 ∧ x = .returned (.tuple #[.agg #[.int .i64 0, .int .u64 0, .slice none 0 0], .int .i64 (entRight most clk rs es)]) ∧ Ext w w') ∨
  (entRight most clk rs es = 0 ∧ ∃ v, x = .returned (.tuple #[.agg #[.int .i64 most, .int .u64 (max cl clk), v], .int .i64 0]) ∧ SlotRow w.heap.size w' v (entSlots (max cl clk) rs es) ∧ Ext w w')
theorem ent_snoc {now : Int} {rs : List Rl} {es : List Ent} {k : Nat} (hk : k < es.length) : entSlots now rs (es.take (k + 1)) = entSlots now rs (es.take k) ++ if now < es[k].till then [entSlot now rs es[k]] else [] := by
  unfold entSlots
  rw [List.take_succ_eq_append_getElem hk, List.filter_append, List.map_append]
  congr 1
  by_cases h : now < es[k].till
  · rw [if_pos h]; simp [actE, h]
  · rw [if_neg h]; simp [actE, h]
theorem ent_len {now : Int} {rs : List Rl} {es : List Ent} (k : Nat) : (entSlots now rs (es.take k)).length ≤ k := by
  unfold entSlots
  rw [List.length_map]
  exact Nat.le_trans (List.length_filter_le _ _) (by rw [List.length_take]; omega)

set_option maxHeartbeats 4000000 in
set_option maxRecDepth 100000 in
theorem ref17_Enter (most : Int) (rv : Value) (rs : List Rl) (cl clk : Int) (ev : Value) (es : List Ent) (w : World) (hm0 : -9223372036854775808 ≤ most) (hm1 : most ≤ 9223372036854775807) (hr : RulesAt w rv rs) (hro : ∀ r ∈ rs, RlOk r) (hrl : rs.length ≤ 1000000000)
    (hl0 : 0 ≤ cl) (hl1 : cl < 18446744073709551616) (hn0 : 0 ≤ clk) (hn1 : clk < 18446744073709551616) (hv : EntsAt w ev es) (heo : ∀ e ∈ es, EntOk e) (hel : es.length ≤ 1000000000) :
    Calls Tryz.prog 57 #[.agg #[.int .i64 most, rv], .int .u64 cl, .agg #[.int .u64 clk, ev]] w fun x w' => REnterIs w most cl clk rs es x w' := by
  obtain ⟨ra, rc, rfl⟩ := hr.size
  obtain ⟨ea, ec, rfl⟩ := hv.size
  have hx0 : Ext w (((w.alloc (.cells #[.int .i64 most, .slice ra rs.length rc] 28)).alloc (.cells #[.int .u64 clk, .slice ea es.length ec] 52)).alloc (.cells #[.int .i64 0, .int .u64 0, .slice none 0 0] 120)) := (((Ext.refl w).alloc _).alloc _).alloc _
  have bP := ((Blk.new w #[.int .i64 most, .slice ra rs.length rc] 28).alloc (.cells #[.int .u64 clk, .slice ea es.length ec] 52)).alloc (.cells #[.int .i64 0, .int .u64 0, .slice none 0 0] 120)
  have bS := (Blk.new' (w.alloc (.cells #[.int .i64 most, .slice ra rs.length rc] 28)) #[.int .u64 clk, .slice ea es.length ec] 52 (b := w.heap.size + 1) (by simp)).alloc (.cells #[.int .i64 0, .int .u64 0, .slice none 0 0] 120)
  have bR := Blk.new' ((w.alloc (.cells #[.int .i64 most, .slice ra rs.length rc] 28)).alloc (.cells #[.int .u64 clk, .slice ea es.length ec] 52)) #[.int .i64 0, .int .u64 0, .slice none 0 0] 120 (b := w.heap.size + 1 + 1) (by simp)
  have HV := Lib.hid (hv.ext Ent.size2 hx0)
  have HRO := Lib.hid hro
  have HEO := Lib.hid heo
  have hml : (1000000000 : Nat) ≤ maxLen := by decide
  have HRI := Lib.hid (fun V (e : Ext w V) => ref17_Right most (.slice ra rs.length rc) rs clk (.slice ea es.length ec) es V hm0 hm1 (hr.ext Rl.size4 e) hro hrl hn0 hn1 (hv.ext Ent.size2 e) heo hel)
  have HFD := Lib.hid (fun V (e : Ext w V) (k : ByteArray) (hk : k.size ≤ maxLen) => ref13_Find (.slice ra rs.length rc) rs k V (hr.ext Rl.size4 e) hro (by omega) hk)
  have HIS : Hid (∀ x w', (entRight most clk rs es ≠ 0 → x = .returned (.tuple #[.agg #[.int .i64 0, .int .u64 0, .slice none 0 0], .int .i64 (entRight most clk rs es)]) ∧ Ext w w') → (entRight most clk rs es = 0 → ∃ v, x = .returned (.tuple #[.agg #[.int .i64 most, .int .u64 (max cl clk), v], .int .i64 0]) ∧ SlotRow w.heap.size w' v (entSlots (max cl clk) rs es) ∧ Ext w w') → REnterIs w most cl clk rs es x w') := Lib.hid (fun x w' h1 h2 => by
    by_cases h : entRight most clk rs es = 0
    · exact Or.inr ⟨h, h2 h⟩
    · exact Or.inl ⟨h, h1 h⟩)
  have HZ := Lib.hid (fun h => entRight_zero (most := most) (clock := clk) (rs := rs) (es := es) h)
  obtain ⟨E, hE⟩ : ∃ E, entRight most clk rs es = E := ⟨_, rfl⟩
  rw [hE] at HRI HIS HZ
  obtain ⟨now, hnow⟩ : ∃ now, max cl clk = now := ⟨_, rfl⟩
  rw [hnow] at HIS
  have hnb : 0 ≤ now ∧ now < 18446744073709551616 := by omega
  clear hr hv hro heo hE
  go_enter Tryz.func57, Tryz.ntmps57
  go_upto_region 1 with fail
  generalize ((w.alloc (.cells #[.int .i64 most, .slice ra rs.length rc] 28)).alloc (.cells #[.int .u64 clk, .slice ea es.length ec] 52)).alloc (.cells #[.int .i64 0, .int .u64 0, .slice none 0 0] 120) = w0 at *
  have HX0 := Lib.hid hx0
  have HBP := Lib.hid bP
  have HBS := Lib.hid bS
  have HBR := Lib.hid bR
  have cP := bP.cell
  have cS := bS.cell
  clear hx0 bP bS bR
  by_cases hE0 : E = 0
  · subst hE0
    obtain ⟨z1, z2, z3, z4, z5⟩ := HZ.out rfl
    have hmo : mostOf most = most := by unfold mostOf; omega
    go_wp2_with fail
    refine (HRI.out _ HX0.out).mono ?_
    rintro x w1 ⟨rfl, hx1⟩
    have cP1 := (HBP.out.ext hx1).cell
    have cS1 := (HBS.out.ext hx1).cell
    have HX1 := Lib.hid hx1
    have HNW := Lib.hid (ref14_New most · hm0 hm1)
    rw [hmo] at HNW
    clear cP cS hx1
    go_wp2_with fail
    refine (HNW.out _).mono ?_
    rintro x w3 ⟨rfl, hx3⟩
    have HX3 := Lib.hid (HX1.out.trans hx3)
    have cS3 := (HBS.out.ext HX3.out).cell
    clear cP1 cS1 hx3 HX1
    go_upto_region 4 with fail
    have bT := Blk.new w3 #[.int .i64 most, .int .u64 0, .slice none 0 0] 120
    have hxT : Ext w3 (w3.alloc (.cells #[.int .i64 most, .int .u64 0, .slice none 0 0] 120)) := (Ext.refl w3).alloc _
    have cS4 := (HBS.out.ext (HX3.out.trans hxT)).cell
    generalize w3.alloc (.cells #[.int .i64 most, .int .u64 0, .slice none 0 0] 120) = w4 at *
    have fT := bT.free
    have lT := bT.lt
    have cT := bT.cell
    clear cS3
    go_cut [29] from 26 to 30 (fun x29 wx => Blk wx w3.heap.size #[.int .i64 most, .int .u64 now, .slice none 0 0] 120 ∧ Ext w3 wx)
    case first =>
      go_wp2_with fail
      all_goals
        go_meet
        have bU := bT.set 1 (.int .u64 now)
        first
          | exact ⟨bU, hxT.setCell (Nat.le_refl _) _⟩
          | (have he : now = cl := by omega
             rw [he] at bU ⊢
             exact ⟨bU, hxT.setCell (Nat.le_refl _) _⟩)
          | (have he : now = clk := by omega
             rw [he] at bU ⊢
             exact ⟨bU, hxT.setCell (Nat.le_refl _) _⟩)
    case rest =>
    obtain ⟨bT5, hx5⟩ := hcut
    have HB5 := Lib.hid bT5
    have HX5 := Lib.hid hx5
    clear bT5 hx5 bT hxT cS4 fT lT cT
    obtain ⟨i0, hi, hz0, hz1, hz2⟩ := info_parts slot_info
    have HI := Lib.hid (And.intro hi (And.intro hz0 (And.intro hz1 hz2)))
    have h13 := HX3.out.sz
    have h03 := HX0.out.sz
    have hrl2 := HBR.out.lt
    clear hi hz0 hz1 hz2
    go_wp2_with fail
    go_loopw [9] (fun i wr => ∃ (k : Nat) (v : Value), k ≤ es.length ∧ i = .int .i64 k ∧ Blk wr w3.heap.size #[.int .i64 most, .int .u64 now, v] 120 ∧ SlotRow w3.heap.size wr v (entSlots now rs (es.take k)) ∧ Ext w3 wr) (fun i _ => es.length - (intOf i).toNat)
    case atStart => exact ⟨0, _, by omega, rfl, HB5.out, RowOf.empty _ _ _ _ _, HX5.out⟩
    case round =>
      obtain ⟨k, v, hk, rfl, hbt, hrow, hx⟩ := hrel
      have HBT := Lib.hid hbt
      have HROW := Lib.hid hrow
      have HX := Lib.hid hx
      have hsz := hx.sz
      obtain ⟨va, vc, rfl⟩ := hrow.size
      have cS1 : wr.cell? ⟨w.heap.size + 1, 1, none⟩ = some (.slice ea es.length ec) := (HBS.out.ext (HX3.out.trans hx)).cell 1
      have cP1 : wr.cell? ⟨w.heap.size, 1, none⟩ = some (.slice ra rs.length rc) := (HBP.out.ext (HX3.out.trans hx)).cell 1
      clear hbt hrow
      by_cases hlt : k < es.length
      · obtain ⟨b, o, rfl, hbl, hc0⟩ := (HV.out.ext Ent.size2 (HX3.out.trans hx)).cells Ent.size2 (by decide) k hlt
        have c0 : wr.cell? ⟨b, o + k * 2, none⟩ = some (.string es[k].key) := hc0 0 (by decide)
        have c1 : wr.cell? ⟨b, o + k * 2 + 1, none⟩ = some (.int .u64 es[k].till) := hc0 1 (by decide)
        obtain ⟨hks, ht0, ht1⟩ := HEO.out es[k] (List.getElem_mem _)
        have hsn := ent_snoc (now := now) (rs := rs) hlt
        have hln := ent_len (now := now) (rs := rs) (es := es) k
        have HES : Hid (entSlot now rs es[k] = ⟨es[k].key, (bestD rs es[k].key).p, (bestD rs es[k].key).e, (bestD rs es[k].key).b, (bestD rs es[k].key).k, if rightKind (bestD rs es[k].key).k then (bestD rs es[k].key).k else 0, kOfA (bestD rs es[k].key).k now (rCap (bestD rs es[k].key)) (es[k].till - now), kOfB (bestD rs es[k].key).k now⟩) := Lib.hid rfl
        have HFK := Lib.hid (fun V (e : Ext w V) => HFD.out V e es[k].key hks)
        rw [findV_D] at HFK
        have HBO := Lib.hid (bestD_ok HRO.out es[k].key)
        generalize entSlot now rs es[k] = NS at *
        generalize es[k].till = tl at *
        generalize es[k].key = ky at *
        generalize entSlots now rs (es.take k) = pre at *
        have HSN := Lib.hid hsn
        have HLN := Lib.hid hln
        have hk1 : (k : Int) < (es.length : Int) := by omega
        have hk0 : (0 : Int) ≤ (k : Int) := by omega
        clear hc0 hsn hln hx
        go_upto_region 9 with fail
        have bE := Blk.new wr #[.string ky, .int .u64 tl] 80
        have hxa : Ext wr (wr.alloc (.cells #[.string ky, .int .u64 tl] 80)) := (Ext.refl wr).alloc _
        generalize wr.alloc (.cells #[.string ky, .int .u64 tl] 80) = wa at *
        have HBE := Lib.hid bE
        have HXA := Lib.hid hxa
        have cE := bE.cell
        have cT := (HBT.out.ext hxa).cell
        have cP2 := hxa.keep cP1
        clear bE hxa c0 c1 cS1 cP1
        by_cases hact : now < tl
        · have hle : ¬ tl ≤ now := by omega
          have HSN1 : Hid (entSlots now rs (es.take (k + 1)) = pre ++ [NS]) := Lib.hid (by rw [HSN.out, if_pos hact])
          generalize hbD : bestD rs ky = D at *
          have hcu : 0 ≤ rCap D ∧ rCap D ≤ 4611686018427387904 := ruleCap_u _ _ _ _ HBO.out.2.1 HBO.out.2.2.2.1
          have HCP := Lib.hid (fun V => ref11_Cap D.p D.e D.b D.k V HBO.out.1 HBO.out.2.1 HBO.out.2.2.1 HBO.out.2.2.2.1 HBO.out.2.2.2.2.1)
          have HRC : Hid (ruleCap D.p D.e D.b D.k = rCap D) := Lib.hid rfl
          rw [HRC.out] at HCP
          have hsu : 0 ≤ tl - now ∧ tl - now < 18446744073709551616 := by omega
          have HOF := Lib.hid (fun V => ref07_Of D.k now (rCap D) (tl - now) V hnb.1 hnb.2 hcu.1 (by omega) hsu.1 hsu.2)
          have hsw : IntKind.u64.wrap (tl - now) = tl - now := by simp [IntKind.wrap, IntKind.signed, IntKind.bits]; omega
          unfold ofR stV at HOF
          generalize hC : rCap D = C at *
          obtain ⟨dp, de, db, dk⟩ := D
          simp only [Rl.cells] at HFK HCP HOF HES
          generalize (bestR rs ky.data.toList).isSome = isb at *
          obtain ⟨sk, hsk⟩ : ∃ sk, (if rightKind dk = true then dk else 0) = sk := ⟨_, rfl⟩
          obtain ⟨sz, hszz⟩ : ∃ sz : Int, (if rightKind dk = true then 0 else 27) = sz := ⟨_, rfl⟩
          obtain ⟨sa, hsa⟩ : ∃ sa, kOfA dk now C (tl - now) = sa := ⟨_, rfl⟩
          obtain ⟨sb, hsb⟩ : ∃ sb, kOfB dk now = sb := ⟨_, rfl⟩
          rw [hsk, hsa, hsb] at HES
          rw [hsk, hszz, hsa, hsb] at HOF
          have hNS := HES.out
          subst hNS
          clear hbD hC hsk hszz hsa hsb HES HSN
          go_wp2_with fail
          refine (HFK.out _ (HX0.out.trans (HX3.out.trans (HX.out.trans HXA.out)))).mono ?_
          rintro x wf ⟨rfl, hxf⟩
          have cE2 := (HBE.out.ext hxf).cell
          have HXF := Lib.hid (HXA.out.trans hxf)
          have HBE2 := Lib.hid (HBE.out.ext hxf)
          clear hxf cE cT cP2 HBE HXA
          go_upto_region 11 with fail
          have bD := Blk.new wf #[.string dp, .int .u64 de, .int .u64 db, .int .u8 dk] 37
          have hxb : Ext wf (wf.alloc (.cells #[.string dp, .int .u64 de, .int .u64 db, .int .u8 dk] 37)) := (Ext.refl wf).alloc _
          generalize wf.alloc (.cells #[.string dp, .int .u64 de, .int .u64 db, .int .u8 dk] 37) = wb at *
          have HBD := Lib.hid bD
          have HXB := Lib.hid (HXF.out.trans hxb)
          have HBE3 := Lib.hid (HBE2.out.ext hxb)
          have HBT3 := Lib.hid (HBT.out.ext HXB.out)
          clear bD hxb cE2 HBE2 HXF
          go_cut [13] from 56 to 70 (fun x13 wx => ∃ B, x13 = .pointer (some ⟨B, 0, none⟩) ∧ Blk wx B #[.int .u8 sk, .int .u64 sa, .int .u64 sb] 140 ∧ Ext wb wx)
          case first =>
            go_region_held3 (fun w' => (∀ o, w'.cell? ⟨wf.heap.size, o, none⟩ = (#[.string dp, .int .u64 de, .int .u64 db, .int .u8 dk] : Array Value)[o]?) ∧ (∀ o, w'.cell? ⟨wr.heap.size, o, none⟩ = (#[.string ky, .int .u64 tl] : Array Value)[o]?) ∧ (∀ o, w'.cell? ⟨w3.heap.size, o, none⟩ = (#[.int .i64 most, .int .u64 now, .slice va pre.length vc] : Array Value)[o]?) ∧ Ext wb w')
              (((try go_split_ands); refine ⟨Blk.cell (HBD.out.ext ?_), Blk.cell (HBE3.out.ext ?_), Blk.cell (HBT3.out.ext ?_), ?_⟩ <;> (repeat (first | with_reducible exact Ext.refl _ | with_reducible assumption | with_reducible refine Ext.alloc ?_ _ | with_reducible refine Ext.drew ?_ | (with_reducible refine Ext.setCell ?_ (by first | exact Nat.le_refl _ | (dsimp only; omega) | (simp; done) | (simp; omega)) _) | with_reducible refine Ext.trans ?_ (by with_reducible assumption)))))
              (first
                | (go_at_call 115; (with_reducible refine (HCP.out _).mono ?_); rintro x w11 ⟨rfl, hx11'⟩; have hx11 : Ext wb w11 := Ext.trans (by repeat (first | with_reducible exact Ext.refl _ | with_reducible assumption | with_reducible refine Ext.alloc ?_ _ | with_reducible refine Ext.drew ?_ | (with_reducible refine Ext.setCell ?_ (by first | exact Nat.le_refl _ | (dsimp only; omega) | (simp; done) | (simp; omega)) _) | with_reducible refine Ext.trans ?_ (by with_reducible assumption))) hx11'; have hz11 := hx11.sz; (try (with_reducible have bn := Blk.ext (Blk.drew (Blk.new wb #[.int .u8 0, .int .u64 0, .int .u64 0] 140)) hx11')))
                | (go_at_call 114; (with_reducible refine (HOF.out _).mono ?_); rintro x w12 ⟨rfl, hx12'⟩; have hx12 : Ext wb w12 := Ext.trans (by repeat (first | with_reducible exact Ext.refl _ | with_reducible assumption | with_reducible refine Ext.alloc ?_ _ | with_reducible refine Ext.drew ?_ | (with_reducible refine Ext.setCell ?_ (by first | exact Nat.le_refl _ | (dsimp only; omega) | (simp; done) | (simp; omega)) _) | with_reducible refine Ext.trans ?_ (by with_reducible assumption))) hx12'; have hz12 := hx12.sz; (try (first | (with_reducible have bm := Blk.ext bn hx12'; have cn := bm.cell; have fn := bm.free; have ln := bm.lt) | (with_reducible have bm := Blk.ext (Blk.new w11 #[.int .u8 0, .int .u64 0, .int .u64 0] 140) hx12'; have cn := bm.cell; have fn := bm.free; have ln := bm.lt)))))
            all_goals
              go_wp2_with fail
              go_meet
              refine ⟨_, rfl, ?_, (by repeat (first | with_reducible exact Ext.refl _ | with_reducible assumption | with_reducible refine Ext.alloc ?_ _ | with_reducible refine Ext.drew ?_ | (with_reducible refine Ext.setCell ?_ (by first | exact Nat.le_refl _ | (dsimp only; omega) | (simp; done) | (simp; omega)) _) | with_reducible refine Ext.trans ?_ (by with_reducible assumption)))⟩
              first
                | exact Blk.new _ _ _
                | exact ((bm.set 0 _).set 1 _).set 2 _
          case rest =>
          obtain ⟨B, rfl, hB, hxc⟩ := hcut
          have cB := hB.cell
          have cD := (HBD.out.ext hxc).cell
          have cE := (HBE3.out.ext hxc).cell
          have hbt4 := HBT3.out.ext hxc
          have cT := hbt4.cell
          have fT := hbt4.free
          have lT := hbt4.lt
          have HBT4 := Lib.hid hbt4
          have HXC := Lib.hid (HX.out.trans (HXB.out.trans hxc))
          have HOWN := Lib.hid (own_ext HROW.out.own (HXB.out.trans hxc))
          have hbz := (HX.out.trans (HXB.out.trans hxc)).sz
          have hml2 : pre.length + 1 ≤ maxLen := by have := HLN.out; omega
          have hml3 : (pre.length + 1) * 80 ≤ 140737488355328 := by have := HLN.out; omega
          clear hB hxc hbt4
          go_wp2_with (first
            | (at_builtin; refine wpList_append_own _ rfl (.tmp 72) (.tmp 78) 118 rfl w3.heap.size 145 i0 slot0.val 8 80 Tryz.underlying118 HI.out.1 HI.out.2.1 HI.out.2.2.1 HI.out.2.2.2 rfl (by decide) _ _ _ rfl (HOWN.out.alloc _) ⟨wc.heap.size, 0, none⟩ 1 1 [.string ky, .string dp, .int .u64 de, .int .u64 db, .int .u8 dk, .int .u8 sk, .int .u64 sa, .int .u64 sb] rfl rfl (blk_news (C := #[.string ky, .string dp, .int .u64 de, .int .u64 db, .int .u8 dk, .int .u8 sk, .int .u64 sa, .int .u64 sb]) (Blk.new _ _ _)) (by simp [Value.oneCell']) hml2 hml3 (by simp; omega) ?_; rintro v9 w9 hown9 hgrow9 -; obtain ⟨g9, cap9, rfl⟩ := ownsRow_succ hown9; have hx9 : Ext w3 w9 := Ext.grownAt (HXC.out.alloc _) (HOWN.out.alloc _) (Nat.le_refl _) hgrow9; have bT9 := Blk.grownNe (HBT4.out.alloc (.cells #[.string ky, .string dp, .int .u64 de, .int .u64 db, .int .u8 dk, .int .u8 sk, .int .u64 sa, .int .u64 sb] 145)) hgrow9 (HOWN.out.alloc _) (by decide); have cT9 := bT9.cell; have fT9 := bT9.free; have lT9 := bT9.lt)
            | fail)
          go_roundw
          case rel =>
            refine ⟨k + 1, .slice (some ⟨g9, 0, none⟩) (pre.length + 1) cap9, by omega, by go_num, bT9.set 2 _, ?_, hx9.setCell (Nat.le_refl _) _⟩
            exact (row_more hown9 HSN1.out).setOther bT9 (by decide) 2 _
          case measure => simp [intOf]; omega
        · have hle : tl ≤ now := by omega
          have HSN1 : Hid (entSlots now rs (es.take (k + 1)) = pre) := Lib.hid (by rw [HSN.out, if_neg hact, List.append_nil])
          go_wp2_with fail
          go_roundw
          case rel => exact ⟨k + 1, _, by omega, by go_num, HBT.out.ext HXA.out, by rw [HSN1.out]; exact HROW.out.ext HXA.out, HX.out.trans HXA.out⟩
          case measure => simp [intOf]; omega
      · have hke : k = es.length := by omega
        have HRW : Hid (SlotRow w3.heap.size wr (.slice va (entSlots now rs (es.take k)).length vc) (entSlots now rs es)) := Lib.hid (by have q := HROW.out; rw [hke, List.take_of_length_le (Nat.le_refl _)] at q ⊢; exact q)
        have bR3 := HBR.out.ext (HX3.out.trans HX.out)
        have cR := bR3.cell
        have fR := bR3.free
        have lR := bR3.lt
        have cT := HBT.out.cell
        generalize (entSlots now rs (es.take k)).length = N at *
        go_wp2_with fail
        refine ret_cell_tmp Tryz.results57 rfl rfl (((bR3.set 0 (.int .i64 most)).set 1 (.int .u64 now)).set 2 (.slice va N vc)) Tryz.underlying120 rfl (by kernel_rfl) ?_
        refine HIS.out _ _ (fun h => absurd rfl h) (fun _ => ⟨_, rfl, ?_, ?_⟩)
        · exact ((((HRW.out.setOther bR3 (by decide) 0 _).setOther (bR3.set 0 _) (by decide) 1 _).setOther ((bR3.set 0 _).set 1 _) (by decide) 2 _)).low (by omega)
        · exact (((HX0.out.trans (HX3.out.trans HX.out)).setCell (by dsimp only; omega) _).setCell (by dsimp only; omega) _).setCell (by dsimp only; omega) _
  · have hE1 : (E != 0) = true := by simpa using hE0
    go_wp2_with fail
    refine (HRI.out _ HX0.out).mono ?_
    rintro x w1 ⟨rfl, hx1⟩
    have cP1 := (HBP.out.ext hx1).cell
    have cS1 := (HBS.out.ext hx1).cell
    go_wp2_with fail
    refine (HRI.out _ (HX0.out.trans hx1)).mono ?_
    rintro x w2 ⟨rfl, hx2⟩
    have bR3 := HBR.out.ext (hx1.trans hx2)
    have cR := bR3.cell
    have fR := bR3.free
    have lR := bR3.lt
    go_wp2_with fail
    refine ret_cell_tmp Tryz.results57 rfl rfl (((bR3.set 0 (.int .i64 0)).set 1 (.int .u64 0)).set 2 (.slice none 0 0)) Tryz.underlying120 rfl (by kernel_rfl) ?_
    refine HIS.out _ _ (fun _ => ⟨rfl, ?_⟩) (fun h => absurd h hE0)
    exact (((HX0.out.trans (hx1.trans hx2)).setCell (by dsimp only; omega) _).setCell (by dsimp only; omega) _).setCell (by dsimp only; omega) _
end Go.Proofs.YtknlojlcahgnoaaGreat

namespace Go.Proofs.YtknlojlcahgnoaaGreat
open Go.RowKit
set_option linter.unusedVariables false
set_option linter.unusedSimpArgs false

theorem entRight_b {most clk : Int} {rs : List Rl} {es : List Ent} : 0 ≤ entRight most clk rs es ∧ entRight most clk rs es < 65536 := by
  have h1 : 0 ≤ cfgErr most rs ∧ cfgErr most rs < 65536 := by
    have hr : ∀ r : Rl, 0 ≤ rErr r ∧ rErr r < 65536 := fun r => by
      unfold rErr ruleErr
      repeat' split
      all_goals constructor <;> decide
    have hq : 0 ≤ cfgRest rs ∧ cfgRest rs < 65536 := by
      unfold cfgRest
      generalize ordL Rl.key rs = l
      unfold restL
      repeat' split
      all_goals constructor <;> decide
    unfold cfgErr
    repeat' split
    · constructor <;> decide
    · constructor <;> decide
    · exact hr _
    · exact hq
  have h2 : ∀ e, 0 ≤ entErr clk rs e ∧ entErr clk rs e < 65536 := fun e => by
    unfold entErr
    repeat' split
    all_goals constructor <;> decide
  unfold entRight
  split
  · exact h1
  · split
    · constructor <;> decide
    · split
      · constructor <;> decide
      · split
        · constructor <;> decide
        · split
          · exact h2 _
          · constructor <;> decide

set_option maxHeartbeats 4000000 in
set_option maxRecDepth 100000 in
theorem law17_asks (most : Int) (rv : Value) (rs : List Rl) (cl clk : Int) (ev : Value) (es : List Ent) (w : World) (hm0 : -9223372036854775808 ≤ most) (hm1 : most ≤ 9223372036854775807) (hr : RulesAt w rv rs) (hro : ∀ r ∈ rs, RlOk r) (hrl : rs.length ≤ 1000000000)
    (hl0 : 0 ≤ cl) (hl1 : cl < 18446744073709551616) (hn0 : 0 ≤ clk) (hn1 : clk < 18446744073709551616) (hv : EntsAt w ev es) (heo : ∀ e ∈ es, EntOk e) (hel : es.length ≤ 1000000000) :
    Calls Tryz.prog 24 #[.agg #[.int .i64 most, rv], .int .u64 cl, .agg #[.int .u64 clk, ev]] w fun x w' => x = .returned (.bool true) ∧ Ext w w' := by
  obtain ⟨ra, rc, rfl⟩ := hr.size
  obtain ⟨ea, ec, rfl⟩ := hv.size
  have hx0 : Ext w ((w.alloc (.cells #[.int .i64 most, .slice ra rs.length rc] 28)).alloc (.cells #[.int .u64 clk, .slice ea es.length ec] 52)) := ((Ext.refl w).alloc _).alloc _
  have bP := (Blk.new w #[.int .i64 most, .slice ra rs.length rc] 28).alloc (.cells #[.int .u64 clk, .slice ea es.length ec] 52)
  have bS := Blk.new' (w.alloc (.cells #[.int .i64 most, .slice ra rs.length rc] 28)) #[.int .u64 clk, .slice ea es.length ec] 52 (b := w.heap.size + 1) (by simp)
  have HRI := Lib.hid (fun V (e : Ext w V) => enter_Right most (.slice ra rs.length rc) rs clk (.slice ea es.length ec) es V hm0 hm1 (hr.ext Rl.size4 e) hro hrl hn0 hn1 (hv.ext Ent.size2 e) heo hel)
  have HRR := Lib.hid (fun V (e : Ext w V) => ref17_Right most (.slice ra rs.length rc) rs clk (.slice ea es.length ec) es V hm0 hm1 (hr.ext Rl.size4 e) hro hrl hn0 hn1 (hv.ext Ent.size2 e) heo hel)
  have HEN := Lib.hid (fun V (e : Ext w V) => enter_Enter most (.slice ra rs.length rc) rs cl clk (.slice ea es.length ec) es V hm0 hm1 (hr.ext Rl.size4 e) hro hrl hl0 hl1 hn0 hn1 (hv.ext Ent.size2 e) heo hel)
  have HRE := Lib.hid (fun V (e : Ext w V) => ref17_Enter most (.slice ra rs.length rc) rs cl clk (.slice ea es.length ec) es V hm0 hm1 (hr.ext Rl.size4 e) hro hrl hl0 hl1 hn0 hn1 (hv.ext Ent.size2 e) heo hel)
  have hEb := entRight_b (most := most) (clk := clk) (rs := rs) (es := es)
  have hnb : 0 ≤ max cl clk ∧ max cl clk < 18446744073709551616 ∧ clk ≤ max cl clk := by omega
  have HF : Hid (entRight most clk rs es = 0 → ofErr most (max cl clk) (entSlots (max cl clk) rs es) = 0 ∧ slotsOf (max cl clk) (putTo (entSlots (max cl clk) rs es)).1 = entSlots (max cl clk) rs es ∧ rSlots (max cl clk) (entSlots (max cl clk) rs es) = entSlots (max cl clk) rs es ∧ (∀ s ∈ entSlots (max cl clk) rs es, SlotOk s) ∧ (entSlots (max cl clk) rs es).length ≤ 1000000 ∧ TabOk (putTo (entSlots (max cl clk) rs es)).1 (putTo (entSlots (max cl clk) rs es)).2 ∧ (putTo (entSlots (max cl clk) rs es)).1.length ≤ 1000000) := Lib.hid (fun h => by
    obtain ⟨z1, z2, z3, z4, z5⟩ := entRight_zero h
    obtain ⟨ha, -⟩ := ent_act hro heo h hn0 hnb.2.2 hnb.2.1
    obtain ⟨h0, -⟩ := ent_table hro heo h hn0 hnb.2.2 hnb.2.1
    have hok := entSlots_ok (now := max cl clk) hnb.1 hnb.2.1 hro heo
    have hl1 := putTo_len (entSlots (max cl clk) rs es)
    have hl2 : (entSlots (max cl clk) rs es).length ≤ es.length := by
      unfold entSlots
      rw [List.length_map]
      exact List.length_filter_le _ _
    exact ⟨h0, ha.put h0 hnb.1 hnb.2.1, ha.all, hok, by omega, putTo_ok _ hok, by omega⟩)
  unfold EnterIs at HEN
  unfold REnterIs at HRE
  obtain ⟨E, hE⟩ : ∃ E, entRight most clk rs es = E := ⟨_, rfl⟩
  obtain ⟨now, hnow⟩ : ∃ now, max cl clk = now := ⟨_, rfl⟩
  rw [hE] at HRI HRR HEN HRE hEb HF
  rw [hnow] at HEN HRE hnb HF
  generalize entSlots now rs es = xs at *
  have hew : IntKind.i64.wrap E = E := by simp [IntKind.wrap, IntKind.signed, IntKind.bits]; omega
  clear hr hv hro heo hE hnow
  go_enter Tryz.func24, Tryz.ntmps24
  go_upto_region 1 with fail
  generalize (w.alloc (.cells #[.int .i64 most, .slice ra rs.length rc] 28)).alloc (.cells #[.int .u64 clk, .slice ea es.length ec] 52) = w0 at *
  have HX0 := Lib.hid hx0
  have HBP := Lib.hid bP
  have HBS := Lib.hid bS
  have cP := bP.cell
  have cS := bS.cell
  clear hx0 bP bS
  by_cases hE0 : E = 0
  · subst hE0
    obtain ⟨f1, f2, f3, f4, f5, f6, f7⟩ := HF.out rfl
    have F1 := Lib.hid f1
    have F2 := Lib.hid f2
    have F3 := Lib.hid f3
    have F4 := Lib.hid f4
    have F6 := Lib.hid f6
    clear f1 f2 f3 f4 f6 HF
    go_wp2_with fail
    refine (HEN.out _ HX0.out).mono ?_
    rintro x w1 hx
    rcases hx with ⟨h0, -⟩ | ⟨-, hof⟩
    · exact absurd rfl h0
    obtain ⟨pv, hxv, hx1, hcase⟩ := hof
    rw [F1.out] at hxv hcase
    rcases hcase with ⟨-, t, m, rfl, ht0, hm0', hT⟩ | ⟨h0, -⟩
    rotate_left
    · exact absurd rfl h0
    subst hxv
    have HT := Lib.hid hT
    have HX1 := Lib.hid hx1
    have cP1 := (HBP.out.ext hx1).cell
    have cS1 := (HBS.out.ext hx1).cell
    clear cP cS hT hx1
    go_wp2_with fail
    refine (HRE.out _ (HX0.out.trans HX1.out)).mono ?_
    rintro x w2 hx
    rcases hx with ⟨h0, -⟩ | ⟨-, rv2, rfl, hrow, hx2⟩
    · exact absurd rfl h0
    obtain ⟨va, vc, rfl⟩ := hrow.size
    have HROW := Lib.hid hrow.slots
    have HX2 := Lib.hid (HX1.out.trans hx2)
    have HT2 := Lib.hid (HT.out.ext hx2)
    clear cP1 cS1 hrow hx2
    go_upto_region 3 with fail
    have bR := Blk.new w2 #[.int .i64 most, .int .u64 now, .slice va xs.length vc] 120
    have hxr : Ext w2 (w2.alloc (.cells #[.int .i64 most, .int .u64 now, .slice va xs.length vc] 120)) := (Ext.refl w2).alloc _
    generalize w2.alloc (.cells #[.int .i64 most, .int .u64 now, .slice va xs.length vc] 120) = w3 at *
    have HBR := Lib.hid bR
    have HX3 := Lib.hid (HX2.out.trans hxr)
    have HT3 := Lib.hid (HT2.out.ext hxr)
    have HR3 := Lib.hid (HROW.out.ext hxr)
    have HBP3 := Lib.hid (HBP.out.ext HX3.out)
    have HBS3 := Lib.hid (HBS.out.ext HX3.out)
    clear bR hxr
    have HTS := Lib.hid (fun V (e : Ext w3 V) => table_Slots t m _ most now _ V (HT3.out.ext e) F6.out hnb.1 hnb.2.1 f7)
    rw [F2.out] at HTS
    have HRS := Lib.hid (fun V (e : Ext w3 V) => ref14_Slots most now (.slice va xs.length vc) xs V (HR3.out.ext e) F4.out hnb.1 hnb.2.1 f5)
    rw [F3.out] at HRS
    have HSM := Lib.hid (fun v v' V (h1 : SlotsAt V v xs) (h2 : SlotsAt V v' xs) => ref14_Same_yes v v' xs V h1 h2 f5)
    have HCK := Lib.hid (fun V (e : Ext w3 V) => table_ClockX t m _ most now _ V (HT3.out.ext e) hnb.1 hnb.2.1)
    have HLV := Lib.hid (fun V (e : Ext w3 V) => enter_Leave t m _ most now _ V (HT3.out.ext e) F6.out hnb.1 hnb.2.1 f7)
    unfold entsOf at HLV
    rw [F2.out] at HLV
    have HRL := Lib.hid (fun V (e : Ext w3 V) => ref17_Leave most now (.slice va xs.length vc) xs V (HR3.out.ext e) F4.out hnb.1 hnb.2.1 f5)
    rw [F3.out] at HRL
    generalize xs.map (entOf now) = xe at *
    go_cut [45] from 25 to 45 (fun x45 wx => x45 = .bool false ∧ Ext w3 wx)
    case first =>
      go_region_held3 (fun w' => (∀ o, w'.cell? ⟨w.heap.size, o, none⟩ = (#[.int .i64 most, .slice ra rs.length rc] : Array Value)[o]?) ∧ (∀ o, w'.cell? ⟨w.heap.size + 1, o, none⟩ = (#[.int .u64 clk, .slice ea es.length ec] : Array Value)[o]?) ∧ Ext w3 w')
        (((try go_split_ands); refine ⟨Blk.cell (HBP3.out.ext ?_), Blk.cell (HBS3.out.ext ?_), ?_⟩ <;> (repeat (first | with_reducible exact Ext.refl _ | with_reducible assumption | with_reducible refine Ext.alloc ?_ _ | with_reducible refine Ext.drew ?_ | (with_reducible refine Ext.setCell ?_ (by first | exact Nat.le_refl _ | (dsimp only; omega) | (simp; done) | (simp; omega)) _) | with_reducible refine Ext.trans ?_ (by with_reducible assumption)))))
        (first
          | (go_at_call 30; (with_reducible refine (HRI.out _ (HX0.out.trans (HX3.out.trans (by repeat (first | with_reducible exact Ext.refl _ | with_reducible assumption | with_reducible refine Ext.alloc ?_ _ | with_reducible refine Ext.drew ?_ | (with_reducible refine Ext.setCell ?_ (by first | exact Nat.le_refl _ | (dsimp only; omega) | (simp; done) | (simp; omega)) _) | with_reducible refine Ext.trans ?_ (by with_reducible assumption)))))).mono ?_); rintro x w11 ⟨rfl, hx11⟩)
          | (go_at_call 58; (with_reducible refine (HRR.out _ (HX0.out.trans (HX3.out.trans (by repeat (first | with_reducible exact Ext.refl _ | with_reducible assumption | with_reducible refine Ext.alloc ?_ _ | with_reducible refine Ext.drew ?_ | (with_reducible refine Ext.setCell ?_ (by first | exact Nat.le_refl _ | (dsimp only; omega) | (simp; done) | (simp; omega)) _) | with_reducible refine Ext.trans ?_ (by with_reducible assumption)))))).mono ?_); rintro x w12 ⟨rfl, hx12⟩))
      all_goals
        go_wp2_with fail
        go_meet
        exact ⟨rfl, (by repeat (first | with_reducible exact Ext.refl _ | with_reducible assumption | with_reducible refine Ext.alloc ?_ _ | with_reducible refine Ext.drew ?_ | (with_reducible refine Ext.setCell ?_ (by first | exact Nat.le_refl _ | (dsimp only; omega) | (simp; done) | (simp; omega)) _) | with_reducible refine Ext.trans ?_ (by with_reducible assumption)))⟩
    case rest =>
    obtain ⟨rfl, hxc⟩ := hcut
    have HXC := Lib.hid hxc
    have HBRC := Lib.hid (HBR.out.ext hxc)
    clear hxc
    go_upto_region 5 with fail
    go_region_held3 (fun w' => (∀ o, w'.cell? ⟨w2.heap.size, o, none⟩ = (#[.int .i64 most, .int .u64 now, .slice va xs.length vc] : Array Value)[o]?) ∧ Ext wc w')
      (((try go_split_ands); refine ⟨Blk.cell (HBRC.out.ext ?_), ?_⟩ <;> (repeat (first | with_reducible exact Ext.refl _ | with_reducible assumption | with_reducible refine Ext.alloc ?_ _ | with_reducible refine Ext.drew ?_ | (with_reducible refine Ext.setCell ?_ (by first | exact Nat.le_refl _ | (dsimp only; omega) | (simp; done) | (simp; omega)) _) | with_reducible refine Ext.trans ?_ (by with_reducible assumption)))))
      (first
        | (go_at_call 60; (with_reducible refine (HTS.out _ (HXC.out.trans (by repeat (first | with_reducible exact Ext.refl _ | with_reducible assumption | with_reducible refine Ext.alloc ?_ _ | with_reducible refine Ext.drew ?_ | (with_reducible refine Ext.setCell ?_ (by first | exact Nat.le_refl _ | (dsimp only; omega) | (simp; done) | (simp; omega)) _) | with_reducible refine Ext.trans ?_ (by with_reducible assumption))))).mono ?_); rintro x w21 ⟨v1, rfl, hs1, hx21⟩; have h1 := hs1.at; obtain ⟨a1, c1, rfl⟩ := h1.size)
        | (go_at_call 61; (with_reducible refine (HRS.out _ (HXC.out.trans (by repeat (first | with_reducible exact Ext.refl _ | with_reducible assumption | with_reducible refine Ext.alloc ?_ _ | with_reducible refine Ext.drew ?_ | (with_reducible refine Ext.setCell ?_ (by first | exact Nat.le_refl _ | (dsimp only; omega) | (simp; done) | (simp; omega)) _) | with_reducible refine Ext.trans ?_ (by with_reducible assumption))))).mono ?_); rintro x w22 ⟨v2, rfl, hs2, hx22⟩; have h2 := hs2.slots; obtain ⟨a2, c2, rfl⟩ := h2.size)
        | (go_at_call 59; (with_reducible refine (HSM.out _ _ _ (h1.ext (by repeat (first | with_reducible exact Ext.refl _ | with_reducible assumption | with_reducible refine Ext.alloc ?_ _ | with_reducible refine Ext.drew ?_ | (with_reducible refine Ext.setCell ?_ (by first | exact Nat.le_refl _ | (dsimp only; omega) | (simp; done) | (simp; omega)) _) | with_reducible refine Ext.trans ?_ (by with_reducible assumption)))) (h2.ext (by repeat (first | with_reducible exact Ext.refl _ | with_reducible assumption | with_reducible refine Ext.alloc ?_ _ | with_reducible refine Ext.drew ?_ | (with_reducible refine Ext.setCell ?_ (by first | exact Nat.le_refl _ | (dsimp only; omega) | (simp; done) | (simp; omega)) _) | with_reducible refine Ext.trans ?_ (by with_reducible assumption))))).mono ?_); rintro x w23 ⟨rfl, hx23⟩)
        | (go_at_call 33; (with_reducible refine (HCK.out _ (HXC.out.trans (by repeat (first | with_reducible exact Ext.refl _ | with_reducible assumption | with_reducible refine Ext.alloc ?_ _ | with_reducible refine Ext.drew ?_ | (with_reducible refine Ext.setCell ?_ (by first | exact Nat.le_refl _ | (dsimp only; omega) | (simp; done) | (simp; omega)) _) | with_reducible refine Ext.trans ?_ (by with_reducible assumption))))).mono ?_); rintro x w24 ⟨rfl, hx24⟩)
        | (go_at_call 28; (with_reducible refine (HLV.out _ (HXC.out.trans (by repeat (first | with_reducible exact Ext.refl _ | with_reducible assumption | with_reducible refine Ext.alloc ?_ _ | with_reducible refine Ext.drew ?_ | (with_reducible refine Ext.setCell ?_ (by first | exact Nat.le_refl _ | (dsimp only; omega) | (simp; done) | (simp; omega)) _) | with_reducible refine Ext.trans ?_ (by with_reducible assumption))))).mono ?_); rintro x w25 ⟨v5, rfl, h5, hx25⟩; obtain ⟨a5, c5, rfl⟩ := h5.size)
        | (go_at_call 63; (with_reducible refine (HRL.out _ (HXC.out.trans (by repeat (first | with_reducible exact Ext.refl _ | with_reducible assumption | with_reducible refine Ext.alloc ?_ _ | with_reducible refine Ext.drew ?_ | (with_reducible refine Ext.setCell ?_ (by first | exact Nat.le_refl _ | (dsimp only; omega) | (simp; done) | (simp; omega)) _) | with_reducible refine Ext.trans ?_ (by with_reducible assumption))))).mono ?_); rintro x w26 ⟨b6, v6, rfl, h6, hx26⟩; obtain ⟨a6, c6, rfl⟩ := h6.size)
        | (go_at_call 62; (with_reducible refine (ref16_Same_yes _ _ now _ _ xe _ (h5.ext (by repeat (first | with_reducible exact Ext.refl _ | with_reducible assumption | with_reducible refine Ext.alloc ?_ _ | with_reducible refine Ext.drew ?_ | (with_reducible refine Ext.setCell ?_ (by first | exact Nat.le_refl _ | (dsimp only; omega) | (simp; done) | (simp; omega)) _) | with_reducible refine Ext.trans ?_ (by with_reducible assumption)))) (h6.ext (by repeat (first | with_reducible exact Ext.refl _ | with_reducible assumption | with_reducible refine Ext.alloc ?_ _ | with_reducible refine Ext.drew ?_ | (with_reducible refine Ext.setCell ?_ (by first | exact Nat.le_refl _ | (dsimp only; omega) | (simp; done) | (simp; omega)) _) | with_reducible refine Ext.trans ?_ (by with_reducible assumption))))).mono ?_); rintro x w27 ⟨rfl, hx27⟩))
    all_goals
      go_wp2
      go_ret
      exact ⟨rfl, HX0.out.trans (HX3.out.trans (HXC.out.trans (by repeat (first | with_reducible exact Ext.refl _ | with_reducible assumption | with_reducible refine Ext.alloc ?_ _ | with_reducible refine Ext.drew ?_ | (with_reducible refine Ext.setCell ?_ (by first | exact Nat.le_refl _ | (dsimp only; omega) | (simp; done) | (simp; omega)) _) | with_reducible refine Ext.trans ?_ (by with_reducible assumption)))))⟩
  · have hE1 : (E != 0) = true := by simpa using hE0
    go_wp2_with fail
    refine (HEN.out _ HX0.out).mono ?_
    rintro x w1 hx
    rcases hx with ⟨-, rfl, hx1⟩ | ⟨h0, -⟩
    rotate_left
    · exact absurd h0 hE0
    have HX1 := Lib.hid hx1
    have cP1 := (HBP.out.ext hx1).cell
    have cS1 := (HBS.out.ext hx1).cell
    clear cP cS hx1
    go_wp2_with fail
    refine (HRE.out _ (HX0.out.trans HX1.out)).mono ?_
    rintro x w2 hx
    rcases hx with ⟨-, rfl, hx2⟩ | ⟨h0, -⟩
    rotate_left
    · exact absurd h0 hE0
    have HX2 := Lib.hid (HX1.out.trans hx2)
    clear cP1 cS1 hx2
    go_upto_region 3 with fail
    have hxr : Ext w2 (w2.alloc (.cells #[.int .i64 0, .int .u64 0, .slice none 0 0] 120)) := (Ext.refl w2).alloc _
    generalize w2.alloc (.cells #[.int .i64 0, .int .u64 0, .slice none 0 0] 120) = w3 at *
    have HX3 := Lib.hid (HX2.out.trans hxr)
    have HBP3 := Lib.hid (HBP.out.ext HX3.out)
    have HBS3 := Lib.hid (HBS.out.ext HX3.out)
    clear hxr
    go_cut [45] from 25 to 45 (fun x45 wx => x45 = .bool false ∧ Ext w3 wx)
    case first =>
      go_region_held3 (fun w' => (∀ o, w'.cell? ⟨w.heap.size, o, none⟩ = (#[.int .i64 most, .slice ra rs.length rc] : Array Value)[o]?) ∧ (∀ o, w'.cell? ⟨w.heap.size + 1, o, none⟩ = (#[.int .u64 clk, .slice ea es.length ec] : Array Value)[o]?) ∧ Ext w3 w')
        (((try go_split_ands); refine ⟨Blk.cell (HBP3.out.ext ?_), Blk.cell (HBS3.out.ext ?_), ?_⟩ <;> (repeat (first | with_reducible exact Ext.refl _ | with_reducible assumption | with_reducible refine Ext.alloc ?_ _ | with_reducible refine Ext.drew ?_ | (with_reducible refine Ext.setCell ?_ (by first | exact Nat.le_refl _ | (dsimp only; omega) | (simp; done) | (simp; omega)) _) | with_reducible refine Ext.trans ?_ (by with_reducible assumption)))))
        (first
          | (go_at_call 30; (with_reducible refine (HRI.out _ (HX0.out.trans (HX3.out.trans (by repeat (first | with_reducible exact Ext.refl _ | with_reducible assumption | with_reducible refine Ext.alloc ?_ _ | with_reducible refine Ext.drew ?_ | (with_reducible refine Ext.setCell ?_ (by first | exact Nat.le_refl _ | (dsimp only; omega) | (simp; done) | (simp; omega)) _) | with_reducible refine Ext.trans ?_ (by with_reducible assumption)))))).mono ?_); rintro x w11 ⟨rfl, hx11⟩)
          | (go_at_call 58; (with_reducible refine (HRR.out _ (HX0.out.trans (HX3.out.trans (by repeat (first | with_reducible exact Ext.refl _ | with_reducible assumption | with_reducible refine Ext.alloc ?_ _ | with_reducible refine Ext.drew ?_ | (with_reducible refine Ext.setCell ?_ (by first | exact Nat.le_refl _ | (dsimp only; omega) | (simp; done) | (simp; omega)) _) | with_reducible refine Ext.trans ?_ (by with_reducible assumption)))))).mono ?_); rintro x w12 ⟨rfl, hx12⟩))
      all_goals
        go_wp2_with fail
        go_meet
        exact ⟨rfl, (by repeat (first | with_reducible exact Ext.refl _ | with_reducible assumption | with_reducible refine Ext.alloc ?_ _ | with_reducible refine Ext.drew ?_ | (with_reducible refine Ext.setCell ?_ (by first | exact Nat.le_refl _ | (dsimp only; omega) | (simp; done) | (simp; omega)) _) | with_reducible refine Ext.trans ?_ (by with_reducible assumption)))⟩
    case rest =>
    obtain ⟨rfl, hxc⟩ := hcut
    have HXC := Lib.hid hxc
    clear hxc
    go_upto_region 5 with fail
    go_quiet (fail)
    go_wp2
    go_ret
    exact ⟨rfl, HX0.out.trans (HX3.out.trans (HXC.out.trans (Ext.drewNs _ _)))⟩
end Go.Proofs.YtknlojlcahgnoaaGreat
