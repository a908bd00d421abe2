/- The walk of tollerlaw14.TableNone. -/
import Derived.Deep.DeepCutAuto
import Derived.Deep.CutRange
import Derived.Deep.CutBlock
import Derived.Test.YtnlmbmbalmkiiaaG20
import Derived.Test.YtnlmbmbalmkiiaaG21
import Derived.Test.YtnlmbmbalmkiiaaG8
import Derived.Test.YtnlmbmbalmkiiaaG12
import Derived.Test.YtnlmbmbalmkiiaaG11

/- The walk of tollerlaw14.TableNone. -/
namespace Go.Proofs.Ytnlmbmbalmkiiaa
open Go.RowKit
set_option linter.unusedVariables false
set_option linter.unusedSimpArgs false

/-- a table of four, none of whose keys is the word x -/
structure FewAt (w : World) (t m : Nat) (l : SMap) (c : Nat) : Prop where
  a : TabAt w t m (4 : Nat) 0 l c
  ok : TabOk l c
  len : l.length ≤ 4
  keys : ∀ x ∈ l, x.1.key ≠ ⟨#[120]⟩

theorem wpList_go {P : Program} {ops : Array Oper} {Q : Exit → Act → World → Prop} {a : Act} {w : World} {rest : List Oper} {d : Option Tmp} {op : Op} {ty : TypeId} {x1 : _} {x2 : _} {gd : _}
    (hw : Region.wanted ⟨d, op, ty, x1, x2, gd⟩ (yielded ops a.tmps) = true) (h : wpList P ops Q (⟨d, op, ty, x1, x2, none⟩ :: rest) a w) : wpList P ops Q (⟨d, op, ty, x1, x2, gd⟩ :: rest) a w := by
  have hn : Region.wanted (⟨d, op, ty, x1, x2, none⟩ : Oper) (yielded ops a.tmps) = true := by simp [Region.wanted]
  unfold wpList at h ⊢
  rw [if_pos hn] at h
  rw [if_pos hw]
  exact h

set_option maxHeartbeats 4000000 in
set_option maxRecDepth 4000000 in
theorem none_walk (k : ByteArray) (v : Value) (l : List Deed) (n kind : Int) (w : World) (hk : k.size ≤ maxLen) (hv : DeedSlice w v l) (hn0 : 0 ≤ n) (hn1 : n < 18446744073709551616) (hq0 : 0 ≤ kind) (hq1 : kind < 256) :
    Calls Try.prog 7 #[.string k, v, .int .u64 n, .int .u8 kind] w fun x w' => x = .returned (.bool true) ∧ Ext w w' := by
  have HV := Lib.hid hv
  obtain ⟨⟨va, vc, rfl, -⟩, hlen, -⟩ := hv
  unfold maxLen at hlen hk
  by_cases hbig : 200 < k.size
  · have hb1 : (200 : Int) < k.size := by omega
    go_enter Try.func7, Try.ntmps7
    go_wp2_with fail
    refine (law14_known _).mono ?_
    rintro x w2 ⟨rfl, hx2⟩
    go_wp2
    go_ret
    exact ⟨rfl, hx2⟩
  have hb1 : ¬ (200 : Int) < k.size := by omega
  have hb2 : decide ((200 : Int) < k.size) = false := decide_eq_false hb1
  go_enter Try.func7, Try.ntmps7
  go_wp2_with fail
  refine (law14_Heavy _ l _ HV.out).mono ?_
  rintro x w1 ⟨⟨hvn, rfl⟩, hx1⟩
  by_cases hheavy : 300 < hvn ∨ (30 : Int) < l.length
  · have key : ∀ P : Prop, P → P := fun _ h => h
    rcases hheavy with h | h
    · go_wp2_with fail
      refine (law14_known _).mono ?_
      rintro x w2 ⟨rfl, hx2⟩
      go_wp2
      go_ret
      exact ⟨rfl, hx1.trans hx2⟩
    · by_cases h3 : 300 < hvn
      · go_wp2_with fail
        refine (law14_known _).mono ?_
        rintro x w2 ⟨rfl, hx2⟩
        go_wp2
        go_ret
        exact ⟨rfl, hx1.trans hx2⟩
      · go_wp2_with fail
        refine (law14_known _).mono ?_
        rintro x w2 ⟨rfl, hx2⟩
        go_wp2
        go_ret
        exact ⟨rfl, hx1.trans hx2⟩
  · have hh1 : ¬ 300 < hvn := fun q => hheavy (Or.inl q)
    have hh2 : ¬ (30 : Int) < l.length := fun q => hheavy (Or.inr q)
    clear hheavy
    go_wp2_with fail
    have hrl := rule_low (j := 0) (Or.inl rfl)
    have hbo := rule_bounds (j := 0) (by omega) (by omega)
    generalize hp2 : rP 0 = p2 at *
    generalize he2 : rE 0 = e2 at *
    generalize hb2 : rB 0 = b2 at *
    generalize hk2 : rK 0 = k2 at *
    have HRY := Lib.hid (And.intro hp2 (And.intro he2 (And.intro hb2 hk2)))
    obtain ⟨g1, g2, g3, g4, g5, g6, g7⟩ := hbo
    have HR := Lib.hid hrl.1
    clear hp2 he2 hb2 hk2 hrl
    refine (law14_RuleY 0 e2 b2 k2 p2 _ (by omega) (by omega) HRY).mono ?_
    rintro x w2 ⟨rfl, hx2⟩
    go_wp2_with fail
    refine (charge_nil ⟨#[97]⟩ p2 e2 b2 k2 1 _ (by decide) g7 g1 g2 g3 g4 g5 g6 (by omega) (by omega) (Lib.hid (by decide)) HR).mono ?_
    rintro x w3 ⟨⟨v3, rfl⟩, hx3⟩
    clear g1 g2 g3 g4 g5 g6 g7 HR HRY
    go_wp2_with fail
    refine (table_MoveAllNil 1 _ (by decide)).mono ?_
    rintro x w4 ⟨rfl, hx4⟩
    go_wp2_with fail
    refine (table_New 4 _ (by decide) (by decide)).mono ?_
    rintro x w5 ⟨rfl, ht5, hx5⟩
    have hF : FewAt w5 (w4.heap.size + 1) w4.heap.size [] 0 := ⟨ht5, TabOk.nil 0, by simp, fun x h => (by cases h)⟩
    have HX4 := Lib.hid (((hx1.trans hx2).trans hx3).trans hx4)
    have HV4 := Lib.hid (HV.out.ext HX4.out)
    have HF := Lib.hid hF
    have HX5 := Lib.hid hx5
    clear hF ht5 hx1 hx2 hx3 hx4 hx5 HV
    obtain ⟨⟨va', vc', hvv, hl⟩, -, heach⟩ := HV4.out
    cases hvv
    have HL := Lib.hid hl
    have HE := Lib.hid heach
    clear hl heach
    generalize hm : w4.heap.size = m at *
    go_wp2_with fail
    go_loopw [13] (fun i wr => ∃ (j : Nat) (lt : SMap) (ct : Nat), j ≤ l.length ∧ i = .int .i64 j ∧ FewAt wr (m + 1) m lt ct ∧ Ext w4 wr) (fun i _ => l.length - (intOf i).toNat)
    case atStart => exact ⟨0, [], 0, by omega, rfl, HF.out, HX5.out⟩
    case round =>
      obtain ⟨j, lt, ct, hj, rfl, hF, hxr⟩ := hrel
      have HFF := Lib.hid hF
      have hltn := hF.len
      have hmw : m + 1 < wr.heap.size := hF.a.blk.lt
      clear hF
      by_cases hjl : j < l.length
      · obtain ⟨bb, oo, rfl, hcc⟩ := HL.out (by intro e; rw [e] at hjl; simp at hjl)
        have hdd := HE.out l[j] (List.getElem_mem _)
        obtain ⟨d0, d1, d2, d3, d4, d5, d6⟩ := deed_cells hcc hxr j hjl
        have hbl : bb < m := by
          have := hcc j hjl 1 (by omega)
          have := cell_lt (v := .int .u32 l[j].wait) this
          omega
        generalize l[j] = dd at *
        have hNM := fun W (hx : Ext w4 W) => law14_Name dd W (hdd.ext hx)
        have hnm := nameOf_ok dd
        have hnx := nameOf_x dd
        obtain ⟨ka, kc, hkv, -⟩ := hdd.key.form
        have hkl := hdd.key.len
        obtain ⟨hdk0, hdk1, hdw0, hdw1, hdb0, hdb1, -, hdr0, hdr1, hdn0, hdn1, hdt0, hdt1⟩ := hdd
        simp only [hkv] at hNM d3
        generalize hname : nameOf dd = name at *
        generalize (dd.key).length = kn at *
        have HNM := Lib.hid hNM
        have HNX := Lib.hid hnx
        have hsz : name.size ≤ maxLen := by
          have h2 : 13 ≤ maxLen := by decide
          have h3 := hnm.2
          omega
        generalize dd.kind = dk at *
        generalize dd.wait = dw at *
        generalize dd.big = db at *
        generalize dd.rule = dr at *
        generalize dd.n = dn at *
        generalize dd.to = dt at *
        have hrb := rule_bounds hdr0 hdr1
        generalize hp2 : rP dr = p2 at *
        generalize he2 : rE dr = e2 at *
        generalize hb2 : rB dr = b2 at *
        generalize hk2 : rK dr = k2 at *
        have HRY := Lib.hid (And.intro hp2 (And.intro he2 (And.intro hb2 hk2)))
        obtain ⟨g1, g2, g3, g4, g5, g6, g7⟩ := hrb
        have ta := HFF.out.a.ext ((Ext.refl wr).drew)
        have ex := hxr.trans ((Ext.refl wr).drew)
        clear hcc hname hNM hnm hnx hkv hp2 he2 hb2 hk2
        go_upto_region 12 with fail
        go_region_held3 (fun w' => w'.cell? ⟨bb, oo + j * 7, none⟩ = some (.int .u8 dk) ∧ w'.cell? ⟨bb, oo + j * 7 + 1, none⟩ = some (.int .u32 dw) ∧ w'.cell? ⟨bb, oo + j * 7 + 2, none⟩ = some (.int .u8 db) ∧ w'.cell? ⟨bb, oo + j * 7 + 3, none⟩ = some (.slice ka kn kc) ∧ w'.cell? ⟨bb, oo + j * 7 + 4, none⟩ = some (.int .u8 dr) ∧ w'.cell? ⟨bb, oo + j * 7 + 5, none⟩ = some (.int .u16 dn) ∧ w'.cell? ⟨bb, oo + j * 7 + 6, none⟩ = some (.int .u8 dt))
          (exact ⟨d0, d1, d2, d3, d4, d5, d6⟩)
          (first
            | (go_at_call 17; (with_reducible refine (HNM.out _ ex).mono ?_); rintro x w6 ⟨rfl, hx6⟩; have ex := ex.trans hx6; have ta := ta.ext hx6; have d0 := hx6.keep d0; have d1 := hx6.keep d1; have d2 := hx6.keep d2; have d3 := hx6.keep d3; have d4 := hx6.keep d4; have d5 := hx6.keep d5; have d6 := hx6.keep d6)
            | (go_at_call 11; (with_reducible refine (law14_RuleY dr e2 b2 k2 p2 _ hdr0 hdr1 HRY).mono ?_); rintro x w6 ⟨rfl, hx6⟩; have ex := ex.trans hx6; have ta := ta.ext hx6; have d0 := hx6.keep d0; have d1 := hx6.keep d1; have d2 := hx6.keep d2; have d3 := hx6.keep d3; have d4 := hx6.keep d4; have d5 := hx6.keep d5; have d6 := hx6.keep d6)
            | (go_at_call 13; (with_reducible refine (charge_any (m + 1) m ct name p2 (4 : Nat) 0 e2 b2 k2 1 lt _ ta HFF.out.ok (by omega) (by omega) hsz g7 g1 g2 g3 g4 g5 g6 (by omega) (by omega)).mono ?_); rintro x w6 ⟨rfl, ta, hok6, hx6⟩; have ex := ex.own hx6 (by omega); have d0 := hx6.keep d0 (by dsimp only; omega); have d1 := hx6.keep d1 (by dsimp only; omega); have d2 := hx6.keep d2 (by dsimp only; omega); have d3 := hx6.keep d3 (by dsimp only; omega); have d4 := hx6.keep d4 (by dsimp only; omega); have d5 := hx6.keep d5 (by dsimp only; omega); have d6 := hx6.keep d6 (by dsimp only; omega)))
        have hF6 : FewAt _ (m + 1) m _ _ := ⟨ta, hok6, cgL_most ct name p2 e2 b2 k2 1 hltn, fun x hx => by
          rcases cgL_keys ct name p2 e2 b2 k2 1 hx with q | q
          · exact HFF.out.keys x q
          · rw [q]; exact HNX.out⟩
        have HF6 := Lib.hid hF6
        clear hF6 ta hok6
        go_wp2
        go_roundw
        case rel => exact ⟨j + 1, _, _, by omega, by go_num, HF6.out, ex⟩
        case measure => simp [intOf]; omega
      · go_wp2_with fail
        refine (table_Slots (m + 1) m ct (4 : Nat) 0 lt _ HFF.out.a HFF.out.ok (by omega) (by omega) (by omega)).mono ?_
        rintro x w6 ⟨v6, rfl, hs6, hx6⟩
        obtain ⟨a6, c6, rfl⟩ := hs6.size
        have hb6 := slots_block hs6 (fun s hs => by obtain ⟨n, hn⟩ := actives_mem ((slotsOf_perm 0 lt).mem_iff.1 hs); exact HFF.out.ok.ok _ hn) hx6.sz
        have hkx : ∀ s ∈ slotsOf 0 lt, s.key ≠ ⟨#[120]⟩ := fun s hs => by obtain ⟨n, hn⟩ := actives_mem ((slotsOf_perm 0 lt).mem_iff.1 hs); exact HFF.out.keys _ hn
        have hsl : (slotsOf 0 lt).length ≤ 4 := Nat.le_trans (by rw [slotsOf_len]; exact actives_len 0 lt) hltn
        have h6s := hx6.sz
        clear hs6
        go_wp2_with fail
        refine (table_Slots (m + 1) m ct (4 : Nat) 0 lt _ (HFF.out.a.ext hx6) HFF.out.ok (by omega) (by omega) (by omega)).mono ?_
        rintro x w7 ⟨v7, rfl, hs7, hx7⟩
        obtain ⟨a7, c7, rfl⟩ := hs7.size
        obtain ⟨b6, hb60, hb61, hb62, hany⟩ := hb6
        have hany7 : SlotsAny w7 b6 (slotsOf 0 lt).length := fun j hj => by
          have hne : slotsOf 0 lt ≠ [] := by intro e; rw [e] at hj; simp at hj
          obtain ⟨⟨s0, h0⟩, ⟨x, hx0, hx1, h6⟩, f0, f6⟩ := hany j hj
          exact ⟨⟨s0, hx7.keep h0⟩, ⟨x, hx0, hx1, hx7.keep h6⟩, (hx7.cells.2 _ _ (hb60 hne).2).trans f0, (hx7.cells.2 _ _ (hb60 hne).2).trans f6⟩
        have HS7 := Lib.hid hs7
        have HKX := Lib.hid hkx
        have HB6 := Lib.hid hb60
        have HANY := Lib.hid hany7
        have HF7 := Lib.hid (HFF.out.a.ext (hx6.trans hx7))
        have HX7 := Lib.hid (hxr.trans (hx6.trans hx7))
        have h7s := hx7.sz
        generalize slotsOf 0 lt = sl at *
        clear hs7 hkx hb60 hany7 hany hx6 hx7
        obtain ⟨wo, rfl⟩ : ∃ wo : World, wo = wr := ⟨_, rfl⟩
        go_wp2_with fail
        go_loopw [16] (fun i wq => ∃ j : Nat, j ≤ sl.length ∧ i = .int .i64 j ∧ SlotsAny wq b6 sl.length ∧ ExtB b6 w7 wq) (fun i _ => sl.length - (intOf i).toNat)
        case atStart => exact ⟨0, by omega, rfl, HANY.out, ExtB.refl _ _⟩
        case round =>
          obtain ⟨i, hi, rfl, han, hxq⟩ := hrel
          by_cases hil : i < sl.length
          · obtain ⟨rfl, -⟩ := HB6.out (by intro e; rw [e] at hil; simp at hil)
            obtain ⟨⟨s0, h0⟩, ⟨y, hy0, hy1, h6⟩, f0, f6⟩ := han i hil
            have HAN := Lib.hid han
            clear han
            go_wp2
            have hwr : 0 ≤ IntKind.u64.wrap (y + 1) ∧ IntKind.u64.wrap (y + 1) < 18446744073709551616 := by rw [wrap_u64]; omega
            exact ⟨⟨i + 1, by omega, by simp, (HAN.out.set0 i hil _).set6 i hil _ hwr.1 hwr.2, (hxq.setCell _ _).setCell _ _⟩, by show sl.length - ((i : Int) + 1).toNat < sl.length - (i : Int).toNat; omega⟩
          · have hmx : max 0 (n / 4) = n / 4 := by omega
            have hT9 := HF7.out.extB hxq (by omega) (by omega)
            have HT9 := Lib.hid hT9
            clear hT9 han
            go_wp2_with fail
            refine (table_Tick (m + 1) m ct (4 : Nat) 0 (n / 4) lt _ HT9.out (by omega) (by omega) (by omega) (by omega)).mono ?_
            rw [hmx]
            rintro x w8 ⟨rfl, ht8, hx8⟩
            have HT8 := Lib.hid ht8
            clear ht8 hmx
            have hz1 : 0 ≤ n / 4 := by omega
            have hz2 : n / 4 < 4611686018427387904 := by omega
            generalize hz : n / 4 = q at *
            have hfin : ∀ M : Int, M = max q 5 → (5 ≤ q ∧ M = q) ∨ (q < 5 ∧ M = 5) := by intro M h; omega
            go_wp2_with fail
            refine (table_Tick (m + 1) m ct (4 : Nat) q 5 lt _ HT8.out (by omega) (by omega) (by omega) (by omega)).mono ?_
            generalize hM : max q 5 = M
            have hMM := hfin M hM.symm
            clear hfin hM
            rintro x w9 ⟨rfl, ht9, hx9⟩
            have HX9 := Lib.hid (((HX7.out.own hxq (by omega)).own hx8 (by omega)).own hx9 (by omega))
            clear ht9
            have hk9 : sl = [] ∨ ∃ b s, 0 < sl.length ∧ a7 = some ⟨b, 0, none⟩ ∧ s ≠ ⟨#[120]⟩ ∧ w9.cell? ⟨b, 0, none⟩ = some (.string s) := by
              by_cases hs0 : sl = []
              · exact Or.inl hs0
              · obtain ⟨b, h1, s, hs, hc⟩ := slots_first HS7.out (Ext.refl _) hs0
                obtain ⟨b', h1', h2', -⟩ := slot_cells HS7.out (Ext.refl _) 0 (List.length_pos_iff.2 hs0)
                rw [h1] at h1'
                cases h1'
                have hb := (HB6.out hs0).2
                exact Or.inr ⟨b, s.key, List.length_pos_iff.2 hs0, h1, HKX.out s hs, hx9.keep (hx8.keep (hxq.keep hc (by dsimp only; omega)) (by dsimp only; omega)) (by dsimp only; omega)⟩
            have hzb : (q == n / 4) = true := by rw [hz]; simp
            clear hx8 hx9 hz
            rcases hk9 with hs0 | ⟨b, s, hsn, rfl, hsx, hc9⟩
            · have hl0 : sl.length = 0 := by rw [hs0]; rfl
              rw [hl0] at *
              clear hs0
              have hmx : (M == max q 5) = true := by
                rw [beq_iff_eq]
                rcases hMM with h | h <;> omega
              rcases hMM with ⟨hq5, rfl⟩ | ⟨hq5, rfl⟩
              all_goals
                go_wp2_with fail
                refine (law14_known _).mono ?_
                rintro x wA ⟨rfl, hxA⟩
                go_wp2_with fail
                refine (table_ActiveN _).mono ?_
                rintro x wB ⟨rfl, hxB⟩
                go_wp2_with fail
                refine (table_ClockN _).mono ?_
                rintro x wC ⟨rfl, rfl⟩
                go_wp2_with fail
                refine (table_TickN n _).mono ?_
                rintro x wC ⟨rfl, rfl⟩
                go_wp2_with fail
                refine (slots_nil _).mono ?_
                rintro x wD ⟨rfl, hxD⟩
                go_wp2_with fail
                refine (table_EntriesN _).mono ?_
                rintro x wE ⟨rfl, hxE⟩
                go_wp2_with fail
                refine (table_MoveNil 1 k _ (by decide)).mono ?_
                rintro x wF ⟨rfl, hxF⟩
                go_wp2_with fail
                refine (table_MoveN (m + 1) 9 k _ (by decide)).mono ?_
                rintro x wG ⟨rfl, hxG⟩
                have hX9G := (((hxA.trans hxB).trans hxD).trans hxE).trans (hxF.trans hxG)
                have HXG := Lib.hid ((HX4.out.trans HX9.out).trans hX9G)
                clear hxA hxB hxD hxE hxF hxG hX9G
                clear hk hlen
                go_wp2
                go_ret
                exact ⟨rfl, HXG.out⟩
            · have hl0 : ((sl.length : Int) == 0) = false := by
                rw [beq_eq_false_iff_ne]; omega
              have hs1 : (s.toList == (⟨#[120]⟩ : ByteArray).toList) = false := by
                rw [toList_beq]; simp only [decide_eq_false_iff_not]; exact hsx
              have hs2 : (s.toList == [120]) = false := by
                have h := hs1
                simpa using h
              have hmx : (M == max q 5) = true := by
                rw [beq_iff_eq]
                rcases hMM with h | h <;> omega
              rcases hMM with ⟨hq5, rfl⟩ | ⟨hq5, rfl⟩
              all_goals
                go_wp2_with fail
                refine (law14_known _).mono ?_
                rintro x wA ⟨rfl, hxA⟩
                go_wp2_with fail
                refine (table_ActiveN _).mono ?_
                rintro x wB ⟨rfl, hxB⟩
                go_wp2_with fail
                refine (table_ClockN _).mono ?_
                rintro x wC ⟨rfl, rfl⟩
                go_wp2_with fail
                refine (table_TickN n _).mono ?_
                rintro x wC ⟨rfl, rfl⟩
                go_wp2_with fail
                refine (slots_nil _).mono ?_
                rintro x wD ⟨rfl, hxD⟩
                go_wp2_with fail
                refine (table_EntriesN _).mono ?_
                rintro x wE ⟨rfl, hxE⟩
                go_wp2_with fail
                refine (table_MoveNil 1 k _ (by decide)).mono ?_
                rintro x wF ⟨rfl, hxF⟩
                go_wp2_with fail
                refine (table_MoveN (m + 1) 9 k _ (by decide)).mono ?_
                rintro x wG ⟨rfl, hxG⟩
                have hX9G := (((hxA.trans hxB).trans hxD).trans hxE).trans (hxF.trans hxG)
                have hcG := hX9G.keep hc9
                clear hc9
                have HXG := Lib.hid ((HX4.out.trans HX9.out).trans hX9G)
                clear hxA hxB hxD hxE hxF hxG hX9G
                clear hk hlen
                go_wp2
                go_ret
                first
                  | exact ⟨rfl, HXG.out⟩
                  | exact ⟨ret_bool (by rw [hs2]; rfl), HXG.out⟩
                  | exact ⟨by simp only [hs2]; rfl, HXG.out⟩
end Go.Proofs.Ytnlmbmbalmkiiaa
