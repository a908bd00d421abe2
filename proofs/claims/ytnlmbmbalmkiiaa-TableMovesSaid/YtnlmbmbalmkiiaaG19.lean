/- The walk of tollerlaw14.TableMoves. -/
import Derived.Deep.DeepCutAuto
import Derived.Deep.CutRange
import Derived.Deep.CutBlock
import Derived.Test.YtnlmbmbalmkiiaaG17
import Derived.Test.YtnlmbmbalmkiiaaG8
import Derived.Test.YtnlmbmbalmkiiaaG15
import Derived.Test.YtnlmbmbalmkiiaaG12
import Derived.Test.YtnlmbmbalmkiiaaG11

/- The walk of tollerlaw14.TableMoves. -/
namespace Go.Proofs.Ytnlmbmbalmkiiaa
open Go.RowKit
set_option linter.unusedVariables false
set_option linter.unusedSimpArgs false

/-- how far a deed's time is shifted -/
def shrOf (dw db : Int) : Int := dw / 2 ^ min (IntKind.u64.wrap (db.tmod 32)).toNat 32
theorem shrOf_u (dw db : Int) (h : 0 ≤ dw) : 0 ≤ shrOf dw db ∧ shrOf dw db ≤ dw := by
  unfold shrOf
  exact ⟨Int.ediv_nonneg h (Int.le_of_lt (Int.pow_pos (by decide))), Int.ediv_le_self _ h⟩
theorem shr_at {dw db clk : Int} (h0 : 0 ≤ dw) (h1 : dw < 4294967296) (hc0 : 0 ≤ clk) (hc1 : clk < 9223372036854775808) : IntKind.u64.wrap (clk + IntKind.u64.wrap (dw / 2 ^ min (IntKind.u64.wrap (db.tmod 32)).toNat 32)) = clk + shrOf dw db := by
  have := shrOf_u dw db h0
  show IntKind.u64.wrap (clk + IntKind.u64.wrap (shrOf dw db)) = _
  rw [wrap_u64, wrap_u64]
  omega
/-- two tables that look alike -/
structure Mv (w : World) (t m t' m' : Nat) (n : Nat) (clock : Int) (l l' : SMap) (c c' : Nat) : Prop where
  a : TabAt w t m n clock l c
  b : TabAt w t' m' n clock l' c'
  aok : TabOk l c
  bok : TabOk l' c'
  al : Al clock l l'
  len : l.length ≤ n

theorem Mv.up {w w' : World} {t m t' m' n : Nat} {clock : Int} {l l' : SMap} {c c' : Nat} (h : Mv w t m t' m' n clock l l' c c') (e : Ext w w') : Mv w' t m t' m' n clock l l' c c' := ⟨h.a.ext e, h.b.ext e, h.aok, h.bok, h.al, h.len⟩
/-- behind a deed -/
def MvCut (w1 w : World) (t m t' m' n i : Nat) : Prop := ∃ (lt lu : SMap) (ct cu : Nat) (clk : Int), 0 ≤ clk ∧ clk ≤ 4294967296 * (i + 1) ∧ Mv w t m t' m' n clk lt lu ct cu ∧ Ext w1 w

set_option maxHeartbeats 4000000 in
set_option maxRecDepth 100000 in
theorem moves_walk (m : Int) (v : Value) (l : List Deed) (w : World) (hv : DeedSlice w v l) (hm0 : 0 ≤ m) (hm1 : m < 256) :
    Calls Try.prog 6 #[.int .u8 m, v] w fun x w' => x = .returned (.bool true) ∧ Ext w w' := by
  have HV := Lib.hid hv
  clear hv
  go_enter Try.func6, Try.ntmps6
  go_wp2_with fail
  refine (law14_Heavy v l _ HV.out).mono ?_
  rintro x w1 ⟨⟨hvn, rfl⟩, hx1⟩
  by_cases hbig : 500 < hvn
  · go_wp2_with fail
    refine (law14_known _).mono ?_
    rintro x w2 ⟨rfl, hx2⟩
    go_wp2
    go_ret
    exact ⟨rfl, (by repeat (first | with_reducible exact Ext.refl _ | with_reducible assumption | with_reducible refine Ext.alloc ?_ _ | with_reducible refine Ext.drew ?_ | (with_reducible refine Ext.setCell ?_ (by first | exact Nat.le_refl _ | (dsimp only; omega) | (simp; done) | (simp; omega)) _) | with_reducible refine Ext.trans ?_ (by with_reducible assumption)))⟩
  · have hv2 : m.tmod 5 = m % 5 := Int.tmod_eq_emod_of_nonneg hm0
    have hv3 : IntKind.u8.wrap (m % 5) = m % 5 := by simp [IntKind.wrap, IntKind.signed, IntKind.bits]; omega
    have hm5 : 0 ≤ m % 5 ∧ m % 5 < 5 := by omega
    obtain ⟨hm50, hm51⟩ := hm5
    go_wp2_with fail
    generalize hN : 1 + m % 5 = N at *
    have hN1 : 1 ≤ N := by omega
    have hN5 : N ≤ 5 := by omega
    have HN := Lib.hid hN
    clear hN
    refine (table_New N _ (by omega) (by omega)).mono ?_
    rintro x w2 ⟨rfl, ht2, hx2⟩
    go_wp2_with fail
    rw [HN.out]
    refine (table_New N _ (by omega) (by omega)).mono ?_
    rintro x w3 ⟨rfl, ht3, hx3⟩
    clear hm50 hm51 hv2 hv3 HN
    have hmo : mostOf N = N := by unfold mostOf; omega
    rw [hmo] at ht2 ht3
    obtain ⟨n, rfl⟩ : ∃ n : Nat, N = (n : Int) := ⟨N.toNat, by omega⟩
    have h23 := ht2.blk.lt
    have hT : Mv w3 (w1.heap.size + 1) w1.heap.size (w2.heap.size + 1) w2.heap.size n 0 [] [] 0 0 := ⟨ht2.ext hx3, ht3, TabOk.nil 0, TabOk.nil 0, Al.nil 0, by simp⟩
    have HT := Lib.hid hT
    have HV2 := Lib.hid (HV.out.ext hx1)
    obtain ⟨⟨va, vc, rfl, hl⟩, hlen, heach⟩ := HV2.out
    unfold maxLen at hlen
    have HL := Lib.hid hl
    have HE := Lib.hid heach
    have HX := Lib.hid (hx2.trans hx3)
    clear hl heach HV HV2 ht2 ht3 hT hx2 hx3 hmo
    generalize hm1 : w1.heap.size = m1 at *
    generalize w2.heap.size = m2 at *
    go_wp2_with fail
    go_loopw [7] (fun j wr => ∃ (i : Nat) (lt lu : SMap) (ct cu : Nat) (clk : Int), i ≤ l.length ∧ i ≤ 40 ∧ j = .int .i64 i ∧ 0 ≤ clk ∧ clk ≤ 4294967296 * i ∧ Mv wr (m1 + 1) m1 (m2 + 1) m2 n clk lt lu ct cu ∧ Ext w1 wr) (fun j _ => 40 - (intOf j).toNat)
    case atStart => exact ⟨0, [], [], 0, 0, 0, by omega, by omega, rfl, by omega, by omega, HT.out, HX.out⟩
    case round =>
      obtain ⟨i, lt, lu, ct, cu, clk, hi1, hi2, rfl, hcl0, hcl1, hT, hxr⟩ := hrel
      have HTT := Lib.hid hT
      have hm1b : m1 < wr.heap.size := hT.a.map.lt
      have hm2b : m2 < wr.heap.size := hT.b.map.lt
      have hm1c : m1 + 1 < wr.heap.size := hT.a.blk.lt
      have hm2c : m2 + 1 < wr.heap.size := hT.b.blk.lt
      have hltn := hT.len
      clear hT
      by_cases hi : i < l.length ∧ i < 40
      · obtain ⟨hi3, hi4⟩ := hi
        obtain ⟨bb, oo, rfl, hcc⟩ := HL.out (by intro e; rw [e] at hi3; simp at hi3)
        have hdd := HE.out l[i] (List.getElem_mem _)
        obtain ⟨d0, d1, d2, d3, d4, d5, d6⟩ := deed_cells hcc hxr i hi3
        generalize l[i] = dd at *
        have HD := Lib.hid (hdd.ext hxr)
        have hNM := fun W (hx : Ext w1 W) => law14_Name dd W (hdd.ext hx)
        have hCO := fun W => law14_cost dd W hdd.n0 hdd.n1
        have hnm := nameOf_ok dd
        have hco := costOf_u hdd.n0 hdd.n1
        obtain ⟨ka, kc, hkv, -⟩ := hdd.key.form
        have hkl := hdd.key.len
        obtain ⟨hdk0, hdk1, hdw0, hdw1, hdb0, hdb1, -, hdr0, hdr1, hdn0, hdn1, hdt0, hdt1⟩ := hdd
        simp only [hkv] at hNM hCO d3
        generalize hname : nameOf dd = name at *
        generalize hcost : costOf dd.n = cost at *
        generalize (dd.key).length = kn at *
        have HNM := Lib.hid hNM
        have HCO := Lib.hid hCO
        have HNO := Lib.hid hnm
        obtain ⟨hco0, hco1⟩ := hco
        generalize dd.kind = dk at *
        generalize dd.wait = dw at *
        generalize dd.big = db at *
        generalize dd.rule = dr at *
        generalize dd.n = dn at *
        generalize dd.to = dt at *
        have bd := Blk.new wr #[.int .u8 dk, .int .u32 dw, .int .u8 db, .slice ka kn kc, .int .u8 dr, .int .u16 dn, .int .u8 dt] 40
        have hx0 : Ext wr (wr.alloc (.cells #[.int .u8 dk, .int .u32 dw, .int .u8 db, .slice ka kn kc, .int .u8 dr, .int .u16 dn, .int .u8 dt] 40)) := (Ext.refl wr).alloc _
        clear hcc hname hcost hNM hCO hnm hkv
        go_upto_block 2 with fail
        generalize wr.alloc (.cells #[.int .u8 dk, .int .u32 dw, .int .u8 db, .slice ka kn kc, .int .u8 dr, .int .u16 dn, .int .u8 dt] 40) = wa at *
        have hwa : wr.heap.size < wa.heap.size := bd.lt
        generalize hG : wr.heap.size = G at *
        have HBD := Lib.hid bd
        have c0 : wa.cell? ⟨G, 0, none⟩ = some (.int .u8 dk) := bd.cell 0
        have c1 : wa.cell? ⟨G, 1, none⟩ = some (.int .u32 dw) := bd.cell 1
        have c2 : wa.cell? ⟨G, 2, none⟩ = some (.int .u8 db) := bd.cell 2
        have c3 : wa.cell? ⟨G, 3, none⟩ = some (.slice ka kn kc) := bd.cell 3
        have c4 : wa.cell? ⟨G, 4, none⟩ = some (.int .u8 dr) := bd.cell 4
        have c5 : wa.cell? ⟨G, 5, none⟩ = some (.int .u16 dn) := bd.cell 5
        have c6 : wa.cell? ⟨G, 6, none⟩ = some (.int .u8 dt) := bd.cell 6
        have HTA := Lib.hid (HTT.out.up hx0)
        have hxa := hxr.trans hx0
        have hv8 : IntKind.u8.wrap (dk % 8) = dk % 8 := by simp [IntKind.wrap, IntKind.signed, IntKind.bits]; omega
        clear bd d0 d1 d2 d3 d4 d5 d6
        go_cut [9, 10, 11] from 32 to 115 (fun _ _ _ wx => MvCut w1 wx (m1 + 1) m1 (m2 + 1) m2 n i)
        case first =>
          rcases (by omega : dk % 8 = 0 ∨ dk % 8 = 1 ∨ dk % 8 = 2 ∨ (dk % 8 ≠ 0 ∧ dk % 8 ≠ 1 ∧ dk % 8 ≠ 2)) with q | q | q | ⟨q0, q1, q2⟩
          · have hsh := shrOf_u dw db hdw0
            have hat := shr_at (db := db) hdw0 hdw1 hcl0 (by omega)
            generalize shrOf dw db = S at *
            obtain ⟨hS0, hS1⟩ := hsh
            go_upto_region 18 with fail
            go_region_held3 (fun w' => w'.cell? ⟨G, 1, none⟩ = some (.int .u32 dw) ∧ w'.cell? ⟨G, 2, none⟩ = some (.int .u8 db))
              (first | exact ⟨c1, c2⟩)
              (first
                | (go_at_call 15; (with_reducible refine (table_Clock (m1 + 1) m1 ct n clk lt _ (HTA.out.a.ext ((Ext.refl _).drew)) hcl0 (by omega)).mono ?_); rintro x w4 ⟨rfl, ht4, hx4⟩; have c1 := hx4.keep c1 (by dsimp only; omega); have c2 := hx4.keep c2 (by dsimp only; omega)))
            have hA4 : ExtB (m1 + 1) wa w4 := (((Ext.refl _).drew).toB _).trans hx4
            have HB4 := Lib.hid (HTA.out.b.extB hA4 (by omega) (by omega))
            have HT4 := Lib.hid ht4
            have hmx : max clk (clk + S) = clk + S := by omega
            clear hx4 ht4
            go_wp2_with fail
            refine (table_Tick (m1 + 1) m1 ct n clk (clk + S) lt _ HT4.out hcl0 (by omega) (by omega) (by omega)).mono ?_
            rw [hmx]
            rintro x w5 ⟨rfl, ht5, hx5⟩
            have HT5 := Lib.hid ht5
            clear ht5
            go_wp2_with fail
            refine (table_Tick (m2 + 1) m2 cu n clk (clk + S) lu _ (HB4.out.extB hx5 (by omega) (by omega)) hcl0 (by omega) (by omega) (by omega)).mono ?_
            rw [hmx]
            rintro x w6 ⟨rfl, ht6, hx6⟩
            go_wp2
            go_meet
            exact ⟨lt, lu, ct, cu, clk + S, by omega, by omega, ⟨HT5.out.extB hx6 (by omega) (by omega), ht6, HTA.out.aok, HTA.out.bok, HTA.out.al.later hcl0 (by omega) (by omega), hltn⟩, ((hxa.own hA4 (by omega)).own hx5 (by omega)).own hx6 (by omega)⟩
          · go_upto_region 22 with fail
            go_region_held3 (fun w' => w'.cell? ⟨G, 0, none⟩ = some (.int .u8 dk) ∧ w'.cell? ⟨G, 1, none⟩ = some (.int .u32 dw) ∧ w'.cell? ⟨G, 2, none⟩ = some (.int .u8 db) ∧ w'.cell? ⟨G, 3, none⟩ = some (.slice ka kn kc) ∧ w'.cell? ⟨G, 4, none⟩ = some (.int .u8 dr) ∧ w'.cell? ⟨G, 5, none⟩ = some (.int .u16 dn) ∧ w'.cell? ⟨G, 6, none⟩ = some (.int .u8 dt))
              (first | exact ⟨c0, c1, c2, c3, c4, c5, c6⟩)
              (first
                | (go_at_call 17; (with_reducible refine (HNM.out _ (hxa.trans ((Ext.refl _).drew))).mono ?_); rintro x w4 ⟨rfl, hx4⟩; have c0 := hx4.keep c0; have c1 := hx4.keep c1; have c2 := hx4.keep c2; have c3 := hx4.keep c3; have c4 := hx4.keep c4; have c5 := hx4.keep c5; have c6 := hx4.keep c6)
                | (go_at_call 21; (with_reducible refine (move_al (m1 + 1) m1 ct n clk _ name lt lu _ (HTA.out.a.ext (((Ext.refl _).drew).trans hx4)) HTA.out.aok HTA.out.al hcl0 (by omega)).mono ?_); rintro x w5 ⟨v5, l5, c5', rfl, ht5, hok5, hal5, hx5⟩; have c0 := hx5.keep c0 (by dsimp only; omega); have c1 := hx5.keep c1 (by dsimp only; omega); have c2 := hx5.keep c2 (by dsimp only; omega); have c3 := hx5.keep c3 (by dsimp only; omega); have c4 := hx5.keep c4 (by dsimp only; omega); have c5 := hx5.keep c5 (by dsimp only; omega); have c6 := hx5.keep c6 (by dsimp only; omega)))
            go_wp2
            go_meet
            have hxm : ExtB m1 wa w5 := ((((Ext.refl _).drew).trans hx4).toB m1).trans hx5
            exact ⟨l5, lu, c5', cu, clk, by omega, by omega, ⟨ht5, HTA.out.b.extB hxm (by omega) (by omega), hok5, HTA.out.bok, hal5, by rw [hal5.len, ← HTA.out.al.len]; exact hltn⟩, hxa.own hxm (by omega)⟩
          · go_wp2_with fail
            refine (moveAll_al (m1 + 1) m1 ct n clk _ lt lu _ HTA.out.a HTA.out.aok HTA.out.al hcl0 (by omega) (by omega)).mono ?_
            rintro x w5 ⟨v5, l5, c5', rfl, ht5, hok5, hal5, hx5⟩
            go_wp2
            go_meet
            exact ⟨l5, lu, c5', cu, clk, by omega, by omega, ⟨ht5, HTA.out.b.extB hx5 (by omega) (by omega), hok5, HTA.out.bok, hal5, by rw [hal5.len, ← HTA.out.al.len]; exact hltn⟩, hxa.own hx5 (by omega)⟩
          · have hq0 : (dk % 8 == 0) = false := by simpa using q0
            have hq1 : (dk % 8 == 1) = false := by simpa using q1
            have hq2 : (dk % 8 == 2) = false := by simpa using q2
            have hrk := rule_ok (j := dr % 240) (by omega) (by omega)
            have hw0 : dr.tmod 240 = dr % 240 := Int.tmod_eq_emod_of_nonneg hdr0
            have hw1 : IntKind.u8.wrap (dr % 240) = dr % 240 := by simp [IntKind.wrap, IntKind.signed, IntKind.bits]; omega
            have hw2 : dt.tmod 3 = dt % 3 := Int.tmod_eq_emod_of_nonneg hdt0
            have hw3 : IntKind.u8.wrap (dt % 3) = dt % 3 := by simp [IntKind.wrap, IntKind.signed, IntKind.bits]; omega
            have hw4 : IntKind.u8.wrap (1 + dt % 3) = 1 + dt % 3 := by simp [IntKind.wrap, IntKind.signed, IntKind.bits]; omega
            generalize hp2 : rP (dr % 240) = p2 at *
            generalize he2 : rE (dr % 240) = e2 at *
            generalize hb2 : rB (dr % 240) = b2 at *
            generalize hk2 : rK (dr % 240) = k2 at *
            have HRY := Lib.hid (And.intro hp2 (And.intro he2 (And.intro hb2 hk2)))
            obtain ⟨f1, f2, f3, f4, f5, f6, f7, f8⟩ := hrk
            clear hp2 he2 hb2 hk2
            go_wp2_with fail
            refine (law14_RuleY (dr % 240) e2 b2 k2 p2 _ (by omega) (by omega) HRY).mono ?_
            rintro x w4 ⟨rfl, hx4⟩
            replace c0 := hx4.keep c0
            replace c1 := hx4.keep c1
            replace c2 := hx4.keep c2
            replace c3 := hx4.keep c3
            replace c4 := hx4.keep c4
            replace c5 := hx4.keep c5
            replace c6 := hx4.keep c6
            have h4s := hx4.sz
            have hG4 : G < w4.heap.size := by omega
            go_upto_region 15 with fail
            have b1 := (Blk.new w4 #[.string p2, .int .u64 e2, .int .u64 b2, .int .u8 k2] 30).alloc (.cells #[.string p2, .int .u64 e2, .int .u64 b2, .int .u8 (1 + dt % 3)] 30)
            have b2' := Blk.new' (w4.alloc (.cells #[.string p2, .int .u64 e2, .int .u64 b2, .int .u8 k2] 30)) #[.string p2, .int .u64 e2, .int .u64 b2, .int .u8 (1 + dt % 3)] 30 (b := w4.heap.size + 1) (by simp)
            have hx5 : Ext wa ((w4.alloc (.cells #[.string p2, .int .u64 e2, .int .u64 b2, .int .u8 k2] 30)).alloc (.cells #[.string p2, .int .u64 e2, .int .u64 b2, .int .u8 (1 + dt % 3)] 30)) := (hx4.alloc _).alloc _
            generalize (w4.alloc (.cells #[.string p2, .int .u64 e2, .int .u64 b2, .int .u8 k2] 30)).alloc (.cells #[.string p2, .int .u64 e2, .int .u64 b2, .int .u8 (1 + dt % 3)] 30) = wb at *
            have bd := (HBD.out.ext hx5).drew
            replace b1 := b1.drew
            replace b2' := b2'.drew
            have ta := HTA.out.a.ext (hx5.trans ((Ext.refl _).drew))
            have tb := HTA.out.b.ext (hx5.trans ((Ext.refl _).drew))
            have ex := hxa.trans (hx5.trans ((Ext.refl _).drew))
            have hr' := ruleErr_kind (rk' := 1 + dt % 3) f1 (by unfold rightKind; simp; omega)
            obtain ⟨hva, hala⟩ := HTA.out.al.charge (most := n) ct cu (k := name) f1 hr' hcl0 (by omega) hco0
            have hlen7 := cgL_most (clock := clk) ct name p2 e2 b2 k2 cost hltn
            obtain ⟨code, err, lim, left, reset, aft, nan, ret, hV⟩ := cgV_form n clk lt name p2 e2 b2 k2 cost
            have HV1 := Lib.hid (show cgV n clk lt name p2 e2 b2 k2 cost = .agg #[.int .u8 code, .int .u16 err, .int .u64 lim, .int .u64 left, .int .u64 reset, .int .u64 aft, .int .u64 nan, .bool ret, .int .i64 0, .slice none 0 0] from hV)
            have HV2 := Lib.hid (hva.symm.trans HV1.out)
            have HALA := Lib.hid hala
            have hsz : name.size ≤ maxLen := by
              have h2 : 13 ≤ maxLen := by decide
              have h3 := HNO.out.2
              omega
            have hk2 : 0 ≤ k2 ∧ k2 < 256 := by
              obtain ⟨-, -, -, -, q⟩ := ruleErr_zero f1
              unfold rightKind at q; simp at q; omega
            obtain ⟨hk20, hk21⟩ := hk2
            clear hV hva hala f1 hr' c0 c1 c2 c3 c4 c5 c6 hx4
            go_region_held3 (fun w' => w'.cell? ⟨G, 0, none⟩ = some (.int .u8 dk) ∧ w'.cell? ⟨G, 1, none⟩ = some (.int .u32 dw) ∧ w'.cell? ⟨G, 2, none⟩ = some (.int .u8 db) ∧ w'.cell? ⟨G, 3, none⟩ = some (.slice ka kn kc) ∧ w'.cell? ⟨G, 4, none⟩ = some (.int .u8 dr) ∧ w'.cell? ⟨G, 5, none⟩ = some (.int .u16 dn) ∧ w'.cell? ⟨G, 6, none⟩ = some (.int .u8 dt) ∧ w'.cell? ⟨w4.heap.size, 0, none⟩ = some (.string p2) ∧ w'.cell? ⟨w4.heap.size, 1, none⟩ = some (.int .u64 e2) ∧ w'.cell? ⟨w4.heap.size, 2, none⟩ = some (.int .u64 b2) ∧ w'.cell? ⟨w4.heap.size, 3, none⟩ = some (.int .u8 k2) ∧ w'.cell? ⟨w4.heap.size + 1, 0, none⟩ = some (.string p2) ∧ w'.cell? ⟨w4.heap.size + 1, 1, none⟩ = some (.int .u64 e2) ∧ w'.cell? ⟨w4.heap.size + 1, 2, none⟩ = some (.int .u64 b2) ∧ w'.cell? ⟨w4.heap.size + 1, 3, none⟩ = some (.int .u8 (1 + dt % 3)))
              (exact ⟨bd.cell 0, bd.cell 1, bd.cell 2, bd.cell 3, bd.cell 4, bd.cell 5, bd.cell 6, b1.cell 0, b1.cell 1, b1.cell 2, b1.cell 3, b2'.cell 0, b2'.cell 1, b2'.cell 2, b2'.cell 3⟩)
              (first
                | (go_at_call 17; (with_reducible refine (HNM.out _ ex).mono ?_); rintro x w6 ⟨rfl, hx6⟩; have ex := ex.trans hx6; have bd := bd.ext hx6; have b1 := b1.ext hx6; have b2' := b2'.ext hx6; have ta := ta.ext hx6; have tb := tb.ext hx6)
                | (go_at_call 23; (with_reducible refine (HCO.out _).mono ?_); rintro x w6 ⟨rfl, hx6⟩; have ex := ex.trans hx6; have bd := bd.ext hx6; have b1 := b1.ext hx6; have b2' := b2'.ext hx6; have ta := ta.ext hx6; have tb := tb.ext hx6)
                | (go_at_call 13; (with_reducible refine (charge_any (m1 + 1) m1 ct name p2 n clk e2 b2 k2 cost lt _ ta HTA.out.aok hcl0 (by omega) hsz f7 (by omega) f2 (by omega) f3 hk20 hk21 hco0 hco1).mono ?_); rw [HV1.out]; rintro x w6 ⟨rfl, ta, hok6, hx6⟩; have ex := ex.own hx6 (by omega); have bd := bd.extB hx6 (by omega); have b1 := b1.extB hx6 (by omega); have b2' := b2'.extB hx6 (by omega); have tb := tb.extB hx6 (by omega) (by omega))
                | (go_at_call 13; (with_reducible refine (charge_any (m2 + 1) m2 cu name p2 n clk e2 b2 (1 + dt % 3) cost lu _ tb HTA.out.bok hcl0 (by omega) hsz f7 (by omega) f2 (by omega) f3 (by omega) (by omega) hco0 hco1).mono ?_); rw [HV2.out]; rintro x w6 ⟨rfl, tb, hok7, hx6⟩; have ex := ex.own hx6 (by omega); have bd := bd.extB hx6 (by omega); have b1 := b1.extB hx6 (by omega); have b2' := b2'.extB hx6 (by omega); have ta := ta.extB hx6 (by omega) (by omega))
                | (go_at_call 16; (with_reducible refine (ref14_Answers_yes code err lim left reset aft nan ret _).mono ?_); rintro x w6 ⟨rfl, hx6⟩; have ex := ex.trans hx6; have bd := bd.ext hx6; have b1 := b1.ext hx6; have b2' := b2'.ext hx6; have ta := ta.ext hx6; have tb := tb.ext hx6))
            go_wp2
            go_meet
            exact ⟨_, _, _, _, clk, by omega, by omega, ⟨ta, tb, hok6, hok7, HALA.out, hlen7⟩, ex⟩
        case rest =>
          obtain ⟨l2, u2, c2', d2', clk2, hk0, hk1, hM2, hx2⟩ := hcut
          have hl2 := hM2.len
          have hl2' := hM2.al.len
          have HM2 := Lib.hid hM2
          have hen := hM2.al.ents
          have HEN := Lib.hid hen
          clear hM2 hen
          go_wp2_with fail
          refine (table_Entries (m1 + 1) m1 c2' n clk2 l2 _ HM2.out.a HM2.out.aok hk0 (by omega) (by omega)).mono ?_
          rintro x w7 ⟨v7, rfl, hr7, hx7⟩
          have HR7 := Lib.hid hr7
          clear hr7
          go_wp2_with fail
          refine (table_Entries (m2 + 1) m2 d2' n clk2 u2 _ (HM2.out.b.ext hx7) HM2.out.bok hk0 (by omega) (by omega)).mono ?_
          rw [← HEN.out]
          rintro x w8 ⟨v8, rfl, hr8, hx8⟩
          have HR8 := Lib.hid hr8
          clear hr8
          go_wp2_with fail
          refine (ref14_Entry_yes _ _ v7 v8 (entsOf clk2 l2) _ (HR7.out.ext hx8) HR8.out).mono ?_
          rintro x w9 ⟨rfl, hx9⟩
          have HX9 := Lib.hid ((hx7.trans hx8).trans hx9)
          clear hx7 hx8 hx9
          go_wp2
          go_roundw
          case rel => exact ⟨i + 1, l2, u2, c2', d2', clk2, by omega, by omega, by go_num, hk0, by omega, HM2.out.up HX9.out, hx2.trans HX9.out⟩
          case measure => simp [intOf]; omega
      · rcases (by omega : ¬ i < l.length ∨ (i < l.length ∧ ¬ i < 40)) with hi3 | ⟨hi3, hi4⟩
        all_goals
          go_wp2_with fail
          refine (law14_known _).mono ?_
          rintro x w5 ⟨rfl, hx5⟩
          go_wp2
          go_ret
          exact ⟨rfl, hx1.trans (hxr.trans hx5)⟩
end Go.Proofs.Ytnlmbmbalmkiiaa
