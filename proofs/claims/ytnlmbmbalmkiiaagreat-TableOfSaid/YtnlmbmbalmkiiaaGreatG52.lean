/- Walk: tollerlaw14.step, kind 0. Walk: tollerlaw14.step, kind 1. Walk: tollerlaw14.step, kind 2. -/
import Derived.Test.YtnlmbmbalmkiiaaGreatG50

/- Walk: tollerlaw14.step, kind 0. -/
namespace Go.Proofs.YtnlmbmbalmkiiaaGreat
open Go.RowKit
set_option linter.unusedVariables false
set_option linter.unusedSimpArgs false

set_option maxHeartbeats 4000000 in
set_option maxRecDepth 1000000 in
theorem law_step0 (B t m c n : Nat) (most clock : Int) (l : SMap) (v : Value) (all : List Slot) (d : Deed) (w0 w : World) (h : RelAt B w t m c most clock l v all n) (hB : B ≤ w.heap.size) (hn : n < 1000) (hx : Ext w0 w) (h1 : w0.heap.size ≤ t) (h2 : w0.heap.size ≤ m) (hd : DeedOk w0 d) (hq : d.kind % 8 = 0) :
    Calls Tryz.prog 13 #[.pointer (some ⟨t, 0, none⟩), .agg #[.int .i64 most, .int .u64 clock, v], .agg #[.int .u8 d.kind, .int .u32 d.wait, .int .u8 d.big, d.keyv, .int .u8 d.rule, .int .u16 d.n, .int .u8 d.to]] w fun x w' =>
      ∃ clock' l' c' v' all', x = .returned (.tuple #[.agg #[.int .i64 most, .int .u64 clock', v'], .bool true]) ∧ RelAt B w' t m c' most clock' l' v' all' (n + 1) ∧ Ext2 t m w w' := by
  obtain ⟨va, vc, rfl⟩ := h.row.size
  have hNM := fun W (hx : Ext w0 W) => law14_Name d W (hd.ext hx)
  have hCO := fun W => law14_cost d W hd.n0 hd.n1
  have hnm := nameOf_ok d
  have hco := costOf_u hd.n0 hd.n1
  obtain ⟨ka, kc, hkv, -⟩ := hd.key.form
  obtain ⟨hdk0, hdk1, hdw0, hdw1, hdb0, hdb1, -, hdr0, hdr1, hdn0, hdn1, hdt0, hdt1⟩ := hd
  simp only [hkv] at hNM hCO ⊢
  generalize nameOf d = name at *
  generalize costOf d.n = cost at *
  generalize (d.key).length = kn at *
  generalize d.kind = dk at *
  generalize d.wait = dw at *
  generalize d.big = db at *
  generalize d.rule = dr at *
  generalize d.n = dn at *
  generalize d.to = dt at *
  have HNM := Lib.hid hNM
  have HCO := Lib.hid hCO
  have HNO := Lib.hid hnm
  obtain ⟨hco0, hco1⟩ := hco
  clear hkv hNM hCO hnm
  have ht := ((Blk.new w #[.int .i64 most, .int .u64 clock, .slice va all.length vc] 47).alloc (.cells #[.int .u8 dk, .int .u32 dw, .int .u8 db, .slice ka kn kc, .int .u8 dr, .int .u16 dn, .int .u8 dt] 37)).alloc (.cells #[.int .i64 0, .int .u64 0, .slice none 0 0] 47)
  have hdb := (Blk.new' (w.alloc (.cells #[.int .i64 most, .int .u64 clock, .slice va all.length vc] 47)) #[.int .u8 dk, .int .u32 dw, .int .u8 db, .slice ka kn kc, .int .u8 dr, .int .u16 dn, .int .u8 dt] 37 (b := w.heap.size + 1) (by simp)).alloc (.cells #[.int .i64 0, .int .u64 0, .slice none 0 0] 47)
  have hre := Blk.new' ((w.alloc (.cells #[.int .i64 most, .int .u64 clock, .slice va all.length vc] 47)).alloc (.cells #[.int .u8 dk, .int .u32 dw, .int .u8 db, .slice ka kn kc, .int .u8 dr, .int .u16 dn, .int .u8 dt] 37)) #[.int .i64 0, .int .u64 0, .slice none 0 0] 47 (b := w.heap.size + 1 + 1) (by simp)
  have hxa : Ext w (((w.alloc (.cells #[.int .i64 most, .int .u64 clock, .slice va all.length vc] 47)).alloc (.cells #[.int .u8 dk, .int .u32 dw, .int .u8 db, .slice ka kn kc, .int .u8 dr, .int .u16 dn, .int .u8 dt] 37)).alloc (.cells #[.int .i64 0, .int .u64 0, .slice none 0 0] 47)) := (((Ext.refl w).alloc _).alloc _).alloc _
  have hv8 : IntKind.u8.wrap (dk % 8) = dk % 8 := by simp [IntKind.wrap, IntKind.signed, IntKind.bits]; omega
  have hn0 := h.n0
  have hn1 := h.n1
  have hbt := h.bt
  have hbm := h.bm
  have HX := Lib.hid hx
  have HH := Lib.hid h
  clear hx h
  go_enter Tryz.func13, Tryz.ntmps13
  go_upto_region 1 with fail
  generalize (((w.alloc (.cells #[.int .i64 most, .int .u64 clock, .slice va all.length vc] 47)).alloc (.cells #[.int .u8 dk, .int .u32 dw, .int .u8 db, .slice ka kn kc, .int .u8 dr, .int .u16 dn, .int .u8 dt] 37)).alloc (.cells #[.int .i64 0, .int .u64 0, .slice none 0 0] 47)) = wa at *
  generalize hG : w.heap.size = G at *
  have HA := Lib.hid (HH.out.up hxa)
  have HXA := Lib.hid (HX.out.trans hxa)
  have HT := Lib.hid ht
  have HDB := Lib.hid hdb
  have HRE := Lib.hid hre
  have HW := Lib.hid hxa
  have hga : G + 1 + 1 < wa.heap.size := hre.lt
  have t0 : wa.cell? ⟨G, 0, none⟩ = some (.int .i64 most) := ht.cell 0
  have t1 : wa.cell? ⟨G, 1, none⟩ = some (.int .u64 clock) := ht.cell 1
  have t2 : wa.cell? ⟨G, 2, none⟩ = some (.slice va all.length vc) := ht.cell 2
  have c0 : wa.cell? ⟨G + 1, 0, none⟩ = some (.int .u8 dk) := hdb.cell 0
  have c1 : wa.cell? ⟨G + 1, 1, none⟩ = some (.int .u32 dw) := hdb.cell 1
  have c2 : wa.cell? ⟨G + 1, 2, none⟩ = some (.int .u8 db) := hdb.cell 2
  have c3 : wa.cell? ⟨G + 1, 3, none⟩ = some (.slice ka kn kc) := hdb.cell 3
  have c4 : wa.cell? ⟨G + 1, 4, none⟩ = some (.int .u8 dr) := hdb.cell 4
  have c5 : wa.cell? ⟨G + 1, 5, none⟩ = some (.int .u16 dn) := hdb.cell 5
  have c6 : wa.cell? ⟨G + 1, 6, none⟩ = some (.int .u8 dt) := hdb.cell 6
  clear ht hdb hre hxa
  have hnw : t ≠ G + 1 := by omega
  go_upto_region 3 with fail
  go_region_held3 (fun w' => w'.cell? ⟨G + 1, 1, none⟩ = some (.int .u32 dw) ∧ w'.cell? ⟨G + 1, 2, none⟩ = some (.int .u8 db) ∧ ExtB t wa w')
    (((try go_split_ands); refine ⟨?_, ?_, ?_⟩ <;> first | with_reducible assumption | ((repeat (first | with_reducible exact ExtB.refl _ _ | with_reducible assumption | with_reducible refine ExtB.alloc ?_ _ | with_reducible refine ExtB.drew ?_ | with_reducible refine ExtB.setCell ?_ _ _ | with_reducible refine ExtB.trans ?_ (by with_reducible assumption) | with_reducible refine ExtB.trans ?_ (Ext.toB (by with_reducible assumption) _))); done) | (refine ExtB.keep (b := t) (w := wa) (by repeat (first | with_reducible exact ExtB.refl _ _ | with_reducible assumption | with_reducible refine ExtB.alloc ?_ _ | with_reducible refine ExtB.drew ?_ | with_reducible refine ExtB.setCell ?_ _ _ | with_reducible refine ExtB.trans ?_ (by with_reducible assumption) | with_reducible refine ExtB.trans ?_ (Ext.toB (by with_reducible assumption) _))) ?_ ?_ <;> first | with_reducible assumption | (dsimp only; omega))))
    (first
      | (go_at_call 14; (with_reducible refine (table_Clock t m c most clock l _ (HA.out.tab.ext ((Ext.refl _).drew)) hn0 hn1).mono ?_); rintro x w4 ⟨rfl, ht4, hx4⟩)
      | (go_at_call 39; (with_reducible refine (ref02_Add clock _ _ hn0 hn1 (by rw [wrap_u64]; omega) (by rw [wrap_u64]; omega)).mono ?_); rintro x w5 ⟨rfl, rfl⟩))
  have hA4 : ExtB t wa w4 := (((Ext.refl _).drew).toB _).trans hx4
  have h4 := HA.out.swap (hA4.to2t m) ht4
  have HW4 := Lib.hid ((HW.out.to2 t m).trans (hA4.to2t m))
  have HRE4 := Lib.hid (HRE.out.extB hA4 (by omega))
  have d1 := hA4.keep c1 (by dsimp only; omega)
  have d2 := hA4.keep c2 (by dsimp only; omega)
  have e0 := hA4.keep t0 (by dsimp only; omega)
  have e1 := hA4.keep t1 (by dsimp only; omega)
  have e2 := hA4.keep t2 (by dsimp only; omega)
  have hw4 := hA4.size
  have H4 := Lib.hid h4
  have hat := satAdd_u clock (IntKind.u64.wrap (dw / 2 ^ min (IntKind.u64.wrap (db.tmod 32)).toNat 32)) hn0 (by rw [wrap_u64]; omega)
  generalize satAdd clock (IntKind.u64.wrap (dw / 2 ^ min (IntKind.u64.wrap (db.tmod 32)).toNat 32)) = a1 at *
  obtain ⟨hat0, hat1⟩ := hat
  clear h4 ht4 hx4 hA4 t0 t1 t2 c0 c1 c2 c3 c4 c5 c6
  go_upto_if 39 with fail
  go_cut [8] from 21 to 130 (fun s8 wx => ∃ a, s8 = .int .u64 a ∧ 0 ≤ a ∧ a < 18446744073709551616 ∧ wx = w4)
  case first =>
    by_cases hbig : 250 ≤ db
    · go_wp2
      go_meet
      have hwd : IntKind.u64.wrap dw = dw := by rw [wrap_u64]; omega
      exact ⟨_, rfl, by omega, by omega, rfl⟩
    · go_wp2
      go_meet
      exact ⟨a1, rfl, hat0, hat1, rfl⟩
  case rest =>
  obtain ⟨a, rfl, ha0, ha1, rfl⟩ := hcut
  have hmx0 : 0 ≤ max clock a ∧ max clock a < 18446744073709551616 ∧ clock ≤ max clock a := by omega
  have hti := fun W (hr : SlotRow B W (.slice va all.length vc) all) => ref14_TickX most clock a W hr hn0 hn1 ha0 ha1
  have htt := fun W (hr : TabAt W t m most clock l c) => table_Tick t m c most clock a l W hr hn0 hn1 ha0 ha1
  generalize max clock a = mx at *
  obtain ⟨hmx0, hmx1, hmx2⟩ := hmx0
  have HTI := Lib.hid hti
  have HTT := Lib.hid htt
  clear hti htt
  go_upto_region 7 with (go_at_call 40; (with_reducible refine (HTI.out _ H4.out.row).mono ?_); rintro x w5 ⟨rfl, hx5⟩)
  have h6 := H4.out.up (hx5.alloc (.cells #[.int .i64 most, .int .u64 mx, .slice va all.length vc] 47))
  have hre6 := (HRE4.out.ext hx5).alloc (.cells #[.int .i64 most, .int .u64 mx, .slice va all.length vc] 47)
  have hw6 := HW4.out.then (hx5.alloc (.cells #[.int .i64 most, .int .u64 mx, .slice va all.length vc] 47))
  have b6 := Blk.new w5 #[.int .i64 most, .int .u64 mx, .slice va all.length vc] 47
  have hg6 : G + 1 + 1 < w5.heap.size := (HRE4.out.ext hx5).lt
  generalize w5.alloc (.cells #[.int .i64 most, .int .u64 mx, .slice va all.length vc] 47) = w6 at *
  generalize w5.heap.size = g at *
  have H6 := Lib.hid h6
  have HRE6 := Lib.hid hre6
  have HW6 := Lib.hid hw6
  have B6 := Lib.hid b6
  have r6 := hre6.cell
  have f6 := hre6.free
  have hl6 := hre6.lt
  clear h6 hre6 hw6 b6 d1 d2 e0 e1 e2 hx5
  go_region_held3 (fun w' => ∀ o, w'.cell? ⟨g, o, none⟩ = (#[.int .i64 most, .int .u64 mx, .slice va all.length vc] : Array Value)[o]?)
    (first
      | with_reducible exact B6.out.drew.cell
      | with_reducible exact b7.cell
      | with_reducible exact (b7.oth3 (by omega) _ _ _).cell)
    (first
      | (go_at_call 41; (with_reducible refine (HTT.out _ (H6.out.tab.ext ((Ext.refl _).drew))).mono ?_); rintro x w7 ⟨rfl, ht7, hx7⟩; have hA7 := (((Ext.refl _).drew).toB t).trans hx7; have b7 := B6.out.extB hA7 (by omega); have hre7 := HRE6.out.extB hA7 (by omega); have r7 := hre7.cell; have f7 := hre7.free; have l7 := hre7.lt))
  clear r6 f6 hl6 r7 f7 l7
  go_wp2
  have hrel7 := (H6.out.rel).later H6.out.ok hn0 hmx2
  have h7 : RelAt B w7 t m c most mx l (.slice va all.length vc) all (n + 1) := ⟨ht7, H6.out.ok, H6.out.row.ext2 (hA7.to2t m) hbt hbm, hrel7, Nat.le_succ_of_le H6.out.lenA, Nat.le_succ_of_le H6.out.lenL, hbt, hbm, hmx0, hmx1⟩
  have hgw : w.heap.size ≤ G + 1 + 1 := by omega
  refine ret_cell_tmp Tryz.results13 rfl rfl (Blk.set3 hre7 (.int .i64 most) (.int .u64 mx) (.slice va all.length vc)) Tryz.underlying47 rfl (by kernel_rfl) ?_
  refine ⟨mx, l, c, _, all, rfl, h7.set3 (by omega) hre7 (by decide) _ _ _, (HW6.out.trans (hA7.to2t m)).set3 hgw _ _ _⟩
end Go.Proofs.YtnlmbmbalmkiiaaGreat

/- Walk: tollerlaw14.step, kind 1. -/
namespace Go.Proofs.YtnlmbmbalmkiiaaGreat
open Go.RowKit
set_option linter.unusedVariables false
set_option linter.unusedSimpArgs false

set_option maxHeartbeats 4000000 in
set_option maxRecDepth 1000000 in
theorem law_step1 (B t m c n : Nat) (most clock : Int) (l : SMap) (v : Value) (all : List Slot) (d : Deed) (w0 w : World) (h : RelAt B w t m c most clock l v all n) (hB : B ≤ w.heap.size) (hn : n < 1000) (hx : Ext w0 w) (h1 : w0.heap.size ≤ t) (h2 : w0.heap.size ≤ m) (hd : DeedOk w0 d) (hq : d.kind % 8 = 1) :
    Calls Tryz.prog 13 #[.pointer (some ⟨t, 0, none⟩), .agg #[.int .i64 most, .int .u64 clock, v], .agg #[.int .u8 d.kind, .int .u32 d.wait, .int .u8 d.big, d.keyv, .int .u8 d.rule, .int .u16 d.n, .int .u8 d.to]] w fun x w' =>
      ∃ clock' l' c' v' all', x = .returned (.tuple #[.agg #[.int .i64 most, .int .u64 clock', v'], .bool true]) ∧ RelAt B w' t m c' most clock' l' v' all' (n + 1) ∧ Ext2 t m w w' := by
  obtain ⟨va, vc, rfl⟩ := h.row.size
  have hNM := fun W (hx : Ext w0 W) => law14_Name d W (hd.ext hx)
  have hCO := fun W => law14_cost d W hd.n0 hd.n1
  have hnm := nameOf_ok d
  have hco := costOf_u hd.n0 hd.n1
  obtain ⟨ka, kc, hkv, -⟩ := hd.key.form
  obtain ⟨hdk0, hdk1, hdw0, hdw1, hdb0, hdb1, -, hdr0, hdr1, hdn0, hdn1, hdt0, hdt1⟩ := hd
  simp only [hkv] at hNM hCO ⊢
  generalize nameOf d = name at *
  generalize costOf d.n = cost at *
  generalize (d.key).length = kn at *
  generalize d.kind = dk at *
  generalize d.wait = dw at *
  generalize d.big = db at *
  generalize d.rule = dr at *
  generalize d.n = dn at *
  generalize d.to = dt at *
  have HNM := Lib.hid hNM
  have HCO := Lib.hid hCO
  have HNO := Lib.hid hnm
  obtain ⟨hco0, hco1⟩ := hco
  clear hkv hNM hCO hnm
  have ht := ((Blk.new w #[.int .i64 most, .int .u64 clock, .slice va all.length vc] 47).alloc (.cells #[.int .u8 dk, .int .u32 dw, .int .u8 db, .slice ka kn kc, .int .u8 dr, .int .u16 dn, .int .u8 dt] 37)).alloc (.cells #[.int .i64 0, .int .u64 0, .slice none 0 0] 47)
  have hdb := (Blk.new' (w.alloc (.cells #[.int .i64 most, .int .u64 clock, .slice va all.length vc] 47)) #[.int .u8 dk, .int .u32 dw, .int .u8 db, .slice ka kn kc, .int .u8 dr, .int .u16 dn, .int .u8 dt] 37 (b := w.heap.size + 1) (by simp)).alloc (.cells #[.int .i64 0, .int .u64 0, .slice none 0 0] 47)
  have hre := Blk.new' ((w.alloc (.cells #[.int .i64 most, .int .u64 clock, .slice va all.length vc] 47)).alloc (.cells #[.int .u8 dk, .int .u32 dw, .int .u8 db, .slice ka kn kc, .int .u8 dr, .int .u16 dn, .int .u8 dt] 37)) #[.int .i64 0, .int .u64 0, .slice none 0 0] 47 (b := w.heap.size + 1 + 1) (by simp)
  have hxa : Ext w (((w.alloc (.cells #[.int .i64 most, .int .u64 clock, .slice va all.length vc] 47)).alloc (.cells #[.int .u8 dk, .int .u32 dw, .int .u8 db, .slice ka kn kc, .int .u8 dr, .int .u16 dn, .int .u8 dt] 37)).alloc (.cells #[.int .i64 0, .int .u64 0, .slice none 0 0] 47)) := (((Ext.refl w).alloc _).alloc _).alloc _
  have hv8 : IntKind.u8.wrap (dk % 8) = dk % 8 := by simp [IntKind.wrap, IntKind.signed, IntKind.bits]; omega
  have hn0 := h.n0
  have hn1 := h.n1
  have hbt := h.bt
  have hbm := h.bm
  have HX := Lib.hid hx
  have HH := Lib.hid h
  clear hx h
  go_enter Tryz.func13, Tryz.ntmps13
  go_upto_region 1 with fail
  generalize (((w.alloc (.cells #[.int .i64 most, .int .u64 clock, .slice va all.length vc] 47)).alloc (.cells #[.int .u8 dk, .int .u32 dw, .int .u8 db, .slice ka kn kc, .int .u8 dr, .int .u16 dn, .int .u8 dt] 37)).alloc (.cells #[.int .i64 0, .int .u64 0, .slice none 0 0] 47)) = wa at *
  generalize hG : w.heap.size = G at *
  have HA := Lib.hid (HH.out.up hxa)
  have HXA := Lib.hid (HX.out.trans hxa)
  have HT := Lib.hid ht
  have HDB := Lib.hid hdb
  have HRE := Lib.hid hre
  have HW := Lib.hid hxa
  have hga : G + 1 + 1 < wa.heap.size := hre.lt
  have t0 : wa.cell? ⟨G, 0, none⟩ = some (.int .i64 most) := ht.cell 0
  have t1 : wa.cell? ⟨G, 1, none⟩ = some (.int .u64 clock) := ht.cell 1
  have t2 : wa.cell? ⟨G, 2, none⟩ = some (.slice va all.length vc) := ht.cell 2
  have c0 : wa.cell? ⟨G + 1, 0, none⟩ = some (.int .u8 dk) := hdb.cell 0
  have c1 : wa.cell? ⟨G + 1, 1, none⟩ = some (.int .u32 dw) := hdb.cell 1
  have c2 : wa.cell? ⟨G + 1, 2, none⟩ = some (.int .u8 db) := hdb.cell 2
  have c3 : wa.cell? ⟨G + 1, 3, none⟩ = some (.slice ka kn kc) := hdb.cell 3
  have c4 : wa.cell? ⟨G + 1, 4, none⟩ = some (.int .u8 dr) := hdb.cell 4
  have c5 : wa.cell? ⟨G + 1, 5, none⟩ = some (.int .u16 dn) := hdb.cell 5
  have c6 : wa.cell? ⟨G + 1, 6, none⟩ = some (.int .u8 dt) := hdb.cell 6
  clear ht hdb hre hxa
  have htm : dt.tmod 5 = dt % 5 := Int.tmod_eq_emod_of_nonneg hdt0
  have hlL := HA.out.lenL
  go_upto_region 9 with fail
  go_region_held3 (fun w' => w'.cell? ⟨G + 1, 0, none⟩ = some (.int .u8 dk) ∧ w'.cell? ⟨G + 1, 1, none⟩ = some (.int .u32 dw) ∧ w'.cell? ⟨G + 1, 2, none⟩ = some (.int .u8 db) ∧ w'.cell? ⟨G + 1, 3, none⟩ = some (.slice ka kn kc) ∧ w'.cell? ⟨G + 1, 4, none⟩ = some (.int .u8 dr) ∧ w'.cell? ⟨G + 1, 5, none⟩ = some (.int .u16 dn) ∧ w'.cell? ⟨G + 1, 6, none⟩ = some (.int .u8 dt))
    (first | exact ⟨c0, c1, c2, c3, c4, c5, c6⟩)
    (first
      | (go_at_call 43; (with_reducible refine (HNM.out _ (HXA.out.trans ((Ext.refl _).drew))).mono ?_); rintro x w4 ⟨rfl, hx4⟩; have c0 := hx4.keep c0; have c1 := hx4.keep c1; have c2 := hx4.keep c2; have c3 := hx4.keep c3; have c4 := hx4.keep c4; have c5 := hx4.keep c5; have c6 := hx4.keep c6)
      | (go_at_call 42; (with_reducible refine (table_MoveX t m c most clock _ name l _ (HA.out.tab.ext (((Ext.refl _).drew).trans hx4)) HA.out.ok hn0 hn1).mono ?_); rintro x w5 ⟨E, l', c', rfl, ht5, hm5, hx5⟩; have c0 := hx5.keep c0 (by dsimp only; omega); have c1 := hx5.keep c1 (by dsimp only; omega); have c2 := hx5.keep c2 (by dsimp only; omega); have c3 := hx5.keep c3 (by dsimp only; omega); have c4 := hx5.keep c4 (by dsimp only; omega); have c5 := hx5.keep c5 (by dsimp only; omega); have c6 := hx5.keep c6 (by dsimp only; omega)))
  have hxm : ExtB m wa w5 := ((((Ext.refl _).drew).trans hx4).toB m).trans hx5
  have hE : 0 ≤ E ∧ E ≤ 60 := by
    rcases hm5 with ⟨-, rfl, -⟩ | ⟨-, ⟨s, -, -, rfl, -⟩ | ⟨-, rfl, -⟩⟩ <;> omega
  obtain ⟨hE0, hE1⟩ := hE
  have hwE : IntKind.i64.wrap E = E := by simp [IntKind.wrap, IntKind.signed, IntKind.bits]; omega
  have hr5 := HA.out.row.ext2 (hxm.to2m t) hbt hbm
  have hsz5 := hxm.size
  have HMC := Lib.hid (fun W (hx : Ext w5 W) => (ref14_MoveX (most := most) W (hr5.ext hx) HA.out.rel HA.out.ok HA.out.lenA HA.out.lenL (by omega) (Nat.le_trans (by omega) hx.sz) hn0 hn1 hm5).2.2)
  obtain ⟨hok5, hll, -⟩ := ref14_MoveX (most := most) w5 hr5 HA.out.rel HA.out.ok HA.out.lenA HA.out.lenL (by omega) (by omega) hn0 hn1 hm5
  have HX5 := Lib.hid (HXA.out.own hxm h2)
  have e0 := hxm.keep t0 (by dsimp only; omega)
  have e1 := hxm.keep t1 (by dsimp only; omega)
  have e2 := hxm.keep t2 (by dsimp only; omega)
  have HRE5 := Lib.hid (HRE.out.extB hxm (by omega))
  have HW5 := Lib.hid ((HW.out.to2 t m).trans (hxm.to2m t))
  have HT5 := Lib.hid ht5
  have HOK5 := Lib.hid hok5
  have hg5 : G + 1 + 1 < w5.heap.size := HRE5.out.lt
  clear t0 t1 t2 hx4 hx5 hxm hr5 ht5 hok5 hm5 HDB HT HRE
  go_upto_region 10 with fail
  go_cut [11, 12] from 21 to 130 (fun s11 s12 wx => ∃ (g vc' : Nat) (va' : Option Addr) (all' : List Slot), s11 = .pointer (some ⟨g, 0, none⟩) ∧ s12 = .int .i64 E ∧ G + 1 + 1 < g ∧ Blk wx g #[.int .i64 most, .int .u64 clock, .slice va' all'.length vc'] 47 ∧ SlotRow B wx (.slice va' all'.length vc') all' ∧ Rel clock l' all' ∧ all'.length ≤ n + 1 ∧ Ext w5 wx)
  case first =>
    go_region_held3 (fun w' => w'.cell? ⟨G, 0, none⟩ = some (.int .i64 most) ∧ w'.cell? ⟨G, 1, none⟩ = some (.int .u64 clock) ∧ w'.cell? ⟨G, 2, none⟩ = some (.slice va all.length vc) ∧ w'.cell? ⟨G + 1, 0, none⟩ = some (.int .u8 dk) ∧ w'.cell? ⟨G + 1, 1, none⟩ = some (.int .u32 dw) ∧ w'.cell? ⟨G + 1, 2, none⟩ = some (.int .u8 db) ∧ w'.cell? ⟨G + 1, 3, none⟩ = some (.slice ka kn kc) ∧ w'.cell? ⟨G + 1, 4, none⟩ = some (.int .u8 dr) ∧ w'.cell? ⟨G + 1, 5, none⟩ = some (.int .u16 dn) ∧ w'.cell? ⟨G + 1, 6, none⟩ = some (.int .u8 dt) ∧ Ext w5 w')
      (((try go_split_ands); refine ⟨?_, ?_, ?_, ?_, ?_, ?_, ?_, ?_, ?_, ?_, ?_⟩ <;> first | with_reducible assumption | exact (Ext.refl _).drew | ((repeat (first | with_reducible exact Ext.refl _ | with_reducible assumption | with_reducible refine Ext.alloc ?_ _ | with_reducible refine Ext.drew ?_ | (with_reducible refine Ext.setCell ?_ (by first | exact Nat.le_refl _ | (dsimp only; omega) | (simp; done) | (simp; omega)) _) | with_reducible refine Ext.trans ?_ (by with_reducible assumption))); done) | (refine Ext.keep (w := w5) (by repeat (first | with_reducible exact Ext.refl _ | with_reducible assumption | with_reducible refine Ext.alloc ?_ _ | with_reducible refine Ext.drew ?_ | (with_reducible refine Ext.setCell ?_ (by first | exact Nat.le_refl _ | (dsimp only; omega) | (simp; done) | (simp; omega)) _) | with_reducible refine Ext.trans ?_ (by with_reducible assumption))) ?_; with_reducible assumption)))
      (first
        | (go_at_call 43; (with_reducible refine (HNM.out _ (Ext.trans HX5.out (by repeat (first | with_reducible exact Ext.refl _ | with_reducible assumption | with_reducible refine Ext.alloc ?_ _ | with_reducible refine Ext.drew ?_ | (with_reducible refine Ext.setCell ?_ (by first | exact Nat.le_refl _ | (dsimp only; omega) | (simp; done) | (simp; omega)) _) | with_reducible refine Ext.trans ?_ (by with_reducible assumption))))).mono ?_); rintro x w6 ⟨rfl, hx6⟩; have hs6 := Ext.sz hx6; (try simp at hs6); (try have bn := Blk.ext (w := (w5.drew).alloc (.cells #[.int .i64 0, .int .u64 0, .slice none 0 0] 47)) (b := (w5.drew).heap.size) (Blk.new _ _ _) hx6))
        | (go_at_call 44; (with_reducible refine (HMC.out _ (by repeat (first | with_reducible exact Ext.refl _ | with_reducible assumption | with_reducible refine Ext.alloc ?_ _ | with_reducible refine Ext.drew ?_ | (with_reducible refine Ext.setCell ?_ (by first | exact Nat.le_refl _ | (dsimp only; omega) | (simp; done) | (simp; omega)) _) | with_reducible refine Ext.trans ?_ (by with_reducible assumption)))).mono ?_); rintro x w7 ⟨v', all', rfl, hr7, hrel7, hlen7, hx7⟩; obtain ⟨va', vc', rfl⟩ := hr7.size; have hs7 := Ext.sz hx7; (try simp at hs7); (try first | (have bn : Blk w7 w6.heap.size #[.int .i64 0, .int .u64 0, .slice none 0 0] 47 := Blk.ext (Blk.new' _ _ _ (by rfl)) hx7) | (have bn := bn.ext hx7)); (try (have bc := bn.cell; have bf := bn.free; have bl := bn.lt)); (try (have bz : Blk w7 w5.heap.size #[.int .i64 0, .int .u64 0, .slice none 0 0] 47 := bn; have bcz := bz.cell; have bfz := bz.free))))
    all_goals
      go_wp2
      go_meet
      go_split_ands
      first
        | exact ⟨_, _, _, _, rfl, rfl, by omega, Blk.new _ _ _, hr7.ext ((Ext.refl _).alloc _), hrel7, hlen7, by assumption⟩
        | exact ⟨_, _, _, _, rfl, rfl, by omega, Blk.set3 bz _ _ _, hr7.set3Other bz (by decide) _ _ _, hrel7, hlen7, by assumption⟩
        | exact ⟨_, _, _, _, rfl, rfl, by omega, Blk.set3 bn _ _ _, hr7.set3Other bn (by decide) _ _ _, hrel7, hlen7, by assumption⟩
  case rest =>
  obtain ⟨g, vc', va', all', rfl, rfl, hgg, hbg, hr8, hrel8, hlen8, hx8⟩ := hcut
  have hre8 := HRE5.out.ext hx8
  have h8 : RelAt B wc t m c' most clock l' (.slice va' all'.length vc') all' (n + 1) := ⟨HT5.out.ext hx8, HOK5.out, hr8, hrel8, hlen8, Nat.le_succ_of_le hll, hbt, hbm, hn0, hn1⟩
  have cg := hbg.cell
  have r8 := hre8.cell
  have f8 := hre8.free
  have l8 := hre8.lt
  have H8 := Lib.hid h8
  have HRE8 := Lib.hid hre8
  have HW8 := Lib.hid (HW5.out.then hx8)
  clear h8 hre8 hr8 hrel8 hx8 hbg e0 e1 e2 c0 c1 c2 c3 c4 c5 c6
  go_wp2
  have hgw : w.heap.size ≤ G + 1 + 1 := by omega
  refine ret_cell_tmp Tryz.results13 rfl rfl (Blk.set3 HRE8.out (.int .i64 most) (.int .u64 clock) (.slice va' all'.length vc')) Tryz.underlying47 rfl (by kernel_rfl) ?_
  refine ⟨clock, l', c', _, all', ?_, H8.out.set3 (by omega) HRE8.out (by decide) _ _ _, HW8.out.set3 hgw _ _ _⟩
  first
    | rfl
    | (simp; done)
end Go.Proofs.YtnlmbmbalmkiiaaGreat

/- Walk: tollerlaw14.step, kind 2. -/
namespace Go.Proofs.YtnlmbmbalmkiiaaGreat
open Go.RowKit
set_option linter.unusedVariables false
set_option linter.unusedSimpArgs false

set_option maxHeartbeats 4000000 in
set_option maxRecDepth 1000000 in
theorem law_step2 (B t m c n : Nat) (most clock : Int) (l : SMap) (v : Value) (all : List Slot) (d : Deed) (w0 w : World) (h : RelAt B w t m c most clock l v all n) (hB : B ≤ w.heap.size) (hn : n < 1000) (hx : Ext w0 w) (h1 : w0.heap.size ≤ t) (h2 : w0.heap.size ≤ m) (hd : DeedOk w0 d) (hq : d.kind % 8 = 2) :
    Calls Tryz.prog 13 #[.pointer (some ⟨t, 0, none⟩), .agg #[.int .i64 most, .int .u64 clock, v], .agg #[.int .u8 d.kind, .int .u32 d.wait, .int .u8 d.big, d.keyv, .int .u8 d.rule, .int .u16 d.n, .int .u8 d.to]] w fun x w' =>
      ∃ clock' l' c' v' all', x = .returned (.tuple #[.agg #[.int .i64 most, .int .u64 clock', v'], .bool true]) ∧ RelAt B w' t m c' most clock' l' v' all' (n + 1) ∧ Ext2 t m w w' := by
  obtain ⟨va, vc, rfl⟩ := h.row.size
  have hNM := fun W (hx : Ext w0 W) => law14_Name d W (hd.ext hx)
  have hCO := fun W => law14_cost d W hd.n0 hd.n1
  have hnm := nameOf_ok d
  have hco := costOf_u hd.n0 hd.n1
  obtain ⟨ka, kc, hkv, -⟩ := hd.key.form
  obtain ⟨hdk0, hdk1, hdw0, hdw1, hdb0, hdb1, -, hdr0, hdr1, hdn0, hdn1, hdt0, hdt1⟩ := hd
  simp only [hkv] at hNM hCO ⊢
  generalize nameOf d = name at *
  generalize costOf d.n = cost at *
  generalize (d.key).length = kn at *
  generalize d.kind = dk at *
  generalize d.wait = dw at *
  generalize d.big = db at *
  generalize d.rule = dr at *
  generalize d.n = dn at *
  generalize d.to = dt at *
  have HNM := Lib.hid hNM
  have HCO := Lib.hid hCO
  have HNO := Lib.hid hnm
  obtain ⟨hco0, hco1⟩ := hco
  clear hkv hNM hCO hnm
  have ht := ((Blk.new w #[.int .i64 most, .int .u64 clock, .slice va all.length vc] 47).alloc (.cells #[.int .u8 dk, .int .u32 dw, .int .u8 db, .slice ka kn kc, .int .u8 dr, .int .u16 dn, .int .u8 dt] 37)).alloc (.cells #[.int .i64 0, .int .u64 0, .slice none 0 0] 47)
  have hdb := (Blk.new' (w.alloc (.cells #[.int .i64 most, .int .u64 clock, .slice va all.length vc] 47)) #[.int .u8 dk, .int .u32 dw, .int .u8 db, .slice ka kn kc, .int .u8 dr, .int .u16 dn, .int .u8 dt] 37 (b := w.heap.size + 1) (by simp)).alloc (.cells #[.int .i64 0, .int .u64 0, .slice none 0 0] 47)
  have hre := Blk.new' ((w.alloc (.cells #[.int .i64 most, .int .u64 clock, .slice va all.length vc] 47)).alloc (.cells #[.int .u8 dk, .int .u32 dw, .int .u8 db, .slice ka kn kc, .int .u8 dr, .int .u16 dn, .int .u8 dt] 37)) #[.int .i64 0, .int .u64 0, .slice none 0 0] 47 (b := w.heap.size + 1 + 1) (by simp)
  have hxa : Ext w (((w.alloc (.cells #[.int .i64 most, .int .u64 clock, .slice va all.length vc] 47)).alloc (.cells #[.int .u8 dk, .int .u32 dw, .int .u8 db, .slice ka kn kc, .int .u8 dr, .int .u16 dn, .int .u8 dt] 37)).alloc (.cells #[.int .i64 0, .int .u64 0, .slice none 0 0] 47)) := (((Ext.refl w).alloc _).alloc _).alloc _
  have hv8 : IntKind.u8.wrap (dk % 8) = dk % 8 := by simp [IntKind.wrap, IntKind.signed, IntKind.bits]; omega
  have hn0 := h.n0
  have hn1 := h.n1
  have hbt := h.bt
  have hbm := h.bm
  have HX := Lib.hid hx
  have HH := Lib.hid h
  clear hx h
  go_enter Tryz.func13, Tryz.ntmps13
  go_upto_region 1 with fail
  generalize (((w.alloc (.cells #[.int .i64 most, .int .u64 clock, .slice va all.length vc] 47)).alloc (.cells #[.int .u8 dk, .int .u32 dw, .int .u8 db, .slice ka kn kc, .int .u8 dr, .int .u16 dn, .int .u8 dt] 37)).alloc (.cells #[.int .i64 0, .int .u64 0, .slice none 0 0] 47)) = wa at *
  generalize hG : w.heap.size = G at *
  have HA := Lib.hid (HH.out.up hxa)
  have HXA := Lib.hid (HX.out.trans hxa)
  have HT := Lib.hid ht
  have HDB := Lib.hid hdb
  have HRE := Lib.hid hre
  have HW := Lib.hid hxa
  have hga : G + 1 + 1 < wa.heap.size := hre.lt
  have t0 : wa.cell? ⟨G, 0, none⟩ = some (.int .i64 most) := ht.cell 0
  have t1 : wa.cell? ⟨G, 1, none⟩ = some (.int .u64 clock) := ht.cell 1
  have t2 : wa.cell? ⟨G, 2, none⟩ = some (.slice va all.length vc) := ht.cell 2
  have c0 : wa.cell? ⟨G + 1, 0, none⟩ = some (.int .u8 dk) := hdb.cell 0
  have c1 : wa.cell? ⟨G + 1, 1, none⟩ = some (.int .u32 dw) := hdb.cell 1
  have c2 : wa.cell? ⟨G + 1, 2, none⟩ = some (.int .u8 db) := hdb.cell 2
  have c3 : wa.cell? ⟨G + 1, 3, none⟩ = some (.slice ka kn kc) := hdb.cell 3
  have c4 : wa.cell? ⟨G + 1, 4, none⟩ = some (.int .u8 dr) := hdb.cell 4
  have c5 : wa.cell? ⟨G + 1, 5, none⟩ = some (.int .u16 dn) := hdb.cell 5
  have c6 : wa.cell? ⟨G + 1, 6, none⟩ = some (.int .u8 dt) := hdb.cell 6
  clear ht hdb hre hxa
  have htm : dt.tmod 5 = dt % 5 := Int.tmod_eq_emod_of_nonneg hdt0
  have hlL := HA.out.lenL
  go_wp2_with fail
  refine (table_MoveAllX t m c most clock _ l _ HA.out.tab HA.out.ok hn0 hn1 (by omega)).mono ?_
  rintro x w4 ⟨N, E, l', c', rfl, ht4, hok4, hm, hx4⟩
  have hE : 0 ≤ E ∧ E ≤ 60 := by
    rcases hm with ⟨-, -, rfl, -⟩ | ⟨-, -, rfl, -⟩ <;> omega
  obtain ⟨hE0, hE1⟩ := hE
  have hwE : IntKind.i64.wrap E = E := by simp [IntKind.wrap, IntKind.signed, IntKind.bits]; omega
  have hr4 := HA.out.row.ext2 (hx4.to2m t) hbt hbm
  have hsz4 := hx4.size
  obtain ⟨hll, hcall⟩ := ref14_MoveAllX (most := most) w4 hr4 HA.out.rel HA.out.ok HA.out.lenA HA.out.lenL (by omega) (by omega) hn0 hn1 hm
  have e0 := hx4.keep t0 (by dsimp only; omega)
  have e1 := hx4.keep t1 (by dsimp only; omega)
  have e2 := hx4.keep t2 (by dsimp only; omega)
  have d6 := hx4.keep c6 (by dsimp only; omega)
  have HRE4 := Lib.hid (HRE.out.extB hx4 (by omega))
  have HW4 := Lib.hid ((HW.out.to2 t m).trans (hx4.to2m t))
  have HT4 := Lib.hid ht4
  have HOK4 := Lib.hid hok4
  have HCA := Lib.hid hcall
  have HM := Lib.hid hm
  clear t0 t1 t2 c0 c1 c2 c3 c4 c5 c6 hx4 hr4 ht4 hok4 hcall hm
  go_wp2_with fail
  refine HCA.out.mono ?_
  rintro x w5 ⟨v', all', rfl, hr5, hrel5, hlen5, hx5⟩
  obtain ⟨va', vc', rfl⟩ := hr5.size
  have hre5 := HRE4.out.ext hx5
  have r5 := hre5.cell
  have f5 := hre5.free
  have l5 := hre5.lt
  have h5 : RelAt B w5 t m c' most clock l' (.slice va' all'.length vc') all' (n + 1) := ⟨HT4.out.ext hx5, HOK4.out, hr5, hrel5, hlen5, Nat.le_succ_of_le hll, hbt, hbm, hn0, hn1⟩
  have H5 := Lib.hid h5
  have HRE5 := Lib.hid hre5
  have HW5 := Lib.hid (HW4.out.then hx5)
  clear h5 hre5 hr5 hrel5 hx5 e0 e1 e2 d6
  go_wp2
  have hgw : w.heap.size ≤ G + 1 + 1 := by omega
  refine ret_cell_tmp Tryz.results13 rfl rfl ((Blk.set3 HRE5.out (.int .i64 most) (.int .u64 clock) (.slice va' all'.length vc')).alloc _) Tryz.underlying47 rfl (by kernel_rfl) ?_
  refine ⟨clock, l', c', _, all', ?_, (H5.out.set3 (by omega) HRE5.out (by decide) _ _ _).up ((Ext.refl _).alloc _), (HW5.out.set3 hgw _ _ _).then ((Ext.refl _).alloc _)⟩
  first
    | rfl
    | (simp; done)
end Go.Proofs.YtnlmbmbalmkiiaaGreat
