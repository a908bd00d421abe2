/- Walk: tollerlaw14.step, kind 3. Walk: tollerlaw14.step: all kinds. -/
import Derived.Deep.DrawnRows
import Derived.Test.YtnlmbmbalmkiiaaGreatG53
import Derived.Test.YtnlmbmbalmkiiaaGreatG52
import Derived.Test.YtnlmbmbalmkiiaaGreatG50

/- Walk: tollerlaw14.step, kind 3. -/
namespace Go.Proofs.YtnlmbmbalmkiiaaGreat
open Go.RowKit
set_option linter.unusedVariables false
set_option linter.unusedSimpArgs false
attribute [local go_sem ↓] Go.wp_at_zero Go.wp_at_succ

theorem blk_with3 {w : World} {b : Nat} {G : Prop} (C : Array Value) (t : TypeId) (h : Blk w b C t) (k : Blk w b C t → G) : G := k h
set_option maxHeartbeats 20000000 in
set_option maxRecDepth 1000000 in
theorem law_step3 (B t m c n : Nat) (most clock : Int) (l : SMap) (v : Value) (all : List Slot) (d : Deed) (w0 w : World) (h : RelAt B w t m c most clock l v all n) (hB : B ≤ w.heap.size) (hn : n < 1000) (hx : Ext w0 w) (h1 : w0.heap.size ≤ t) (h2 : w0.heap.size ≤ m) (hd : DeedOk w0 d) (hq : d.kind % 8 ≠ 0 ∧ d.kind % 8 ≠ 1 ∧ d.kind % 8 ≠ 2) :
    Calls Tryz.prog 13 #[.pointer (some ⟨t, 0, none⟩), .agg #[.int .i64 most, .int .u64 clock, v], .agg #[.int .u8 d.kind, .int .u32 d.wait, .int .u8 d.big, d.keyv, .int .u8 d.rule, .int .u16 d.n, .int .u8 d.to]] w fun x w' =>
      ∃ clock' l' c' v' all', x = .returned (.tuple #[.agg #[.int .i64 most, .int .u64 clock', v'], .bool true]) ∧ RelAt B w' t m c' most clock' l' v' all' (n + 1) ∧ Ext2 t m w w' := by
  obtain ⟨va, vc, rfl⟩ := h.row.size
  have hNM := fun W (hx : Ext w0 W) => law14_Name d W (hd.ext hx)
  have hCO := fun W => law14_cost d W hd.n0 hd.n1
  have hnm := nameOf_ok d
  have hco := costOf_u hd.n0 hd.n1
  obtain ⟨ka, kc, hkv, -⟩ := hd.key.form
  obtain ⟨hdk0, hdk1, hdw0, hdw1, hdb0, hdb1, -, hdr0, hdr1, hdn0, hdn1, hdt0, hdt1⟩ := hd
  simp only [hkv] at hNM hCO ⊢
  generalize nameOf d = name at *
  generalize costOf d.n = cost at *
  generalize (d.key).length = kn at *
  generalize d.kind = dk at *
  generalize d.wait = dw at *
  generalize d.big = db at *
  generalize d.rule = dr at *
  generalize d.n = dn at *
  generalize d.to = dt at *
  have HNM := Lib.hid hNM
  have HCO := Lib.hid hCO
  have HNO := Lib.hid hnm
  obtain ⟨hco0, hco1⟩ := hco
  clear hkv hNM hCO hnm
  have ht := ((Blk.new w #[.int .i64 most, .int .u64 clock, .slice va all.length vc] 47).alloc (.cells #[.int .u8 dk, .int .u32 dw, .int .u8 db, .slice ka kn kc, .int .u8 dr, .int .u16 dn, .int .u8 dt] 37)).alloc (.cells #[.int .i64 0, .int .u64 0, .slice none 0 0] 47)
  have hdb := (Blk.new' (w.alloc (.cells #[.int .i64 most, .int .u64 clock, .slice va all.length vc] 47)) #[.int .u8 dk, .int .u32 dw, .int .u8 db, .slice ka kn kc, .int .u8 dr, .int .u16 dn, .int .u8 dt] 37 (b := w.heap.size + 1) (by simp)).alloc (.cells #[.int .i64 0, .int .u64 0, .slice none 0 0] 47)
  have hre := Blk.new' ((w.alloc (.cells #[.int .i64 most, .int .u64 clock, .slice va all.length vc] 47)).alloc (.cells #[.int .u8 dk, .int .u32 dw, .int .u8 db, .slice ka kn kc, .int .u8 dr, .int .u16 dn, .int .u8 dt] 37)) #[.int .i64 0, .int .u64 0, .slice none 0 0] 47 (b := w.heap.size + 1 + 1) (by simp)
  have hxa : Ext w (((w.alloc (.cells #[.int .i64 most, .int .u64 clock, .slice va all.length vc] 47)).alloc (.cells #[.int .u8 dk, .int .u32 dw, .int .u8 db, .slice ka kn kc, .int .u8 dr, .int .u16 dn, .int .u8 dt] 37)).alloc (.cells #[.int .i64 0, .int .u64 0, .slice none 0 0] 47)) := (((Ext.refl w).alloc _).alloc _).alloc _
  have hv8 : IntKind.u8.wrap (dk % 8) = dk % 8 := by simp [IntKind.wrap, IntKind.signed, IntKind.bits]; omega
  have hn0 := h.n0
  have hn1 := h.n1
  have hbt := h.bt
  have hbm := h.bm
  have HX := Lib.hid hx
  have HH := Lib.hid h
  clear hx h
  go_enter Tryz.func13, Tryz.ntmps13
  go_upto_region 1 with fail
  generalize (((w.alloc (.cells #[.int .i64 most, .int .u64 clock, .slice va all.length vc] 47)).alloc (.cells #[.int .u8 dk, .int .u32 dw, .int .u8 db, .slice ka kn kc, .int .u8 dr, .int .u16 dn, .int .u8 dt] 37)).alloc (.cells #[.int .i64 0, .int .u64 0, .slice none 0 0] 47)) = wa at *
  generalize hG : w.heap.size = G at *
  have HA := Lib.hid (HH.out.up hxa)
  have HXA := Lib.hid (HX.out.trans hxa)
  have HT := Lib.hid ht
  have HDB := Lib.hid hdb
  have HRE := Lib.hid hre
  have HW := Lib.hid hxa
  have hga : G + 1 + 1 < wa.heap.size := hre.lt
  have t0 : wa.cell? ⟨G, 0, none⟩ = some (.int .i64 most) := ht.cell 0
  have t1 : wa.cell? ⟨G, 1, none⟩ = some (.int .u64 clock) := ht.cell 1
  have t2 : wa.cell? ⟨G, 2, none⟩ = some (.slice va all.length vc) := ht.cell 2
  have c0 : wa.cell? ⟨G + 1, 0, none⟩ = some (.int .u8 dk) := hdb.cell 0
  have c1 : wa.cell? ⟨G + 1, 1, none⟩ = some (.int .u32 dw) := hdb.cell 1
  have c2 : wa.cell? ⟨G + 1, 2, none⟩ = some (.int .u8 db) := hdb.cell 2
  have c3 : wa.cell? ⟨G + 1, 3, none⟩ = some (.slice ka kn kc) := hdb.cell 3
  have c4 : wa.cell? ⟨G + 1, 4, none⟩ = some (.int .u8 dr) := hdb.cell 4
  have c5 : wa.cell? ⟨G + 1, 5, none⟩ = some (.int .u16 dn) := hdb.cell 5
  have c6 : wa.cell? ⟨G + 1, 6, none⟩ = some (.int .u8 dt) := hdb.cell 6
  clear ht hdb hre hxa
  have hq0 : (dk % 8 == 0) = false := by simpa using hq.1
  have hq1 : (dk % 8 == 1) = false := by simpa using hq.2.1
  have hq2 : (dk % 8 == 2) = false := by simpa using hq.2.2
  obtain ⟨f1, f2, f3, f4, f5, f6, f7⟩ := rule_bounds hdr0 hdr1
  have hrl := fun W => law14_Rule dr W hdr0 hdr1
  unfold ruleV at hrl
  have hsz : name.size ≤ maxLen := by
    have h2 : 13 ≤ maxLen := by decide
    have h3 := HNO.out.2
    omega
  generalize rP dr = p2 at *
  generalize rE dr = e2 at *
  generalize rB dr = b2 at *
  generalize rK dr = k2 at *
  obtain ⟨code, err, lim, left, reset, aft, nan, ret, hV⟩ := cgV_form most clock l name p2 e2 b2 k2 cost
  unfold ansV ansC at hV
  have hch := fun W (ht : TabAt W t m most clock l c) => charge_any t m c name p2 most clock e2 b2 k2 cost l W ht HA.out.ok hn0 hn1 hsz f7 f1 f2 f3 f4 f5 f6 hco0 hco1
  have hrc := fun W (hr : SlotRow B W (.slice va all.length vc) all) (hB : B ≤ W.heap.size) => ref14_ChargeX (most := most) W hr HA.out.rel HA.out.ok HA.out.lenA (by omega) hB hn0 hn1 name p2 e2 b2 k2 cost hsz f7 f1 f2 f3 f4 f5 f6 hco0 hco1
  have hcl := cgL_lenS most clock l c name p2 e2 b2 k2 cost
  have hlL := HA.out.lenL
  rw [hV] at hch hrc
  generalize cgL most clock l c name p2 e2 b2 k2 cost = l' at *
  generalize cgC most clock l c name p2 e2 b2 k2 cost = c' at *
  have HRL := Lib.hid hrl
  have HCH := Lib.hid hch
  have HRC := Lib.hid hrc
  clear hrl hch hrc hV hq hsz f1 f2 f3 f4 f5 f6 f7 t0 t1 t2
  go_upto_region 16 with fail
  clear c0 c1 c2 c3 c4 c5 c6
  go_cut [18] from 21 to 130 (fun s18 wx => ∃ (g : Nat), s18 = .pointer (some ⟨g, 0, none⟩) ∧ G + 1 + 1 < g ∧ Blk wx g #[.int .u8 code, .int .u16 err, .int .u64 lim, .int .u64 left, .int .u64 reset, .int .u64 aft, .int .u64 nan, .bool ret, .int .i64 0, .slice none 0 0] 44 ∧ TabAt wx t m most clock l' c' ∧ TabOk l' c' ∧ ExtB m wa wx)
  case first =>
    focus
      go_region_held3 (fun w' => (∀ o, w'.cell? ⟨G + 1, o, none⟩ = (#[.int .u8 dk, .int .u32 dw, .int .u8 db, .slice ka kn kc, .int .u8 dr, .int .u16 dn, .int .u8 dt] : Array Value)[o]?) ∧ ExtB m wa w')
        (((try go_split_ands); refine ⟨Blk.cell (HDB.out.extB (b := m) ?_ (by omega)), ?_⟩ <;> (repeat (first | with_reducible exact ExtB.refl _ _ | with_reducible assumption | with_reducible refine ExtB.alloc ?_ _ | with_reducible refine ExtB.drew ?_ | with_reducible refine ExtB.setNew ?_ (by dsimp only; omega) _ | with_reducible refine ExtB.trans ?_ (by with_reducible assumption) | with_reducible refine ExtB.trans ?_ (Ext.toB (by with_reducible assumption) _)))))
        (first
          | (go_at_call 43; (with_reducible refine (HNM.out _ (Ext.trans HXA.out (by repeat (first | with_reducible exact Ext.refl _ | with_reducible assumption | with_reducible refine Ext.alloc ?_ _ | with_reducible refine Ext.drew ?_ | (with_reducible refine Ext.setCell ?_ (by first | exact Nat.le_refl _ | (dsimp only; omega) | (simp; done) | (simp; omega)) _) | with_reducible refine Ext.trans ?_ (by with_reducible assumption))))).mono ?_); rintro x w4 ⟨rfl, hx4⟩; have hs4 := Ext.sz hx4; (try simp at hs4); (try have bn : Blk w4 wa.heap.size #[.int .u8 0, .int .u16 0, .int .u64 0, .int .u64 0, .int .u64 0, .int .u64 0, .int .u64 0, .bool false, .int .i64 0, .slice none 0 0] 44 := Blk.ext (w := (wa.drew).alloc (.cells #[.int .u8 0, .int .u16 0, .int .u64 0, .int .u64 0, .int .u64 0, .int .u64 0, .int .u64 0, .bool false, .int .i64 0, .slice none 0 0] 44)) (b := (wa.drew).heap.size) (Blk.new _ _ _) hx4))
          | (go_at_call 24; (with_reducible refine (HRL.out _).mono ?_); rintro x w5 ⟨rfl, hx5⟩; have hs5 := Ext.sz hx5; (try simp at hs5); (try first | (have bn : Blk w5 w4.heap.size #[.int .u8 0, .int .u16 0, .int .u64 0, .int .u64 0, .int .u64 0, .int .u64 0, .int .u64 0, .bool false, .int .i64 0, .slice none 0 0] 44 := Blk.ext (Blk.new' _ _ _ (by rfl)) hx5) | (have bn := Blk.ext (bn) hx5)))
          | (go_at_call 47; (with_reducible refine (HCO.out _).mono ?_); rintro x w6 ⟨rfl, hx6⟩; have hs6 := Ext.sz hx6; (try simp at hs6); (try first | (have bn : Blk w6 w5.heap.size #[.int .u8 0, .int .u16 0, .int .u64 0, .int .u64 0, .int .u64 0, .int .u64 0, .int .u64 0, .bool false, .int .i64 0, .slice none 0 0] 44 := Blk.ext (Blk.new' _ _ _ (by rfl)) hx6) | (have bn := Blk.ext (bn) hx6)))
          | (go_at_call 11; (with_reducible refine (HCH.out _ (HA.out.tab.ext (by repeat (first | with_reducible exact Ext.refl _ | with_reducible assumption | with_reducible refine Ext.alloc ?_ _ | with_reducible refine Ext.drew ?_ | (with_reducible refine Ext.setCell ?_ (by first | exact Nat.le_refl _ | (dsimp only; omega) | (simp; done) | (simp; omega)) _) | with_reducible refine Ext.trans ?_ (by with_reducible assumption))))).mono ?_); rintro x w7 ⟨rfl, ht7, hok7, hx7⟩; have hs7 := ExtB.size hx7; (try simp at hs7); (try first | (have bn : Blk w7 w6.heap.size #[.int .u8 0, .int .u16 0, .int .u64 0, .int .u64 0, .int .u64 0, .int .u64 0, .int .u64 0, .bool false, .int .i64 0, .slice none 0 0] 44 := Blk.extB (Blk.new' _ _ _ (by rfl)) hx7 (by omega)) | (have bn := Blk.extB (bn) hx7 (by omega))); (try (have bc := bn.cell; have bf := bn.free; have bl := bn.lt))))
      all_goals
        go_wp2
        go_meet
        go_split_ands
        first
          | (have q := bn.lt
             exact ⟨_, rfl, by omega, Blk.set10 bn _ _ _ _ _ _ _ _ _ _, ⟨ht7.blk.oth10 (by omega) _ _ _ _ _ _ _ _ _ _, ht7.map.oth10 (by omega) _ _ _ _ _ _ _ _ _ _⟩, hok7, by with_reducible assumption⟩)
          | exact ⟨_, rfl, by omega, Blk.new _ _ _, ht7.ext ((Ext.refl _).alloc _), hok7, by with_reducible assumption⟩
  case rest =>
  obtain ⟨wd, rfl⟩ : ∃ wd : World, wd = wc := ⟨_, rfl⟩
  obtain ⟨g, rfl, hgg, hbg, ht8, hok8, hx8⟩ := hcut
  have hsz8 := hx8.size
  have HD8 := Lib.hid (HDB.out.extB hx8 (by omega))
  have HT8 := Lib.hid (HT.out.extB hx8 (by omega))
  have HRE8 := Lib.hid (HRE.out.extB hx8 (by omega))
  have HW8 := Lib.hid ((HW.out.to2 t m).trans (hx8.to2m t))
  have hr8 := HA.out.row.ext2 (hx8.to2m t) hbt hbm
  have HRR := Lib.hid (fun W (hx : Ext wd W) => HRC.out W (hr8.ext hx) (Nat.le_trans (by omega) hx.sz) hok8)
  have HX8 := Lib.hid (HXA.out.own hx8 h2)
  have HTB := Lib.hid ht8
  have HOK := Lib.hid hok8
  have HBG := Lib.hid hbg
  have hg8 : G + 1 + 1 < wd.heap.size := by omega
  clear hr8 hx8 ht8 hok8 hbg HCH HRC HDB HT HRE HW HA HH HX
  go_upto_region 17 with fail
  go_cut [19, 20] from 21 to 130 (Cut17 B G n most clock l' code err lim left reset aft nan ret wd)
  case first =>
    focus
      go_region_held3 (fun w' => (∀ o, w'.cell? ⟨G, o, none⟩ = (#[.int .i64 most, .int .u64 clock, .slice va all.length vc] : Array Value)[o]?) ∧ (∀ o, w'.cell? ⟨G + 1, o, none⟩ = (#[.int .u8 dk, .int .u32 dw, .int .u8 db, .slice ka kn kc, .int .u8 dr, .int .u16 dn, .int .u8 dt] : Array Value)[o]?) ∧ Ext wd w')
        (((try go_split_ands); refine ⟨Blk.cell (HT8.out.ext ?_), Blk.cell (HD8.out.ext ?_), ?_⟩ <;> (repeat (first | with_reducible exact Ext.refl _ | with_reducible assumption | with_reducible refine Ext.alloc ?_ _ | with_reducible refine Ext.drew ?_ | (with_reducible refine Ext.setCell ?_ (by first | exact Nat.le_refl _ | (dsimp only; omega) | (simp; done) | (simp; omega)) _) | with_reducible refine Ext.trans ?_ (by with_reducible assumption)))))
        (first
          | (go_at_call 43; (with_reducible refine (HNM.out _ (Ext.trans HX8.out (by repeat (first | with_reducible exact Ext.refl _ | with_reducible assumption | with_reducible refine Ext.alloc ?_ _ | with_reducible refine Ext.drew ?_ | (with_reducible refine Ext.setCell ?_ (by first | exact Nat.le_refl _ | (dsimp only; omega) | (simp; done) | (simp; omega)) _) | with_reducible refine Ext.trans ?_ (by with_reducible assumption))))).mono ?_); rintro x w4 ⟨rfl, hx4⟩; have hs4 := Ext.sz hx4; (try simp at hs4); (try first | (refine blk_with3 (w := w4) (b := wd.heap.size) #[.int .i64 0, .int .u64 0, .slice none 0 0] 47 ?_ ?_; (· ((repeat (first | (with_reducible refine Blk.new' _ _ _ ?_; (first | rfl | (simp; done))) | with_reducible refine Blk.alloc ?_ _ | with_reducible refine Blk.drew ?_ | (with_reducible apply Blk.ext; (rotate_left; with_reducible assumption)))); done)); intro bT) | (refine blk_with3 (w := w4) (b := wd.heap.size + 1) #[.int .i64 0, .int .u64 0, .slice none 0 0] 47 ?_ ?_; (· ((repeat (first | (with_reducible refine Blk.new' _ _ _ ?_; (first | rfl | (simp; done))) | with_reducible refine Blk.alloc ?_ _ | with_reducible refine Blk.drew ?_ | (with_reducible apply Blk.ext; (rotate_left; with_reducible assumption)))); done)); intro bT)); (try first | (refine blk_with3 (w := w4) (b := wd.heap.size) #[.int .u8 0, .int .u16 0, .int .u64 0, .int .u64 0, .int .u64 0, .int .u64 0, .int .u64 0, .bool false, .int .i64 0, .slice none 0 0] 44 ?_ ?_; (· ((repeat (first | (with_reducible refine Blk.new' _ _ _ ?_; (first | rfl | (simp; done))) | with_reducible refine Blk.alloc ?_ _ | with_reducible refine Blk.drew ?_ | (with_reducible apply Blk.ext; (rotate_left; with_reducible assumption)))); done)); intro bA) | (refine blk_with3 (w := w4) (b := wd.heap.size + 1) #[.int .u8 0, .int .u16 0, .int .u64 0, .int .u64 0, .int .u64 0, .int .u64 0, .int .u64 0, .bool false, .int .i64 0, .slice none 0 0] 44 ?_ ?_; (· ((repeat (first | (with_reducible refine Blk.new' _ _ _ ?_; (first | rfl | (simp; done))) | with_reducible refine Blk.alloc ?_ _ | with_reducible refine Blk.drew ?_ | (with_reducible apply Blk.ext; (rotate_left; with_reducible assumption)))); done)); intro bA)))
          | (go_at_call 24; (with_reducible refine (HRL.out _).mono ?_); rintro x w5 ⟨rfl, hx5⟩; have hs5 := Ext.sz hx5; (try simp at hs5); (try first | (with_reducible have bT := Blk.ext bT hx5) | (with_reducible have bT := Blk.ext (Blk.alloc bT _) hx5) | (with_reducible have bT := Blk.ext (Blk.alloc (Blk.alloc bT _) _) hx5) | (refine blk_with3 (w := w5) (b := w4.heap.size) #[.int .i64 0, .int .u64 0, .slice none 0 0] 47 ?_ ?_; (· ((repeat (first | (with_reducible refine Blk.new' _ _ _ ?_; (first | rfl | (simp; done))) | with_reducible refine Blk.alloc ?_ _ | with_reducible refine Blk.drew ?_ | (with_reducible apply Blk.ext; (rotate_left; with_reducible assumption)))); done)); intro bT) | (refine blk_with3 (w := w5) (b := w4.heap.size + 1) #[.int .i64 0, .int .u64 0, .slice none 0 0] 47 ?_ ?_; (· ((repeat (first | (with_reducible refine Blk.new' _ _ _ ?_; (first | rfl | (simp; done))) | with_reducible refine Blk.alloc ?_ _ | with_reducible refine Blk.drew ?_ | (with_reducible apply Blk.ext; (rotate_left; with_reducible assumption)))); done)); intro bT)); (try first | (with_reducible have bA := Blk.ext bA hx5) | (with_reducible have bA := Blk.ext (Blk.alloc bA _) hx5) | (with_reducible have bA := Blk.ext (Blk.alloc (Blk.alloc bA _) _) hx5) | (refine blk_with3 (w := w5) (b := w4.heap.size) #[.int .u8 0, .int .u16 0, .int .u64 0, .int .u64 0, .int .u64 0, .int .u64 0, .int .u64 0, .bool false, .int .i64 0, .slice none 0 0] 44 ?_ ?_; (· ((repeat (first | (with_reducible refine Blk.new' _ _ _ ?_; (first | rfl | (simp; done))) | with_reducible refine Blk.alloc ?_ _ | with_reducible refine Blk.drew ?_ | (with_reducible apply Blk.ext; (rotate_left; with_reducible assumption)))); done)); intro bA) | (refine blk_with3 (w := w5) (b := w4.heap.size + 1) #[.int .u8 0, .int .u16 0, .int .u64 0, .int .u64 0, .int .u64 0, .int .u64 0, .int .u64 0, .bool false, .int .i64 0, .slice none 0 0] 44 ?_ ?_; (· ((repeat (first | (with_reducible refine Blk.new' _ _ _ ?_; (first | rfl | (simp; done))) | with_reducible refine Blk.alloc ?_ _ | with_reducible refine Blk.drew ?_ | (with_reducible apply Blk.ext; (rotate_left; with_reducible assumption)))); done)); intro bA)))
          | (go_at_call 47; (with_reducible refine (HCO.out _).mono ?_); rintro x w6 ⟨rfl, hx6⟩; have hs6 := Ext.sz hx6; (try simp at hs6); (try first | (with_reducible have bT := Blk.ext bT hx6) | (with_reducible have bT := Blk.ext (Blk.alloc bT _) hx6) | (with_reducible have bT := Blk.ext (Blk.alloc (Blk.alloc bT _) _) hx6) | (refine blk_with3 (w := w6) (b := w5.heap.size) #[.int .i64 0, .int .u64 0, .slice none 0 0] 47 ?_ ?_; (· ((repeat (first | (with_reducible refine Blk.new' _ _ _ ?_; (first | rfl | (simp; done))) | with_reducible refine Blk.alloc ?_ _ | with_reducible refine Blk.drew ?_ | (with_reducible apply Blk.ext; (rotate_left; with_reducible assumption)))); done)); intro bT) | (refine blk_with3 (w := w6) (b := w5.heap.size + 1) #[.int .i64 0, .int .u64 0, .slice none 0 0] 47 ?_ ?_; (· ((repeat (first | (with_reducible refine Blk.new' _ _ _ ?_; (first | rfl | (simp; done))) | with_reducible refine Blk.alloc ?_ _ | with_reducible refine Blk.drew ?_ | (with_reducible apply Blk.ext; (rotate_left; with_reducible assumption)))); done)); intro bT)); (try first | (with_reducible have bA := Blk.ext bA hx6) | (with_reducible have bA := Blk.ext (Blk.alloc bA _) hx6) | (with_reducible have bA := Blk.ext (Blk.alloc (Blk.alloc bA _) _) hx6) | (refine blk_with3 (w := w6) (b := w5.heap.size) #[.int .u8 0, .int .u16 0, .int .u64 0, .int .u64 0, .int .u64 0, .int .u64 0, .int .u64 0, .bool false, .int .i64 0, .slice none 0 0] 44 ?_ ?_; (· ((repeat (first | (with_reducible refine Blk.new' _ _ _ ?_; (first | rfl | (simp; done))) | with_reducible refine Blk.alloc ?_ _ | with_reducible refine Blk.drew ?_ | (with_reducible apply Blk.ext; (rotate_left; with_reducible assumption)))); done)); intro bA) | (refine blk_with3 (w := w6) (b := w5.heap.size + 1) #[.int .u8 0, .int .u16 0, .int .u64 0, .int .u64 0, .int .u64 0, .int .u64 0, .int .u64 0, .bool false, .int .i64 0, .slice none 0 0] 44 ?_ ?_; (· ((repeat (first | (with_reducible refine Blk.new' _ _ _ ?_; (first | rfl | (simp; done))) | with_reducible refine Blk.alloc ?_ _ | with_reducible refine Blk.drew ?_ | (with_reducible apply Blk.ext; (rotate_left; with_reducible assumption)))); done)); intro bA)))
          | (go_at_call 48; (with_reducible refine (HRR.out _ (by repeat (first | with_reducible exact Ext.refl _ | with_reducible assumption | with_reducible refine Ext.alloc ?_ _ | with_reducible refine Ext.drew ?_ | (with_reducible refine Ext.setCell ?_ (by first | exact Nat.le_refl _ | (dsimp only; omega) | (simp; done) | (simp; omega)) _) | with_reducible refine Ext.trans ?_ (by with_reducible assumption)))).mono ?_); rintro x w7 ⟨v', all', rfl, hr7, hrel7, hlen7, hx7⟩; obtain ⟨va', vc', rfl⟩ := hr7.size; have hs7 := Ext.sz hx7; (try simp at hs7); (try first | (with_reducible have bT := Blk.ext bT hx7) | (with_reducible have bT := Blk.ext (Blk.alloc bT _) hx7) | (with_reducible have bT := Blk.ext (Blk.alloc (Blk.alloc bT _) _) hx7) | (refine blk_with3 (w := w7) (b := w6.heap.size) #[.int .i64 0, .int .u64 0, .slice none 0 0] 47 ?_ ?_; (· ((repeat (first | (with_reducible refine Blk.new' _ _ _ ?_; (first | rfl | (simp; done))) | with_reducible refine Blk.alloc ?_ _ | with_reducible refine Blk.drew ?_ | (with_reducible apply Blk.ext; (rotate_left; with_reducible assumption)))); done)); intro bT) | (refine blk_with3 (w := w7) (b := w6.heap.size + 1) #[.int .i64 0, .int .u64 0, .slice none 0 0] 47 ?_ ?_; (· ((repeat (first | (with_reducible refine Blk.new' _ _ _ ?_; (first | rfl | (simp; done))) | with_reducible refine Blk.alloc ?_ _ | with_reducible refine Blk.drew ?_ | (with_reducible apply Blk.ext; (rotate_left; with_reducible assumption)))); done)); intro bT)); (try first | (with_reducible have bA := Blk.ext bA hx7) | (with_reducible have bA := Blk.ext (Blk.alloc bA _) hx7) | (with_reducible have bA := Blk.ext (Blk.alloc (Blk.alloc bA _) _) hx7) | (refine blk_with3 (w := w7) (b := w6.heap.size) #[.int .u8 0, .int .u16 0, .int .u64 0, .int .u64 0, .int .u64 0, .int .u64 0, .int .u64 0, .bool false, .int .i64 0, .slice none 0 0] 44 ?_ ?_; (· ((repeat (first | (with_reducible refine Blk.new' _ _ _ ?_; (first | rfl | (simp; done))) | with_reducible refine Blk.alloc ?_ _ | with_reducible refine Blk.drew ?_ | (with_reducible apply Blk.ext; (rotate_left; with_reducible assumption)))); done)); intro bA) | (refine blk_with3 (w := w7) (b := w6.heap.size + 1) #[.int .u8 0, .int .u16 0, .int .u64 0, .int .u64 0, .int .u64 0, .int .u64 0, .int .u64 0, .bool false, .int .i64 0, .slice none 0 0] 44 ?_ ?_; (· ((repeat (first | (with_reducible refine Blk.new' _ _ _ ?_; (first | rfl | (simp; done))) | with_reducible refine Blk.alloc ?_ _ | with_reducible refine Blk.drew ?_ | (with_reducible apply Blk.ext; (rotate_left; with_reducible assumption)))); done)); intro bA)); (try (have hne := Blk.ne bT bA (by decide); have hne' := hne.symm)); (try (have tc := bT.cell; have tf := bT.free; have tl := bT.lt)); (try (have ac := bA.cell; have af := bA.free; have al := bA.lt))))
      all_goals as_aux_lemma =>
        go_wp2
        go_meet
        have hxz : Ext wd w7 := (by repeat (first | with_reducible exact Ext.refl _ | with_reducible assumption | with_reducible refine Ext.alloc ?_ _ | with_reducible refine Ext.drew ?_ | (with_reducible refine Ext.setCell ?_ (by first | exact Nat.le_refl _ | (dsimp only; omega) | (simp; done) | (simp; omega)) _) | with_reducible refine Ext.trans ?_ (by with_reducible assumption)))
        first
          | (with_reducible refine Cut17.both hr7 hrel7 hlen7 hxz hg8 bT bA ?_ ?_ <;> omega)
          | (with_reducible refine Cut17.tOnly hr7 hrel7 hlen7 hxz hg8 bT ?_ ?_; (· omega); (· first | rfl | omega))
          | (with_reducible refine Cut17.aOnly hr7 hrel7 hlen7 hxz hg8 bA ?_ ?_; (· omega); (· first | rfl | omega))
          | (with_reducible refine Cut17.aOnly2 hr7 hrel7 hlen7 hxz hg8 bA ?_ ?_; (· omega); (· first | rfl | omega))
          | (with_reducible refine Cut17.ta hr7 hrel7 hlen7 hxz hg8 ?_ ?_ <;> first | rfl | omega)
          | (with_reducible refine Cut17.at hr7 hrel7 hlen7 hxz hg8 ?_ ?_ <;> first | rfl | omega)
  case rest =>
  obtain ⟨g1, g2, vc', va', all', rfl, rfl, hg1, hb1, hb2, hr9, hrel9, hlen9, hx9⟩ := hcut
  have hb3 := HBG.out.ext hx9
  have hre9 := HRE8.out.ext hx9
  have hsz9 := hx9.sz
  have n1 : g1 ≠ G + 1 + 1 := by omega
  have n2 : g2 ≠ G + 1 + 1 := Blk.ne hb2 hre9 (by simp)
  have n3 : g ≠ G + 1 + 1 := by omega
  have h9 : RelAt B wc t m c' most clock l' (.slice va' all'.length vc') all' (n + 1) := ⟨HTB.out.ext hx9, HOK.out, hr9, hrel9, hlen9, by omega, hbt, hbm, hn0, hn1⟩
  have HW9 := Lib.hid (HW8.out.then hx9)
  have H9 := Lib.hid h9
  have HB1 := Lib.hid hb1
  have HB2 := Lib.hid hb2
  have HB3 := Lib.hid hb3
  have HRE9 := Lib.hid hre9
  have r9 := hre9.cell
  have f9 := hre9.free
  have l9 := hre9.lt
  clear h9 hb1 hb2 hb3 hre9 hr9 hrel9 hx9
  go_upto_region 18 with fail
  go_region_held3 (fun w' => (∀ o, w'.cell? ⟨g1, o, none⟩ = (#[.int .i64 most, .int .u64 clock, .slice va' all'.length vc'] : Array Value)[o]?) ∧ (∀ o, w'.cell? ⟨g2, o, none⟩ = (#[.int .u8 code, .int .u16 err, .int .u64 lim, .int .u64 left, .int .u64 reset, .int .u64 aft, .int .u64 nan, .bool ret, .int .i64 0, .slice none 0 0] : Array Value)[o]?) ∧ (∀ o, w'.cell? ⟨g, o, none⟩ = (#[.int .u8 code, .int .u16 err, .int .u64 lim, .int .u64 left, .int .u64 reset, .int .u64 aft, .int .u64 nan, .bool ret, .int .i64 0, .slice none 0 0] : Array Value)[o]?))
    (first
      | with_reducible exact ⟨HB1.out.drew.cell, HB2.out.drew.cell, HB3.out.drew.cell⟩
      | with_reducible exact ⟨(HB1.out.ext hx10).cell, (HB2.out.ext hx10).cell, (HB3.out.ext hx10).cell⟩
      | with_reducible exact ⟨((HB1.out.ext hx10).oth3 n1 _ _ _).cell, ((HB2.out.ext hx10).oth3 n2 _ _ _).cell, ((HB3.out.ext hx10).oth3 n3 _ _ _).cell⟩)
    (first
      | (go_at_call 49; (with_reducible refine (ref14_Answers_yes code err lim left reset aft nan ret _).mono ?_); rintro x w10 ⟨rfl, hx10'⟩; have hx10 := ((Ext.refl _).drew).trans hx10'; clear hx10'; have hre10 := HRE9.out.ext hx10; have r10 := hre10.cell; have f10 := hre10.free; have l10 := hre10.lt))
  clear r9 f9 l9 r10 f10 l10
  go_wp2
  have hgw : w.heap.size ≤ G + 1 + 1 := by omega
  refine ret_cell_tmp Tryz.results13 rfl rfl (Blk.set3 hre10 (.int .i64 most) (.int .u64 clock) (.slice va' all'.length vc')) Tryz.underlying47 rfl (by kernel_rfl) ?_
  refine ⟨clock, l', c', _, all', rfl, (H9.out.up hx10).set3 (by omega) hre10 (by decide) _ _ _, (HW9.out.then hx10).set3 hgw _ _ _⟩
end Go.Proofs.YtnlmbmbalmkiiaaGreat

/- Walk: tollerlaw14.step: all kinds. -/
namespace Go.Proofs.YtnlmbmbalmkiiaaGreat
open Go.RowKit
set_option linter.unusedVariables false
set_option linter.unusedSimpArgs false

theorem stepLaw : StepLaw := by
  intro B t m c n most clock l v all d w0 w h hB hn hx h1 h2 hd
  by_cases k0 : d.kind % 8 = 0
  · exact law_step0 B t m c n most clock l v all d w0 w h hB hn hx h1 h2 hd k0
  by_cases k1 : d.kind % 8 = 1
  · exact law_step1 B t m c n most clock l v all d w0 w h hB hn hx h1 h2 hd k1
  by_cases k2 : d.kind % 8 = 2
  · exact law_step2 B t m c n most clock l v all d w0 w h hB hn hx h1 h2 hd k2
  exact law_step3 B t m c n most clock l v all d w0 w h hB hn hx h1 h2 hd ⟨k0, k1, k2⟩
end Go.Proofs.YtnlmbmbalmkiiaaGreat
