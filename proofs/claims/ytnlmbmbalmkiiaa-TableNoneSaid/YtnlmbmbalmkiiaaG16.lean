/- Walks: kernel.Migrate; a table's move; tollerlaw14.cost. Plain: entries; a slot that goes over to another kernel. How a slice of deeds comes out of an argument's reading. -/
import Derived.Deep.DeepCutAuto
import Derived.Deep.CutRange
import Derived.Deep.Slices
import Derived.Deep.Fields
import Derived.ChangeSame
import Derived.Test.YtnlmbmbalmkiiaaG8
import Derived.Test.YtnlmbmbalmkiiaaG10
import Derived.Test.YtnlmbmbalmkiiaaG9
import Derived.Test.YtnlmbmbalmkiiaaG4
import Derived.Test.YtnlmbmbalmkiiaaG15

/- Walks: kernel.Migrate; a table's move; tollerlaw14.cost. -/
namespace Go.Proofs.Ytnlmbmbalmkiiaa
open Go.RowKit
set_option linter.unusedVariables false
set_option linter.unusedSimpArgs false

theorem ofV_right {k now cap fill : Int} (h : rightKind k = true) : ofV k now cap fill = .tuple #[.agg #[.int .u8 k, .int .u64 (kOfA k now cap fill), .int .u64 (kOfB k now)], .int .u16 0] := by
  unfold ofV stV
  rw [h]
  rfl

set_option maxHeartbeats 1000000 in
set_option maxRecDepth 100000 in
theorem kernel_Migrate (k a b kind now cap : Int) (w : World) (ha0 : 0 ≤ a) (ha1 : a < 18446744073709551616) (hb0 : 0 ≤ b) (hb1 : b < 18446744073709551616) (hn0 : 0 ≤ now) (hn1 : now < 18446744073709551616) (hc0 : 0 ≤ cap) (hc1 : cap < 18446744073709551616)
    (hk : rightKind k = true) (hq : rightKind kind = true) :
    Calls Try.prog 64 #[.agg #[.int .u8 k, .int .u64 a, .int .u64 b], .int .u8 kind, .int .u64 now, .int .u64 cap] w fun e w' =>
      e = .returned (.tuple #[.agg #[.int .u8 kind, .int .u64 (kOfA kind now cap (kFill k a b now cap)), .int .u64 (kOfB kind now)], .int .u16 0]) ∧ Ext w w' := by
  have hF := kFill_u k a b now cap ha0 ha1 hb0 hn0 hn1 hc0 hc1
  generalize hf : kFill k a b now cap = F at *
  have HF := Lib.hid hf
  obtain ⟨hF0, hF1⟩ := hF
  have HK := Lib.hid hk
  have HO := Lib.hid (ofV_right (now := now) (cap := cap) (fill := F) hq)
  generalize kOfA kind now cap F = oa at *
  generalize kOfB kind now = ob at *
  clear hf hk hq
  have br := Blk.new (w.alloc (.cells #[.int .u8 k, .int .u64 a, .int .u64 b] 50)) #[.int .u8 0, .int .u64 0, .int .u64 0] 50
  have bs := (Blk.new w #[.int .u8 k, .int .u64 a, .int .u64 b] 50).alloc (.cells #[.int .u8 0, .int .u64 0, .int .u64 0] 50)
  have hx0 : Ext w ((w.alloc (.cells #[.int .u8 k, .int .u64 a, .int .u64 b] 50)).alloc (.cells #[.int .u8 0, .int .u64 0, .int .u64 0] 50)) := ((Ext.refl w).alloc _).alloc _
  go_enter Try.func64, Try.ntmps64
  go_wp2_with fail
  refine (kernel_Right k _).mono ?_
  rw [HK.out]
  rintro x w1 ⟨rfl, hx1⟩
  have c0 : w1.cell? ⟨w.heap.size, 0, none⟩ = some (.int .u8 k) := (bs.ext hx1).cell 0
  have c1 : w1.cell? ⟨w.heap.size, 1, none⟩ = some (.int .u64 a) := (bs.ext hx1).cell 1
  have c2 : w1.cell? ⟨w.heap.size, 2, none⟩ = some (.int .u64 b) := (bs.ext hx1).cell 2
  have HR := Lib.hid (br.ext hx1)
  have HX := Lib.hid (hx0.trans hx1)
  clear br bs hx0 hx1
  go_wp2_with fail
  refine (kernel_Fill k a b now cap _ ha0 ha1 hb0 hb1 hn0 hn1 hc0 hc1).mono ?_
  rw [HF.out]
  rintro x w2 ⟨rfl, hx2⟩
  go_wp2_with fail
  refine (kernel_Of kind now cap F _ hn0 hn1 hc0 hc1 hF0 hF1).mono ?_
  rw [HO.out]
  rintro x w3 ⟨rfl, hx3⟩
  have hR := (HR.out.ext hx2).ext hx3
  rw [World.size_alloc] at hR
  have hfr := hR.free
  have hc := hR.cell
  have hl := hR.lt
  have hw := HX.out.sz
  go_wp2
  have hS := ((hR.set 0 (.int .u8 kind)).set 1 (.int .u64 oa)).set 2 (.int .u64 ob)
  refine ret_cell_tmp Try.results64 rfl rfl hS Try.underlying50 rfl (by kernel_rfl) ⟨rfl, ?_⟩
  exact ((((HX.out.trans hx2).trans hx3).set (by omega) _ _).set (by omega) _ _).set (by omega) _ _

def costOf (n : Int) : Int := if 60000 ≤ n then 18446744073709551615 - n else n % 6
theorem costOf_u {n : Int} (h0 : 0 ≤ n) (h1 : n < 65536) : 0 ≤ costOf n ∧ costOf n < 18446744073709551616 := by unfold costOf; split <;> omega
set_option maxHeartbeats 1000000 in
set_option maxRecDepth 100000 in
theorem law14_cost (d : Deed) (w : World) (h0 : 0 ≤ d.n) (h1 : d.n < 65536) :
    Calls Try.prog 23 #[.agg #[.int .u8 d.kind, .int .u32 d.wait, .int .u8 d.big, d.keyv, .int .u8 d.rule, .int .u16 d.n, .int .u8 d.to]] w fun x w' => x = .returned (.int .u64 (costOf d.n)) ∧ Ext w w' := by
  generalize d.kind = dk at *
  generalize d.wait = dw at *
  generalize d.big = db at *
  generalize d.keyv = dkv at *
  generalize d.rule = dr at *
  generalize d.n = dn at *
  generalize d.to = dt at *
  have hC : Hid (costOf dn = if 60000 ≤ dn then 18446744073709551615 - dn else dn % 6) := Lib.hid rfl
  generalize costOf dn = C at *
  have hv1 : dn.tmod 6 = dn % 6 := Int.tmod_eq_emod_of_nonneg h0
  by_cases h : 60000 ≤ dn
  · go_enter Try.func23, Try.ntmps23
    go_wp2
    go_ret
    exact ⟨ret_int (by rw [hC.out, if_pos h]), (by repeat (first | with_reducible exact Ext.refl _ | with_reducible assumption | with_reducible refine Ext.alloc ?_ _ | with_reducible refine Ext.drew ?_ | (with_reducible refine Ext.setCell ?_ (by first | exact Nat.le_refl _ | (dsimp only; omega) | (simp; done) | (simp; omega)) _) | with_reducible refine Ext.trans ?_ (by with_reducible assumption)))⟩
  · go_enter Try.func23, Try.ntmps23
    go_wp2
    go_ret
    exact ⟨ret_int (by rw [hC.out, if_neg (by omega)]), (by repeat (first | with_reducible exact Ext.refl _ | with_reducible assumption | with_reducible refine Ext.alloc ?_ _ | with_reducible refine Ext.drew ?_ | (with_reducible refine Ext.setCell ?_ (by first | exact Nat.le_refl _ | (dsimp only; omega) | (simp; done) | (simp; omega)) _) | with_reducible refine Ext.trans ?_ (by with_reducible assumption)))⟩

set_option maxHeartbeats 4000000 in
set_option maxRecDepth 100000 in
theorem table_move (t mb c : Nat) (most clock kind : Int) (s : Slot) (l : SMap) (w : World) (ht : TabAt w t mb most clock l c) (hok : TabOk l c) (hs : SlotOk s) (hn0 : 0 ≤ clock) (hn1 : clock < 18446744073709551616) (hk : rightKind s.sk = true) (hq : rightKind kind = true) :
    Calls Try.prog 43 #[.pointer (some ⟨t, 0, none⟩), s.val, .int .u8 kind] w fun x w' => (∃ v, x = .returned v) ∧ TabAt w' t mb most clock (l.put (movedS clock s kind) c) (l.putC (movedS clock s kind) c) ∧ TabOk (l.put (movedS clock s kind) c) (l.putC (movedS clock s kind) c) ∧ ExtB mb w w' := by
  obtain ⟨k, sp, se, sbu, srk, sk, sa, sb⟩ := s
  obtain ⟨m1, m2, u1, u2, u3, u4, u5, u6, u7, u8, u9, u10, u11, u12⟩ := hs
  simp only at m1 m2 u1 u2 u3 u4 u5 u6 u7 u8 u9 u10 u11 u12 hk
  have hc := ruleCap_u sp se sbu srk u1 u3
  have hF := kFill_u sk sa sb clock (ruleCap sp se sbu srk) u9 u10 u11 hn0 hn1 hc.1 (by omega)
  generalize hcap : ruleCap sp se sbu srk = cap at *
  have HC := Lib.hid hcap
  obtain ⟨hc0, hc1⟩ := hc
  have hnum := kOf_u kind clock cap (kFill sk sa sb clock cap) hn0 hn1 hc0 (by omega) hF.1 hF.2
  have hMS : movedS clock ⟨k, sp, se, sbu, srk, sk, sa, sb⟩ kind = ⟨k, sp, se, sbu, srk, kind, kOfA kind clock cap (kFill sk sa sb clock cap), kOfB kind clock⟩ := by
    unfold movedS Slot.fill Slot.cap
    rw [hcap]
  rw [hMS]
  have HMG := Lib.hid (fun W : World => kernel_Migrate sk sa sb kind clock cap W u9 u10 u11 u12 hn0 hn1 hc0 (by omega) hk hq)
  have hkind : 0 ≤ kind ∧ kind < 256 := by unfold rightKind at hq; simp at hq; omega
  generalize kOfA kind clock cap (kFill sk sa sb clock cap) = oa at *
  generalize kOfB kind clock = ob at *
  clear hMS hcap hF
  simp only [Slot.val, Slot.cells]
  go_enter Try.func43, Try.ntmps43
  go_upto_region 1 with fail
  have bq := Blk.new w #[.string k, .string sp, .int .u64 se, .int .u64 sbu, .int .u8 srk, .int .u8 sk, .int .u64 sa, .int .u64 sb] 52
  have hx0 : Ext w (w.alloc (.cells #[.string k, .string sp, .int .u64 se, .int .u64 sbu, .int .u8 srk, .int .u8 sk, .int .u64 sa, .int .u64 sb] 52)) := (Ext.refl w).alloc _
  have htl := ht.blk.lt
  have hml := ht.map.lt
  have HT0 := Lib.hid (ht.ext hx0)
  generalize w.alloc (.cells #[.string k, .string sp, .int .u64 se, .int .u64 sbu, .int .u8 srk, .int .u8 sk, .int .u64 sa, .int .u64 sb] 52) = w0 at *
  have q1 : w0.cell? ⟨w.heap.size, 1, none⟩ = some (.string sp) := bq.cell 1
  have q2 : w0.cell? ⟨w.heap.size, 2, none⟩ = some (.int .u64 se) := bq.cell 2
  have q3 : w0.cell? ⟨w.heap.size, 3, none⟩ = some (.int .u64 sbu) := bq.cell 3
  have q4 : w0.cell? ⟨w.heap.size, 4, none⟩ = some (.int .u8 srk) := bq.cell 4
  have q5 : w0.cell? ⟨w.heap.size, 5, none⟩ = some (.int .u8 sk) := bq.cell 5
  have q6 : w0.cell? ⟨w.heap.size, 6, none⟩ = some (.int .u64 sa) := bq.cell 6
  have q7 : w0.cell? ⟨w.heap.size, 7, none⟩ = some (.int .u64 sb) := bq.cell 7
  have t1 : w0.cell? ⟨t, 1, none⟩ = some (.int .u64 clock) := HT0.out.blk.cell 1
  have hso : SlotOk ⟨k, sp, se, sbu, srk, kind, oa, ob⟩ := ⟨m1, m2, u1, u2, u3, u4, u5, u6, hkind.1, hkind.2, hnum.1, hnum.2.1, hnum.2.2.1, hnum.2.2.2⟩
  have HSO := Lib.hid hso
  have HOK := Lib.hid hok
  clear hso hok
  go_cut [18] from 5 to 27 (fun s18 wx => TabAt wx t mb most clock l c ∧ Blk wx w.heap.size #[.string k, .string sp, .int .u64 se, .int .u64 sbu, .int .u8 srk, .int .u8 kind, .int .u64 oa, .int .u64 ob] 52 ∧ Ext w wx)
  case first =>
    first
      | (go_region_with (first
          | (go_at_call 30; (with_reducible refine (rule_Cap sp se sbu srk _ m2 u1 u2 u3 u4).mono ?_); rw [HC.out]; rintro x w1 ⟨rfl, hx⟩; have q5 := hx.keep q5; have q6 := hx.keep q6; have q7 := hx.keep q7; have t1 := hx.keep t1; have bq1 := Blk.ext (Blk.drew bq) hx; have ht1 := (HT0.out.ext ((Ext.refl _).drew)).ext hx)
          | (go_at_call 64; (with_reducible refine (HMG.out _).mono ?_); rintro x w2 ⟨rfl, hx2⟩; have bq2 := bq1.ext hx2; have hcc := bq2.cell; have hff := bq2.free; have ht2 := ht1.ext hx2)))
      | fail
    all_goals
      go_wp2
      go_meet
      have hb3 := ((bq2.set 5 (.int .u8 kind)).set 6 (.int .u64 oa)).set 7 (.int .u64 ob)
      have hx3 : Ext w w2 := (by repeat (first | with_reducible exact Ext.refl _ | with_reducible assumption | with_reducible refine Ext.alloc ?_ _ | with_reducible refine Ext.drew ?_ | (with_reducible refine Ext.setCell ?_ (by first | exact Nat.le_refl _ | (dsimp only; omega) | (simp; done) | (simp; omega)) _) | with_reducible refine Ext.trans ?_ (by with_reducible assumption)))
      exact ⟨⟨((ht2.blk.other (by dsimp only; omega) _).other (by dsimp only; omega) _).other (by dsimp only; omega) _, ((ht2.map.other (by dsimp only; omega) _).other (by dsimp only; omega) _).other (by dsimp only; omega) _⟩, hb3, ((hx3.setCell (by dsimp only; omega) _).setCell (by dsimp only; omega) _).setCell (by dsimp only; omega) _⟩
  case rest =>
    obtain ⟨htc, hbc, hxc⟩ := hcut
    have g2 : wc.cell? ⟨t, 2, none⟩ = some (.map (some mb)) := htc.blk.cell 2
    have r0 : wc.cell? ⟨w.heap.size, 0, none⟩ = some (.string k) := hbc.cell 0
    have r1 : wc.cell? ⟨w.heap.size, 1, none⟩ = some (.string sp) := hbc.cell 1
    have r2 : wc.cell? ⟨w.heap.size, 2, none⟩ = some (.int .u64 se) := hbc.cell 2
    have r3 : wc.cell? ⟨w.heap.size, 3, none⟩ = some (.int .u64 sbu) := hbc.cell 3
    have r4 : wc.cell? ⟨w.heap.size, 4, none⟩ = some (.int .u8 srk) := hbc.cell 4
    have r5 : wc.cell? ⟨w.heap.size, 5, none⟩ = some (.int .u8 kind) := hbc.cell 5
    have r6 : wc.cell? ⟨w.heap.size, 6, none⟩ = some (.int .u64 oa) := hbc.cell 6
    have r7 : wc.cell? ⟨w.heap.size, 7, none⟩ = some (.int .u64 ob) := hbc.cell 7
    obtain ⟨w14, hput, hm14, hx14⟩ := run_sput (P := Try.prog) Try.underlying67 Try.underlying9 (htc.map.ext ((Ext.refl _).drew)) HOK.out.keys ⟨k, sp, se, sbu, srk, kind, oa, ob⟩
    simp only [Slot.val, Slot.cells] at hput
    have hxx : ExtB mb wc w14 := ((ExtB.refl mb wc).drew).trans hx14
    have hfin : TabAt w14 t mb most clock (l.put ⟨k, sp, se, sbu, srk, kind, oa, ob⟩ c) (l.putC ⟨k, sp, se, sbu, srk, kind, oa, ob⟩ c) := htc.swap hxx hm14
    have htm : t ≠ mb := htc.ne
    have HFIN := Lib.hid hfin
    have HXX := Lib.hid ((hxc.toB mb).trans hxx)
    clear hfin hm14 hbc htc HT0 HMG HC hx0 bq
    go_upto_region 2 with fail
    go_region_held3 (fun w' => w'.cell? ⟨t, 2, none⟩ = some (.map (some mb)) ∧ w'.cell? ⟨w.heap.size, 0, none⟩ = some (.string k) ∧ w'.cell? ⟨w.heap.size, 1, none⟩ = some (.string sp) ∧ w'.cell? ⟨w.heap.size, 2, none⟩ = some (.int .u64 se) ∧ w'.cell? ⟨w.heap.size, 3, none⟩ = some (.int .u64 sbu) ∧ w'.cell? ⟨w.heap.size, 4, none⟩ = some (.int .u8 srk) ∧ w'.cell? ⟨w.heap.size, 5, none⟩ = some (.int .u8 kind) ∧ w'.cell? ⟨w.heap.size, 6, none⟩ = some (.int .u64 oa) ∧ w'.cell? ⟨w.heap.size, 7, none⟩ = some (.int .u64 ob))
      (first | exact ⟨g2, r0, r1, r2, r3, r4, r5, r6, r7⟩ | exact ⟨hxx.keep g2 (by dsimp only; omega), hxx.keep r0 (by dsimp only; omega), hxx.keep r1 (by dsimp only; omega), hxx.keep r2 (by dsimp only; omega), hxx.keep r3 (by dsimp only; omega), hxx.keep r4 (by dsimp only; omega), hxx.keep r5 (by dsimp only; omega), hxx.keep r6 (by dsimp only; omega), hxx.keep r7 (by dsimp only; omega)⟩)
      (fail)
    go_wp2
    go_end0
    exact ⟨⟨_, rfl⟩, HFIN.out, HOK.out.put HSO.out, HXX.out⟩
end Go.Proofs.Ytnlmbmbalmkiiaa

/- Plain: entries; a slot that goes over to another kernel. -/
namespace Go.Proofs.Ytnlmbmbalmkiiaa
set_option linter.unusedVariables false
set_option linter.unusedSimpArgs false

/-- a key, and until when -/
structure Ent where
  key : ByteArray
  till : Int
def Ent.cells (e : Ent) : Array Value := #[.string e.key, .int .u64 e.till]
def entOf (clock : Int) (s : Slot) : Ent := ⟨s.key, kUntil (s.fill clock) clock⟩
/-- the entries of a table -/
def entsOf (clock : Int) (l : SMap) : List Ent := (slotsOf clock l).map (entOf clock)

theorem kUntil_u {f now : Int} (h0 : 0 ≤ f) (hn : 0 ≤ now) : 0 ≤ kUntil f now ∧ kUntil f now < 18446744073709551616 := by
  have := satAdd_u now f hn h0
  unfold kUntil; split <;> omega
end Go.Proofs.Ytnlmbmbalmkiiaa

/- How a slice of deeds comes out of an argument's reading. -/
namespace Go.Proofs.Ytnlmbmbalmkiiaa
open Go.ChangeShapes Go.WideShapes Go.ChangeAt Go.RowKit Go.Deep
set_option linter.unusedVariables false
set_option linter.unusedSimpArgs false

section
variable {H : Type} {enc : TypeId × Value → H} {P : Program} {w : World} {base : Nat} {held : Bool}

/-- one element's fields, a cell each -/
theorem field_cells {e : TypeId} {fs : Array Field} {fuel : Nat} {a : Addr} {cs : List Value} {x : DataW H × List MemPlace} {sp : Nat → Bool} (he : P.underlying e = some (.struct fs)) (hone : oneCellFields P fs = true) (hC : P.cellsOf e = fs.size)
    (hc : w.cells? base a (P.cellsOf e) = some cs) (ht : DataW.trod enc P w base sp held fuel e cs = some x) :
    ∀ (j : Nat) (f : Field), fs[j]? = some f → ∃ (v : Value) (y : DataW H × List MemPlace) (n : Nat), w.cell? (a.add j) = some v ∧ DataW.trod enc P w base sp held n f.type [v] = some y := by
  obtain ⟨xs, n, -, -, -, hlen, hf⟩ := DataW.trod_struct he ht
  obtain ⟨-, hcl, hat⟩ := World.cells?_some hc
  intro j f hj
  obtain ⟨ho, hk⟩ := hone_of hone j f hj
  have hjl : j < fs.size := (Array.getElem?_eq_some_iff.1 hj).1
  have hjc : j < cs.length := by rw [hcl, hC]; exact hjl
  have h1 := hf j f hj
  rw [ho, hk] at h1
  have e1 : (cs.drop j).take 1 = [cs[j]] := by rw [List.drop_eq_getElem_cons hjc]; rfl
  rw [e1] at h1
  refine ⟨cs[j], xs[j]'(by omega), n, ?_, h1.trans (List.getElem?_eq_getElem (by omega))⟩
  rw [hat j (by rw [hC]; exact hjl), List.getElem?_eq_getElem hjc]

theorem field_int {t : TypeId} {k : IntKind} {v : Value} {n : Nat} {sp : Nat → Bool} {y : DataW H × List MemPlace} (ht : P.underlying t = some (.int k)) (h : DataW.trod enc P w base sp held n t [v] = some y) : ∃ x, v = .int k x ∧ (Lit.int k x).wf = true := by
  obtain ⟨x, hv, -, hw⟩ := DataW.trod_int ht h
  simp only [List.cons.injEq, and_true] at hv
  exact ⟨x, hv, hw⟩

theorem field_bytes {t e : TypeId} {v : Value} {n : Nat} {y : DataW H × List MemPlace} (ht : P.underlying t = some (.slice e)) (he : P.underlying e = some (.int .u8)) (hc : P.cellsOf e = 1) (h : DataW.trod enc P w base (fun _ => true) held n t [v] = some y) : ∃ l, ByteSlice w v l := by
  rcases open_ints ht he hc h with ⟨hcs, _⟩ | ⟨x, len', cap', zs, hcs, _, hl, hm, hz, _, hcell, hwz⟩
  · simp only [List.cons.injEq, and_true] at hcs
    subst hcs
    exact ⟨[], ⟨_, _, rfl, fun h => absurd rfl h⟩, by simp⟩
  · simp only [List.cons.injEq, and_true] at hcs
    subst hcs
    simp only [if_true] at hz
    have hlen : ((zs.take len').map fun n => UInt8.ofNat n.toNat).length = len' := by rw [List.length_map, List.length_take, hz]; omega
    refine ⟨(zs.take len').map fun n => UInt8.ofNat n.toNat, ⟨some x, cap', by rw [hlen], fun hne => ?_⟩, by rw [hlen]; omega⟩
    have h0 : 0 < len' := by
      rcases Nat.eq_zero_or_pos len' with e | e
      · subst e; simp at hne
      · exact e
    have ex := plain_addr (hcell 0 (by omega))
    refine ⟨x.block, x.off, by rw [← ex], fun j hj => ?_⟩
    rw [hlen] at hj
    have hw := hwz (zs[j]'(by omega)) (List.getElem_mem _)
    have hb : 0 ≤ zs[j]'(by omega) ∧ zs[j]'(by omega) ≤ 255 := by simpa [Lit.wf, IntKind.min, IntKind.max, IntKind.signed, IntKind.bits] using hw
    rw [← addr_add, ← ex, hcell j (by omega)]
    simp only [List.getElem_map, List.getElem_take]
    simp [List.getD, List.getElem?_eq_getElem (show j < zs.length by omega)]
    omega
end

section
variable {H : Type} {enc : TypeId × Value → H} {W : World} {r : Reach} {b0 base : Nat} {held : Bool} {v : Value} {d : DataW H} {p : List MemPlace}

set_option maxRecDepth 100000 in
theorem open_deeds (hv : Value.okWide Try.prog W r b0 22 v) (h : DataW.Trod enc Try.prog W base (fun _ => true) held 22 v d p) : ∃ l, DeedSlice W v l := by
  obtain ⟨a0, len, cap, rfl⟩ := okWide_slice Try.underlying22 hv
  obtain ⟨fuel, hf⟩ := h
  rcases Go.Deep.open_slice Try.underlying22 hf with ⟨hcs, _⟩ | ⟨x, len', cap', m, n, D, Pl, hcs, hb, hl, hm, hmm, _, hi⟩
  · simp [Value.cells] at hcs
    obtain ⟨rfl, rfl, rfl⟩ := hcs
    exact ⟨[], ⟨_, _, rfl, fun h => absurd rfl h⟩, by simp, fun d hd => (by cases hd)⟩
  · simp [Value.cells] at hcs
    obtain ⟨rfl, rfl, rfl⟩ := hcs
    simp only [if_true] at hmm
    have hC : Try.prog.cellsOf 40 = 7 := by kernel_rfl
    have each : ∀ i : Fin len, ∃ q : Deed, DeedOk W q ∧ ∀ j, j < 7 → W.cell? ((x.add (i.1 * 7)).add j) = q.cells[j]? := by
      intro i
      obtain ⟨cs', hc', ht'⟩ := hi i.1 (by omega)
      rw [hC] at hc'
      have hF := field_cells (fs := _) Try.underlying40 (by kernel_rfl) (by kernel_rfl) (by rw [hC]; exact hc') ht'
      obtain ⟨v0, y0, n0, c0, t0⟩ := hF 0 _ rfl
      obtain ⟨v1, y1, n1, c1, t1⟩ := hF 1 _ rfl
      obtain ⟨v2, y2, n2, c2, t2⟩ := hF 2 _ rfl
      obtain ⟨v3, y3, n3, c3, t3⟩ := hF 3 _ rfl
      obtain ⟨v4, y4, n4, c4, t4⟩ := hF 4 _ rfl
      obtain ⟨v5, y5, n5, c5, t5⟩ := hF 5 _ rfl
      obtain ⟨v6, y6, n6, c6, t6⟩ := hF 6 _ rfl
      obtain ⟨x0, rfl, w0⟩ := field_int Try.underlying5 t0
      obtain ⟨x1, rfl, w1⟩ := field_int Try.underlying38 t1
      obtain ⟨x2, rfl, w2⟩ := field_int Try.underlying5 t2
      obtain ⟨l3, w3⟩ := field_bytes Try.underlying23 Try.underlying5 (by kernel_rfl) t3
      obtain ⟨x4, rfl, w4⟩ := field_int Try.underlying5 t4
      obtain ⟨x5, rfl, w5⟩ := field_int Try.underlying24 t5
      obtain ⟨x6, rfl, w6⟩ := field_int Try.underlying5 t6
      refine ⟨⟨x0, x1, x2, v3, l3, x4, x5, x6⟩, ⟨(wfu8 w0).1, (wfu8 w0).2, (wfu32 w1).1, (wfu32 w1).2, (wfu8 w2).1, (wfu8 w2).2, w3, (wfu8 w4).1, (wfu8 w4).2, (wfu16 w5).1, (wfu16 w5).2, (wfu8 w6).1, (wfu8 w6).2⟩, ?_⟩
      intro j hj
      rcases (by omega : j = 0 ∨ j = 1 ∨ j = 2 ∨ j = 3 ∨ j = 4 ∨ j = 5 ∨ j = 6) with rfl | rfl | rfl | rfl | rfl | rfl | rfl
      · exact c0
      · exact c1
      · exact c2
      · exact c3
      · exact c4
      · exact c5
      · exact c6
    have hlen : (List.ofFn fun i => Classical.choose (each i)).length = len := List.length_ofFn
    refine ⟨List.ofFn fun i => Classical.choose (each i), ⟨some x, cap, by rw [hlen], fun hne => ?_⟩, by rw [hlen]; omega, fun q hq => ?_⟩
    · have h0 : 0 < len := by
        rcases Nat.eq_zero_or_pos len with e | e
        · subst e; simp at hne
        · exact e
      have hx0 := (Classical.choose_spec (each ⟨0, h0⟩)).2 0 (by omega)
      have ex : x = ⟨x.block, x.off, none⟩ := by
        have e1 : (x.add (0 * 7)).add 0 = x.add 0 := by simp [Addr.add]
        rw [e1] at hx0
        exact plain_addr (v := (Classical.choose (each ⟨0, h0⟩)).cells[0]'(by simp [Deed.cells])) (by rw [hx0]; rfl)
      refine ⟨x.block, x.off, by rw [← ex], fun j hj i hi7 => ?_⟩
      rw [hlen] at hj
      have := (Classical.choose_spec (each ⟨j, hj⟩)).2 i hi7
      rw [List.getElem_ofFn, ← this, ex]
      simp only [addr_add]
    · obtain ⟨i, rfl⟩ := (List.mem_ofFn.1 hq)
      exact (Classical.choose_spec (each i)).1
end
end Go.Proofs.Ytnlmbmbalmkiiaa
