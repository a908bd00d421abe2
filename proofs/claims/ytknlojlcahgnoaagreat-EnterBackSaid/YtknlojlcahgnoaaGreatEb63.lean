/- Walk: tollerlaw17.deed. -/
import Derived.Deep.DeepCutAuto
import Derived.Test.YtknlojlcahgnoaaGreatEb61
import Derived.Test.YtknlojlcahgnoaaGreatEb34
import Derived.Test.YtknlojlcahgnoaaGreatEb41
import Derived.Test.YtknlojlcahgnoaaGreatEb35
import Derived.Test.YtknlojlcahgnoaaGreatEb43

namespace Go.Proofs.YtknlojlcahgnoaaGreat
open Go.RowKit
set_option linter.unusedVariables false
set_option linter.unusedSimpArgs false

/-- how far a deed's time is shifted -/
def shrOf (dw db : Int) : Int := dw / 2 ^ min (IntKind.u64.wrap (db.tmod 32)).toNat 32
theorem shrOf_u (dw db : Int) (h : 0 ≤ dw) : 0 ≤ shrOf dw db ∧ shrOf dw db ≤ dw := by
  unfold shrOf
  exact ⟨Int.ediv_nonneg h (Int.le_of_lt (Int.pow_pos (by decide))), Int.ediv_le_self _ h⟩
theorem shr_at {dw db clk : Int} (h0 : 0 ≤ dw) (h1 : dw < 4294967296) (hc0 : 0 ≤ clk) (hc1 : clk < 9223372036854775808) : IntKind.u64.wrap (clk + IntKind.u64.wrap (dw / 2 ^ min (IntKind.u64.wrap (db.tmod 32)).toNat 32)) = clk + shrOf dw db := by
  have := shrOf_u dw db h0
  show IntKind.u64.wrap (clk + IntKind.u64.wrap (shrOf dw db)) = _
  rw [wrap_u64, wrap_u64]
  omega
theorem ext_has (k p : ByteArray) : ((k.extract 0 p.size).toList == p.toList) = hasB k p := by
  rw [toListB]
  unfold hasB
  refine decide_eq_decide.2 ?_
  have hd : (k.extract 0 p.size).data.toList = k.data.toList.take p.size := by
    rw [ByteArray.data_extract, Array.toList_extract, List.extract_eq_take_drop, List.drop_zero, Nat.sub_zero]
  have hl : p.data.toList.length = p.size := by rw [Array.length_toList]; rfl
  rw [List.prefix_iff_eq_take, hl]
  constructor
  · intro h; rw [← hd, h]
  · intro h; exact ByteArray.ext (Array.toList_inj.1 (hd.trans h.symm))
theorem has_short {k p : ByteArray} (h : ¬ p.size ≤ k.size) : hasB k p = false := by
  unfold hasB
  refine decide_eq_false fun q => h ?_
  have := q.length_le
  simpa [Array.length_toList] using this
theorem has_nil (k : ByteArray) : hasB k ⟨#[]⟩ = true := by
  unfold hasB
  exact decide_eq_true (List.nil_prefix)
/-- the answer of a tick -/
def ansZ : Value := .agg #[.int .u8 0, .int .u16 0, .int .u64 0, .int .u64 0, .int .u64 0, .int .u64 0, .int .u64 0, .bool false, .int .i64 0, .slice none 0 0]
/-- what a deed by a policy does -/
def DeedIs (w : World) (t m : Nat) (most clock : Int) (l : SMap) (c : Nat) (rs : List Rl) (d : Deed) (x : Ending) (w' : World) : Prop :=
  Ext2 t m w w' ∧ ((d.kind % 8 = 0 ∧ x = .returned ansZ ∧ TabAt w' t m most (clock + shrOf d.wait d.big) l c) ∨
    (d.kind % 8 ≠ 0 ∧ x = .returned (cgV most clock l (deedName d) (bestD rs (deedName d)).p (bestD rs (deedName d)).e (bestD rs (deedName d)).b (bestD rs (deedName d)).k (d.n % 6)) ∧
      TabAt w' t m most clock (cgL most clock l c (deedName d) (bestD rs (deedName d)).p (bestD rs (deedName d)).e (bestD rs (deedName d)).b (bestD rs (deedName d)).k (d.n % 6)) (cgC most clock l c (deedName d) (bestD rs (deedName d)).p (bestD rs (deedName d)).e (bestD rs (deedName d)).b (bestD rs (deedName d)).k (d.n % 6)) ∧
      TabOk (cgL most clock l c (deedName d) (bestD rs (deedName d)).p (bestD rs (deedName d)).e (bestD rs (deedName d)).b (bestD rs (deedName d)).k (d.n % 6)) (cgC most clock l c (deedName d) (bestD rs (deedName d)).p (bestD rs (deedName d)).e (bestD rs (deedName d)).b (bestD rs (deedName d)).k (d.n % 6))))
theorem TabAt.set10 {w : World} {t m c b : Nat} {most clock : Int} {l : SMap} (h : TabAt w t m most clock l c) (n1 : t ≠ b) (n2 : m ≠ b) (v0 v1 v2 v3 v4 v5 v6 v7 v8 v9 : Value) :
    TabAt ((((((((((w.setCell ⟨b, 0, none⟩ v0).setCell ⟨b, 1, none⟩ v1).setCell ⟨b, 2, none⟩ v2).setCell ⟨b, 3, none⟩ v3).setCell ⟨b, 4, none⟩ v4).setCell ⟨b, 5, none⟩ v5).setCell ⟨b, 6, none⟩ v6).setCell ⟨b, 7, none⟩ v7).setCell ⟨b, 8, none⟩ v8).setCell ⟨b, 9, none⟩ v9) t m most clock l c :=
  (((((((((h.set n1 n2 0 v0).set n1 n2 1 v1).set n1 n2 2 v2).set n1 n2 3 v3).set n1 n2 4 v4).set n1 n2 5 v5).set n1 n2 6 v6).set n1 n2 7 v7).set n1 n2 8 v8).set n1 n2 9 v9
theorem ret_ans {fn : Func} {R : Ending → World → Prop} {tmps : Array Value} {w : World} {p : Tmp} {ty t : TypeId} {g : Nat} {C : Array Value} {d : TypeDesc} {P : Program} (h : fn.results = #[.cell p ty])
    (hp : tmps.getD p undef = .pointer (some ⟨g, 0, none⟩)) (hB : Blk w g C t) (hu : P.underlying ty = some d) (hd : aggKind d = true) (hi : (P.info? ty).map (·.size) = some C.size)
    (hR : R (.returned (.agg C)) w) : bodyPost P fn R .ret { tmps := tmps, defers := [] } w := ret_cell h hp hB hu hd hi hR

set_option maxHeartbeats 4000000 in
set_option maxRecDepth 100000 in
theorem law17_deed (t m c : Nat) (most clock : Int) (l : SMap) (pm : Int) (rv : Value) (rs : List Rl) (d : Deed) (w : World) (ht : TabAt w t m most clock l c) (hok : TabOk l c) (hn0 : 0 ≤ clock) (hn1 : clock < 4611686018427387904)
    (hr : RulesAt w rv rs) (hro : ∀ r ∈ rs, RlOk r) (hh : ∃ r0 r1, rs = r0 :: r1 ∧ r0.p = ⟨#[]⟩) (hlen : rs.length ≤ 1000) (hd : DeedOk w d) :
    Calls Tryz.prog 27 #[.pointer (some ⟨t, 0, none⟩), .agg #[.int .i64 pm, rv], .agg #[.int .u8 d.kind, .int .u32 d.wait, .int .u8 d.big, d.keyv, .int .u8 d.rule, .int .u16 d.n, .int .u8 d.to]] w fun x w' => DeedIs w t m most clock l c rs d x w' := by
  obtain ⟨ra, rc, rfl⟩ := hr.size
  obtain ⟨r0, r1, hr0, hp0⟩ := hh
  obtain ⟨ka, kc, hkv, -⟩ := hd.key.form
  have HNM := Lib.hid (fun W (hx : Ext w W) => law14_Name d W (hd.ext hx))
  have hnm := deedName_ok d
  have h13 : 13 ≤ maxLen := by decide
  have hmx : maxLen ≤ 9223372036854775807 := by decide
  have HIS : Hid (∀ x w', Ext2 t m w w' → ((d.kind % 8 = 0 ∧ x = .returned ansZ ∧ TabAt w' t m most (clock + shrOf d.wait d.big) l c) ∨
    (d.kind % 8 ≠ 0 ∧ ∀ r, bestD rs (deedName d) = r → x = .returned (cgV most clock l (deedName d) r.p r.e r.b r.k (d.n % 6)) ∧
      TabAt w' t m most clock (cgL most clock l c (deedName d) r.p r.e r.b r.k (d.n % 6)) (cgC most clock l c (deedName d) r.p r.e r.b r.k (d.n % 6)) ∧
      TabOk (cgL most clock l c (deedName d) r.p r.e r.b r.k (d.n % 6)) (cgC most clock l c (deedName d) r.p r.e r.b r.k (d.n % 6)))) → DeedIs w t m most clock l c rs d x w') := Lib.hid (fun x w' e h => by
      refine ⟨e, ?_⟩
      rcases h with h | ⟨h1, h2⟩
      · exact Or.inl h
      · exact Or.inr ⟨h1, h2 _ rfl⟩)
  obtain ⟨hdk0, hdk1, hdw0, hdw1, hdb0, hdb1, -, hdr0, hdr1, hdn0, hdn1, hdt0, hdt1⟩ := id hd
  have hbst : bestR (rs.take 1) (deedName d).data.toList = some r0 := by
    rw [hr0]
    exact best_first (rs := []) (by rw [hp0]; exact has_nil _) rfl
  have hl1 : 1 ≤ rs.length := by rw [hr0]; simp
  have hr00 : rs[0] = r0 := by simp [hr0]
  clear hr0 hp0
  rw [hkv] at HNM ⊢
  generalize hname : deedName d = name at *
  generalize (d.key).length = kn at *
  generalize d.kind = dk at *
  generalize d.wait = dw at *
  generalize d.big = db at *
  generalize d.rule = dr at *
  generalize d.n = dn at *
  generalize d.to = dt at *
  have HBST := Lib.hid hbst
  have hn12 := hnm.2
  have hT := ht
  have HR := Lib.hid hr
  have HRO := Lib.hid hro
  have HOK := Lib.hid hok
  have ht0 := ht.blk.lt
  have hm0 := ht.map.lt
  have x0 : Ext w (((w.alloc (.cells #[.int .i64 pm, .slice ra rs.length rc] 28)).alloc (.cells #[.int .u8 dk, .int .u32 dw, .int .u8 db, .slice ka kn kc, .int .u8 dr, .int .u16 dn, .int .u8 dt] 69)).alloc (.cells #[.int .u8 0, .int .u16 0, .int .u64 0, .int .u64 0, .int .u64 0, .int .u64 0, .int .u64 0, .bool false, .int .i64 0, .slice none 0 0] 66)) := (((Ext.refl w).alloc _).alloc _).alloc _
  have bP := ((Blk.new w #[.int .i64 pm, .slice ra rs.length rc] 28).alloc (.cells #[.int .u8 dk, .int .u32 dw, .int .u8 db, .slice ka kn kc, .int .u8 dr, .int .u16 dn, .int .u8 dt] 69)).alloc (.cells #[.int .u8 0, .int .u16 0, .int .u64 0, .int .u64 0, .int .u64 0, .int .u64 0, .int .u64 0, .bool false, .int .i64 0, .slice none 0 0] 66)
  have bD := (Blk.new' (w.alloc (.cells #[.int .i64 pm, .slice ra rs.length rc] 28)) #[.int .u8 dk, .int .u32 dw, .int .u8 db, .slice ka kn kc, .int .u8 dr, .int .u16 dn, .int .u8 dt] 69 (b := w.heap.size + 1) (by simp)).alloc (.cells #[.int .u8 0, .int .u16 0, .int .u64 0, .int .u64 0, .int .u64 0, .int .u64 0, .int .u64 0, .bool false, .int .i64 0, .slice none 0 0] 66)
  have bR := Blk.new' ((w.alloc (.cells #[.int .i64 pm, .slice ra rs.length rc] 28)).alloc (.cells #[.int .u8 dk, .int .u32 dw, .int .u8 db, .slice ka kn kc, .int .u8 dr, .int .u16 dn, .int .u8 dt] 69)) #[.int .u8 0, .int .u16 0, .int .u64 0, .int .u64 0, .int .u64 0, .int .u64 0, .int .u64 0, .bool false, .int .i64 0, .slice none 0 0] 66 (b := w.heap.size + 1 + 1) (by simp)
  have HT := Lib.hid (ht.ext x0)
  have hv8 : IntKind.u8.wrap (dk % 8) = dk % 8 := by simp [IntKind.wrap, IntKind.signed, IntKind.bits]; omega
  clear ht hT hr hro hok hd hbst hnm hkv
  go_enter Tryz.func27, Tryz.ntmps27
  go_upto_region 1 with fail
  generalize ((w.alloc (.cells #[.int .i64 pm, .slice ra rs.length rc] 28)).alloc (.cells #[.int .u8 dk, .int .u32 dw, .int .u8 db, .slice ka kn kc, .int .u8 dr, .int .u16 dn, .int .u8 dt] 69)).alloc (.cells #[.int .u8 0, .int .u16 0, .int .u64 0, .int .u64 0, .int .u64 0, .int .u64 0, .int .u64 0, .bool false, .int .i64 0, .slice none 0 0] 66) = w0 at *
  have hz0 := x0.sz
  have HX0 := Lib.hid x0
  have HBP := Lib.hid bP
  have HBD := Lib.hid bD
  have HBR := Lib.hid bR
  have cD := bD.cell
  have hRl := bR.lt
  clear x0 bP bD bR
  by_cases q : dk % 8 = 0
  · have hsh := shrOf_u dw db hdw0
    have hat := shr_at (db := db) hdw0 hdw1 hn0 (by omega)
    generalize shrOf dw db = S at *
    obtain ⟨hS0, hS1⟩ := hsh
    have hmx2 : max clock (clock + S) = clock + S := by omega
    have HTK := Lib.hid (fun V (h : TabAt V t m most clock l c) => table_Tick t m c most clock (clock + S) l V h hn0 (by omega) (by omega) (by omega))
    rw [hmx2] at HTK
    clear hmx2
    go_upto_region 2 with fail
    have c1 : w0.cell? ⟨w.heap.size + 1, 1, none⟩ = some (.int .u32 dw) := HBD.out.cell 1
    have c2 : w0.cell? ⟨w.heap.size + 1, 2, none⟩ = some (.int .u8 db) := HBD.out.cell 2
    clear cD
    go_region_held3 (fun w' => w'.cell? ⟨w.heap.size + 1, 1, none⟩ = some (.int .u32 dw) ∧ w'.cell? ⟨w.heap.size + 1, 2, none⟩ = some (.int .u8 db))
      (first | exact ⟨c1, c2⟩)
      (first
        | (go_at_call 33; (with_reducible refine (table_ClockX t m c most clock l _ (HT.out.ext ((Ext.refl _).drew)) hn0 (by omega)).mono ?_); rintro x w4 ⟨rfl, hx4'⟩; have hx4 : Ext w0 w4 := ((Ext.refl w0).drew).trans hx4'; have c1 := hx4.keep c1; have c2 := hx4.keep c2; have ht4 := HT.out.ext hx4; have hz4 := hx4.sz)
        | (go_at_call 53; (with_reducible refine (HTK.out _ ht4).mono ?_); rintro x w5 ⟨rfl, ht5, hx5⟩; have c1 := hx5.keep c1 (by dsimp only; omega); have c2 := hx5.keep c2 (by dsimp only; omega)))
    have bR5 := (HBR.out.ext hx4).extB hx5 (by omega)
    have cR := bR5.cell
    have fR := bR5.free
    have lR := bR5.lt
    have hE2 : Ext2 t m w w5 := (HX0.out.to2 t m).trans ((hx4.to2 t m).trans (hx5.to2t m))
    have HE2 := Lib.hid hE2
    have HT5 := Lib.hid ht5
    have HBR5 := Lib.hid bR5
    clear hx4 hx4' hx5 ht4 ht5 hE2 bR5 c1 c2
    go_wp2_with fail
    refine ret_ans Tryz.results27 rfl (HBR5.out.set10 _ _ _ _ _ _ _ _ _ _) Tryz.underlying66 rfl (by kernel_rfl) ?_
    exact HIS.out _ _ (HE2.out.set10 (by omega) _ _ _ _ _ _ _ _ _ _) (Or.inl ⟨q, rfl, HT5.out.set10 (by omega) (by omega) _ _ _ _ _ _ _ _ _ _⟩)
  · have hq0 : (dk % 8 == 0) = false := by simpa using q
    have hsz : name.size ≤ maxLen := by omega
    go_wp2_with fail
    refine (HNM.out _ HX0.out).mono ?_
    rintro x w1 ⟨rfl, hx1⟩
    obtain ⟨b, o, rfl, hbl, hc⟩ := (HR.out.ext Rl.size4 (HX0.out.trans hx1)).cells Rl.size4 (by decide) 0 (by omega)
    have c0 : w1.cell? ⟨b, o, none⟩ = some (.string r0.p) := by have := hc 0 (by decide); rw [hr00] at this; simpa [Rl.cells] using this
    have c1 : w1.cell? ⟨b, o + 1, none⟩ = some (.int .u64 r0.e) := by have := hc 1 (by decide); rw [hr00] at this; simpa [Rl.cells] using this
    have c2 : w1.cell? ⟨b, o + 2, none⟩ = some (.int .u64 r0.b) := by have := hc 2 (by decide); rw [hr00] at this; simpa [Rl.cells] using this
    have c3 : w1.cell? ⟨b, o + 3, none⟩ = some (.int .u8 r0.k) := by have := hc 3 (by decide); rw [hr00] at this; simpa [Rl.cells] using this
    have cP := (HBP.out.ext hx1).cell
    have HX1 := Lib.hid hx1
    have hl0 : (0 : Int) < (rs.length : Int) := by omega
    clear hc cD hx1
    go_upto_region 6 with fail
    have bQ := Blk.new w1 #[.string r0.p, .int .u64 r0.e, .int .u64 r0.b, .int .u8 r0.k] 37
    have hxq : Ext w1 (w1.alloc (.cells #[.string r0.p, .int .u64 r0.e, .int .u64 r0.b, .int .u8 r0.k] 37)) := (Ext.refl w1).alloc _
    generalize w1.alloc (.cells #[.string r0.p, .int .u64 r0.e, .int .u64 r0.b, .int .u8 r0.k] 37) = w2 at *
    have hz1 := HX1.out.sz
    clear c0 c1 c2 c3 cP
    go_wp2_with fail
    go_loopw [9, 10] (fun i s wr => ∃ (j : Nat) (r : Rl), 1 ≤ j ∧ j ≤ rs.length ∧ i = .int .i64 j ∧ Blk wr w1.heap.size #[.string r.p, .int .u64 r.e, .int .u64 r.b, .int .u8 r.k] 37 ∧ bestR (rs.take j) name.data.toList = some r ∧ RlOk r ∧ Ext w1 wr) (fun i _ _ => rs.length - (intOf i).toNat)
    case atStart => exact ⟨1, r0, by omega, hl1, rfl, bQ, HBST.out, HRO.out r0 (by rw [← hr00]; exact List.getElem_mem _), hxq⟩
    case round =>
      obtain ⟨j, r, hj1, hj2, rfl, hbq, hbe, hrok, hx⟩ := hrel
      have HBQ := Lib.hid hbq
      have HBE := Lib.hid hbe
      have HRK := Lib.hid hrok
      have HX := Lib.hid hx
      have cP1 : wr.cell? ⟨w.heap.size, 1, none⟩ = some (.slice (some ⟨b, o, none⟩) rs.length rc) := (HBP.out.ext (HX1.out.trans hx)).cell 1
      clear hbq hbe hrok bQ hxq
      by_cases hlt : j < rs.length
      · obtain ⟨b', o', hbo, hbl', hc⟩ := (HR.out.ext Rl.size4 (HX0.out.trans (HX1.out.trans hx))).cells Rl.size4 (by decide) j hlt
        simp only [Option.some.injEq, Addr.mk.injEq, and_true] at hbo
        obtain ⟨rfl, rfl⟩ := hbo
        have c0 : wr.cell? ⟨b, o + j * 4, none⟩ = some (.string rs[j].p) := hc 0 (by decide)
        have c1 : wr.cell? ⟨b, o + j * 4 + 1, none⟩ = some (.int .u64 rs[j].e) := hc 1 (by decide)
        have c2 : wr.cell? ⟨b, o + j * 4 + 2, none⟩ = some (.int .u64 rs[j].b) := hc 2 (by decide)
        have c3 : wr.cell? ⟨b, o + j * 4 + 3, none⟩ = some (.int .u8 rs[j].k) := hc 3 (by decide)
        have HYK := Lib.hid (HRO.out rs[j] (List.getElem_mem hlt))
        have HTK := Lib.hid (takeR_snoc rs j hlt)
        obtain ⟨y, hy⟩ : ∃ y, rs[j] = y := ⟨_, rfl⟩
        rw [hy] at c0 c1 c2 c3 HTK HYK
        have hyp := HYK.out.1
        have hyp2 : y.p.size ≤ 9223372036854775807 := by omega
        have hrp := HRK.out.1
        have hj0 : (0 : Int) ≤ (j : Int) := by omega
        have hj3 : (j : Int) < (rs.length : Int) := by omega
        have bq := HBQ.out
        have q0 : wr.cell? ⟨w1.heap.size, 0, none⟩ = some (.string r.p) := bq.cell 0
        clear hc hy bq
        by_cases h1 : y.p.size ≤ name.size
        · have h1i : (y.p.size : Int) ≤ (name.size : Int) := by omega
          have hEX := ext_has name y.p
          by_cases h2 : hasB name y.p = true
          · rw [h2] at hEX
            by_cases h3 : r.p.size < y.p.size
            · have h3i : (r.p.size : Int) < (y.p.size : Int) := by omega
              have HN := Lib.hid (best_more h2 HBE.out h3)
              have fq := HBQ.out.free
              have lq := HBQ.out.lt
              have cq := HBQ.out.cell
              go_wp2_with fail
              go_roundw
              case rel => exact ⟨j + 1, y, by omega, by omega, by go_num, (((HBQ.out.set 0 _).set 1 _).set 2 _).set 3 _, by rw [HTK.out]; exact HN.out, HYK.out, (((HX.out.setCell (Nat.le_refl _) _).setCell (Nat.le_refl _) _).setCell (Nat.le_refl _) _).setCell (Nat.le_refl _) _⟩
              case measure => simp [intOf]; omega
            · have h3i : ¬ (r.p.size : Int) < (y.p.size : Int) := by omega
              have HN := Lib.hid (best_less (r := y) HBE.out h3)
              go_wp2_with fail
              go_roundw
              case rel => exact ⟨j + 1, r, by omega, by omega, by go_num, HBQ.out, by rw [HTK.out]; exact HN.out, HRK.out, HX.out⟩
              case measure => simp [intOf]; omega
          · have h2' : hasB name y.p = false := by simpa using h2
            rw [h2'] at hEX
            have HN := Lib.hid (best_no (rs := rs.take j) h2')
            go_wp2_with fail
            go_roundw
            case rel => exact ⟨j + 1, r, by omega, by omega, by go_num, HBQ.out, by rw [HTK.out, HN.out]; exact HBE.out, HRK.out, HX.out⟩
            case measure => simp [intOf]; omega
        · have h1i : ¬ (y.p.size : Int) ≤ (name.size : Int) := by omega
          have HN := Lib.hid (best_no (rs := rs.take j) (has_short h1))
          go_wp2_with fail
          go_roundw
          case rel => exact ⟨j + 1, r, by omega, by omega, by go_num, HBQ.out, by rw [HTK.out, HN.out]; exact HBE.out, HRK.out, HX.out⟩
          case measure => simp [intOf]; omega
      · have hje : j = rs.length := by omega
        have hbD : bestD rs name = r := by
          have q := HBE.out
          rw [hje, List.take_length] at q
          unfold bestD
          rw [q]
          rfl
        have HBB := Lib.hid hbD
        have bq := HBQ.out.cell
        have cD := (HBD.out.ext (HX1.out.trans HX.out)).cell
        have hn6 : dn.tmod 6 = dn % 6 := Int.tmod_eq_emod_of_nonneg hdn0
        have hn6w : IntKind.u16.wrap (dn % 6) = dn % 6 := by simp [IntKind.wrap, IntKind.signed, IntKind.bits]; omega
        have hn6u : IntKind.u64.wrap (dn % 6) = dn % 6 := by simp [IntKind.wrap, IntKind.signed, IntKind.bits]; omega
        obtain ⟨f1, f2, f3, f4, f5, f6, f7⟩ := HRK.out
        have HCH := Lib.hid (charge_any t m c name r.p most clock r.e r.b r.k (dn % 6) l wr (HT.out.ext (HX1.out.trans HX.out)) HOK.out hn0 (by omega) hsz f1 f2 f3 f4 f5 f6 f7 (by omega) (by omega))
        obtain ⟨code, err, lim, left, reset, aft, nan, ret, hV⟩ := cgV_form most clock l name r.p r.e r.b r.k (dn % 6)
        have HV1 := Lib.hid (show cgV most clock l name r.p r.e r.b r.k (dn % 6) = .agg #[.int .u8 code, .int .u16 err, .int .u64 lim, .int .u64 left, .int .u64 reset, .int .u64 aft, .int .u64 nan, .bool ret, .int .i64 0, .slice none 0 0] from hV)
        rw [HV1.out] at HCH
        clear hbD hV f1 f2 f3 f4 f5 f6 f7
        go_wp2_with fail
        refine HCH.out.mono ?_
        rintro x w6 ⟨rfl, ht6, hok6, hx6⟩
        have bR6 := (HBR.out.ext (HX1.out.trans HX.out)).extB hx6 (by omega)
        have cR := bR6.cell
        have fR := bR6.free
        have lR := bR6.lt
        have HE2 := Lib.hid (((HX0.out.trans (HX1.out.trans HX.out)).to2 t m).trans (hx6.to2m t))
        have HT6 := Lib.hid ht6
        have HOK6 := Lib.hid hok6
        have HBR6 := Lib.hid bR6
        clear ht6 hok6 hx6 bR6
        go_wp2_with fail
        refine ret_ans Tryz.results27 rfl (HBR6.out.set10 _ _ _ _ _ _ _ _ _ _) Tryz.underlying66 rfl (by kernel_rfl) ?_
        refine HIS.out _ _ (HE2.out.set10 (by omega) _ _ _ _ _ _ _ _ _ _) (Or.inr ⟨q, fun r' e => ?_⟩)
        have e2 : r = r' := HBB.out.symm.trans e
        subst e2
        exact ⟨by rw [HV1.out], HT6.out.set10 (by omega) (by omega) _ _ _ _ _ _ _ _ _ _, HOK6.out⟩
end Go.Proofs.YtknlojlcahgnoaaGreat
