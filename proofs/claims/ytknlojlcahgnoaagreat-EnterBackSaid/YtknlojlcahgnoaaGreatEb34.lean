/- Walks: prefix.New. Walks: tollerref09.Has, tollerref13.Find. -/
import Derived.Deep.DeepCutAuto
import Derived.Test.YtknlojlcahgnoaaGreatEb30
import Derived.Test.YtknlojlcahgnoaaGreatEb13
import Derived.Test.YtknlojlcahgnoaaGreatEb5
import Derived.Test.YtknlojlcahgnoaaGreatEb9

namespace Go.Proofs.YtknlojlcahgnoaaGreat
open Go.RowKit
set_option linter.unusedVariables false
set_option linter.unusedSimpArgs false

def RlOk (r : Rl) : Prop := r.p.size ≤ maxLen ∧ 0 ≤ r.e ∧ r.e < 18446744073709551616 ∧ 0 ≤ r.b ∧ r.b < 18446744073709551616 ∧ 0 ≤ r.k ∧ r.k < 256
theorem Rl.size4 (r : Rl) : r.cells.size = 4 := rfl
abbrev RulesAt (w : World) (v : Value) (l : List Rl) : Prop := ElemsAt Rl.cells 4 w v l

theorem holds_new {root : Nat} {ns ns1 : NSet} (h1 : Trie root ns1) (hH : ∀ q r, Has ns1 q r ↔ Has ns q r) {rs : List Rl} (hh : HoldsR ns rs) {m : Nd} (hm : m ∈ ns1) {r : Rl} (hp : m.path = r.key) (hr : m.rule = none) (b : Nat) :
    HoldsR (swap1 ns1 (ruleAt m (b, r))) (rs ++ [r]) := by
  intro p r'
  have hno : firstAt rs m.path = none := by
    cases hf : firstAt rs m.path with
    | none => rfl
    | some z =>
      obtain ⟨q, hq⟩ := (hh m.path z).2 hf
      obtain ⟨x, hx, e1, e2⟩ := (hH _ _).2 hq
      obtain rfl := h1.uniq hx hm e1
      rw [hr] at e2; cases e2
  rw [firstAt_snoc]
  constructor
  · rintro ⟨q, hq⟩
    rcases (has_set h1 hm hr (b, r) p (q, r')).1 hq with hq | ⟨rfl, e⟩
    · rw [(hh p r').1 ⟨q, (hH _ _).1 hq⟩]
      simp
    · cases e
      rw [hno, hp]
      simp
  · intro hf
    cases hfp : firstAt rs p with
    | some z =>
      rw [hfp] at hf
      simp at hf
      subst hf
      obtain ⟨q, hq⟩ := (hh p z).2 hfp
      exact ⟨q, (has_set h1 hm hr (b, r) p (q, z)).2 (Or.inl ((hH _ _).2 hq))⟩
    | none =>
      rw [hfp] at hf
      by_cases hk : r.key = p
      · simp [hk] at hf
        subst hf
        exact ⟨b, (has_set h1 hm hr (b, r) p (b, r)).2 (Or.inr ⟨hk.symm.trans hp.symm, rfl⟩)⟩
      · simp [hk] at hf
theorem holds_old {root : Nat} {ns ns1 : NSet} (h1 : Trie root ns1) (hH : ∀ q r, Has ns1 q r ↔ Has ns q r) {rs : List Rl} (hh : HoldsR ns rs) {m : Nd} (hm : m ∈ ns1) {r : Rl} (hp : m.path = r.key) {q : Nat × Rl} (hr : m.rule = some q) :
    HoldsR ns1 (rs ++ [r]) := by
  have hsome : firstAt rs r.key = some q.2 := (hh _ _).1 ⟨q.1, (hH _ _).1 ⟨m, hm, hp, hr⟩⟩
  intro p r'
  rw [firstAt_snoc]
  have hx : (∃ q, Has ns1 p (q, r')) ↔ firstAt rs p = some r' := by
    rw [← hh p r']
    exact ⟨fun ⟨q, h⟩ => ⟨q, (hH _ _).1 h⟩, fun ⟨q, h⟩ => ⟨q, (hH _ _).2 h⟩⟩
  rw [hx]
  cases hfp : firstAt rs p with
  | some z => simp
  | none =>
    have : r.key ≠ p := fun e => by rw [e, hfp] at hsome; cases hsome
    simp [this]

/-- the tree of a root alone -/
def root0 (a mb : Nat) : Nd := ⟨a, mb, [], 0, none, [], 0⟩
def set0 (a mb : Nat) : NSet := fun x => x = root0 a mb
theorem trie0 (a mb : Nat) : Trie a (set0 a mb) := by
  have one : ∀ x ∈ set0 a mb, x = root0 a mb := fun x hx => hx
  refine ⟨?_, ?_, ?_, ?_, ?_, ?_, ?_, ?_⟩
  · intro m hm m' hm' _
    rw [one m hm, one m' hm']
  · intro n hn k hk
    rw [one n hn] at hk
    cases hk
  · intro n hn
    rw [one n hn]
    exact List.nodup_nil
  · intro m hm hne
    rw [one m hm] at hne
    exact absurd rfl hne
  · intro m hm _
    rw [one m hm]
    rfl
  · exact ⟨root0 a mb, rfl, rfl, rfl, rfl⟩
  · intro m hm m' hm' _
    rw [one m hm, one m' hm']
  · intro m hm hne
    rw [one m hm] at hne
    exact absurd rfl hne
theorem holds0 (a mb : Nat) : HoldsR (set0 a mb) [] := by
  intro p r
  constructor
  · rintro ⟨q, x, hx, -, e⟩
    rw [show x = root0 a mb from hx] at e
    cases e
  · intro h; cases h
theorem tree0 (w : World) (a mb : Nat) (lo : Nat) (hb : Blk w a #[.string ⟨#[]⟩, .pointer none, .map (some mb), .int .i64 0] 210) (hm : KMap w mb [] 0) (h1 : lo ≤ a) (h2 : lo ≤ mb) : TreeAt w lo a 0 (set0 a mb) := by
  have one : ∀ x ∈ set0 a mb, x = root0 a mb := fun x hx => hx
  refine ⟨trie0 a mb, ?_, ?_, ?_, ?_, ?_⟩
  · intro x hx
    rw [one x hx]
    have e : (root0 a mb).cells a 0 = #[.string ⟨#[]⟩, .pointer none, .map (some mb), .int .i64 0] := by simp [Nd.cells, root0, Nd.part, Nd.rp]
    have e2 : (root0 a mb).ty a = 210 := by simp [Nd.ty, root0]
    rw [e, e2]
    exact hb
  · intro x hx
    rw [one x hx]
    exact hm
  · intro x hx r hr
    rw [one x hx] at hr
    cases hr
  · intro x hx
    rw [one x hx]
    exact ⟨h1, h2⟩
  · intro x hx
    rw [one x hx]
    simp [root0]

/-- where the loop of New stands -/
def NewAt (w : World) (rs : List Rl) (root : Nat) (i : Nat) (wr : World) : Prop := ∃ (ns : NSet) (many : Int), TreeAt wr w.heap.size root many ns ∧ HoldsR ns (rs.take i) ∧ Ext w wr ∧ 0 ≤ many ∧ many ≤ i
/-- a tree that holds some rules -/
def TreeOf (w w' : World) (rs : List Rl) (v : Value) : Prop := ∃ (root : Nat) (ns : NSet) (many : Int), v = .pointer (some ⟨root, 0, none⟩) ∧ TreeAt w' w.heap.size root many ns ∧ HoldsR ns rs
theorem takeR_snoc {α : Type} (l : List α) (i : Nat) (h : i < l.length) : l.take (i + 1) = l.take i ++ [l[i]] := List.take_succ_eq_append_getElem h

set_option maxHeartbeats 2000000 in
set_option maxRecDepth 100000 in
theorem prefix_New (v : Value) (rs : List Rl) (w : World) (hv : RulesAt w v rs) (hok : ∀ r ∈ rs, RlOk r) (hlen : rs.length ≤ maxLen) :
    Calls Tryz.prog 65 #[v] w fun x w' => (∃ u, x = .returned u ∧ TreeOf w w' rs u) ∧ Ext w w' := by
  obtain ⟨a, c, rfl⟩ := hv.size
  have HV := Lib.hid hv
  have HOK := Lib.hid hok
  have hmm := @run_makeMap Tryz.prog
  unfold maxLen at hlen
  clear hv hok
  go_enter Tryz.func65, Tryz.ntmps65
  have h0 : NewAt w rs (w.heap.size + 1) 0 ((w.alloc (.map #[] 0)).alloc (.cells #[.string ⟨#[]⟩, .pointer none, .map (some w.heap.size), .int .i64 0] 210)) :=
    ⟨_, 0, tree0 _ (w.heap.size + 1) w.heap.size w.heap.size (Blk.new' _ _ _ (by simp)) (KMap.ext (KMap.new w) ((Ext.refl _).alloc _)) (Nat.le_succ _) (Nat.le_refl _), holds0 _ _, ((Ext.refl w).alloc _).alloc _, by omega, by omega⟩
  have H0 := Lib.hid h0
  clear h0
  go_wp2
  clear hmm
  go_loopw [13] (fun v13 wr => ∃ i : Nat, i ≤ rs.length ∧ v13 = .int .i64 i ∧ NewAt w rs (w.heap.size + 1) i wr) (fun v13 _ => rs.length - (intOf v13).toNat)
  case atStart => exact ⟨0, Nat.zero_le _, rfl, H0.out⟩
  case round =>
    obtain ⟨i, hi, rfl, ns, many, hT, hH, hx, hm0, hm1⟩ := hrel
    have HT := Lib.hid hT
    have HH := Lib.hid hH
    have HX := Lib.hid hx
    have hsz := Ext.sz hx
    clear hT hH hx
    by_cases hlt : i < rs.length
    · obtain ⟨b, o, rfl, hbl, hc⟩ := (HV.out.ext Rl.size4 HX.out).cells Rl.size4 (by decide) i hlt
      have c0 : wr.cell? ⟨b, o + i * 4, none⟩ = some (.string rs[i].p) := hc 0 (by decide)
      have c1 : wr.cell? ⟨b, o + i * 4 + 1, none⟩ = some (.int .u64 rs[i].e) := hc 1 (by decide)
      have c2 : wr.cell? ⟨b, o + i * 4 + 2, none⟩ = some (.int .u64 rs[i].b) := hc 2 (by decide)
      have c3 : wr.cell? ⟨b, o + i * 4 + 3, none⟩ = some (.int .u8 rs[i].k) := hc 3 (by decide)
      have hps := (HOK.out rs[i] (List.getElem_mem hlt)).1
      have HTK := Lib.hid (takeR_snoc rs i hlt)
      have hcell : ∃ r, rs[i] = r := ⟨_, rfl⟩
      obtain ⟨r, hr⟩ := hcell
      rw [hr] at c0 c1 c2 c3 hps HTK
      clear hc hr
      go_upto_region 5 with fail
      have bS : Blk (wr.alloc (.cells #[.string r.p, .int .u64 r.e, .int .u64 r.b, .int .u8 r.k] 37)) wr.heap.size r.cells 37 := Blk.new wr _ _
      have hxa : Ext wr (wr.alloc (.cells #[.string r.p, .int .u64 r.e, .int .u64 r.b, .int .u8 r.k] 37)) := (Ext.refl wr).alloc _
      generalize wr.alloc (.cells #[.string r.p, .int .u64 r.e, .int .u64 r.b, .int .u8 r.k] 37) = wa at *
      have s0 : wa.cell? ⟨wr.heap.size, 0, none⟩ = some (.string r.p) := bS.cell 0
      have HXA := Lib.hid hxa
      have hsa := Ext.sz hxa
      have BS := Lib.hid bS
      clear bS hxa c0 c1 c2 c3
      go_region_held3 (fun w' => w'.cell? ⟨wr.heap.size, 0, none⟩ = some (.string r.p)) (first | go_keep | exact z0)
        ((go_at_call 123; (with_reducible refine (node_grow w.heap.size (w.heap.size + 1) many ns r.p _ ((HT.out.ext HXA.out).ext ((Ext.refl _).drew)) hps (Nat.le_trans hsz (Nat.le_trans hsa (Ext.sz (Ext.refl wa).drew)))).mono ?_); rintro x w2 ⟨ns1, m, rfl, hm, hmp, hT2, hH2, hb2, hrk⟩; have z0 : w2.cell? ⟨wr.heap.size, 0, none⟩ = some (.string r.p) := (hrk _ _ BS.out.drew).cell 0))
      all_goals
        have HT2 := Lib.hid hT2
        have HH2 := Lib.hid hH2
        have HB2 := Lib.hid hb2
        have HMP := Lib.hid hmp
        have hbS2 := hrk _ _ BS.out.drew
        have HBS := Lib.hid hbS2
        have hx2 : Ext w w2 := Below.trans ((HX.out.trans HXA.out).drew) hb2
        have HX2 := Lib.hid hx2
        obtain ⟨-, d1, -⟩ := Nd.cell0 (hT2.cells m hm)
        have f1 := (hT2.cells m hm).free 1
        have hmal := (hT2.cells m hm).lt
        clear hT2 hH2 hb2 hmp hbS2 hx2 hrk z0
        cases hmr : m.rule with
        | some q =>
          have e1 : m.rp = .pointer (some ⟨q.1, 0, none⟩) := by simp [Nd.rp, hmr]
          rw [e1] at d1
          have HMR := Lib.hid hmr
          clear e1 hmr
          go_wp2
          go_roundw
          case rel => exact ⟨i + 1, by omega, by go_num, ns1, many, HT2.out, by rw [HTK.out]; exact holds_old HT2.out.trie HH2.out HH.out hm HMP.out HMR.out, HX2.out, hm0, by omega⟩
          case measure => simp [intOf]; omega
        | none =>
          have e1 : m.rp = .pointer none := by simp [Nd.rp, hmr]
          rw [e1] at d1
          have HMR := Lib.hid hmr
          have hT3 := HT2.out.setRule hm HBS.out
          obtain ⟨rt, hrt, hra, -⟩ := hT3.trie.root
          have d3 := Nd.root3 (hT3.cells rt hrt) hra
          have f3 : (w2.setCell ⟨m.a, 1, none⟩ (.pointer (some ⟨wr.heap.size, 0, none⟩))).frozen? ⟨w.heap.size + 1, 3, none⟩ = false := by
            have := (hT3.cells rt hrt).free 3
            rw [hra] at this
            exact this
          have hml := (HT2.out.low m hm).1
          have HT3 := Lib.hid hT3
          clear e1 hmr hT3 hra
          have hm2 : many < 9223372036854775807 := by omega
          go_wp2
          go_roundw
          case rel => exact ⟨i + 1, by omega, by go_num, _, many + 1, HT3.out.setMany (many + 1), by rw [HTK.out]; exact holds_new HT2.out.trie HH2.out HH.out hm HMP.out HMR.out _, (HX2.out.setCell hml _).setCell (Nat.le_succ _) _, by omega, by omega⟩
          case measure => simp [intOf]; omega
    · have hir : i = rs.length := by omega
      subst hir
      go_wp2
      go_ret
      exact ⟨⟨_, rfl, _, ns, many, rfl, HT.out, by have := HH.out; rw [List.take_length] at this; exact this⟩, HX.out⟩
end Go.Proofs.YtknlojlcahgnoaaGreat

namespace Go.Proofs.YtknlojlcahgnoaaGreat
open Go.RowKit
set_option linter.unusedVariables false
set_option linter.unusedSimpArgs false

theorem hasB_iff (k p : ByteArray) : hasB k p = true ↔ p.data.toList <+: k.data.toList := by unfold hasB; exact decide_eq_true_iff
theorem key_len (r : Rl) : r.key.length = r.p.size := data_len r.p
theorem best_no {rs : List Rl} {r : Rl} {k : ByteArray} (h : hasB k r.p = false) : bestR (rs ++ [r]) k.data.toList = bestR rs k.data.toList := by
  rw [bestR_snoc, if_neg]
  rintro ⟨h1, -⟩
  rw [(hasB_iff k r.p).2 h1] at h; cases h
theorem best_first {rs : List Rl} {r : Rl} {k : ByteArray} (h : hasB k r.p = true) (h0 : bestR rs k.data.toList = none) : bestR (rs ++ [r]) k.data.toList = some r := by
  rw [bestR_snoc, if_pos]
  exact ⟨(hasB_iff k r.p).1 h, fun x hx => by rw [h0] at hx; cases hx⟩
theorem best_more {rs : List Rl} {r x : Rl} {k : ByteArray} (h : hasB k r.p = true) (h0 : bestR rs k.data.toList = some x) (hl : x.p.size < r.p.size) : bestR (rs ++ [r]) k.data.toList = some r := by
  rw [bestR_snoc, if_pos]
  exact ⟨(hasB_iff k r.p).1 h, fun y hy => by rw [h0] at hy; cases hy; rw [key_len, key_len]; exact hl⟩
theorem best_less {rs : List Rl} {r x : Rl} {k : ByteArray} (h0 : bestR rs k.data.toList = some x) (hl : ¬ x.p.size < r.p.size) : bestR (rs ++ [r]) k.data.toList = some x := by
  rw [bestR_snoc, if_neg, h0]
  rintro ⟨-, h⟩
  have := h x h0
  rw [key_len, key_len] at this
  exact hl this
end Go.Proofs.YtknlojlcahgnoaaGreat
