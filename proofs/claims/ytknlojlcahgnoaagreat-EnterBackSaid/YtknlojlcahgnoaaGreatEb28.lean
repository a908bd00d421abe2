/- Walks: (*node).way: the nodes that a key leads along. Walks: (*Tree).Find. -/
import Derived.Sort.CutIn
import Derived.Test.YtknlojlcahgnoaaGreatEb26

namespace Go.Proofs.YtknlojlcahgnoaaGreat
open Go.RowKit
attribute [local go_sem] Oper.semAt_some
set_option linter.unusedVariables false
set_option linter.unusedSimpArgs false

/-- what lay in w0 lies as it lay -/
def Sees (w0 W : World) : Prop := ∀ b, b < w0.heap.size → W.heap[b]? = w0.heap[b]?
theorem Ext.sees {x y : World} (h : Ext x y) : Sees x y := fun b hb => Ext.block h hb
theorem Sees.blk {w0 W : World} (h : Sees w0 W) {g : Nat} {C : Array Value} {t : TypeId} (k : Blk w0 g C t) : Blk W g C t := (h g k.lt).trans k
theorem Sees.kmap {w0 W : World} (h : Sees w0 W) {g n : Nat} {l : Kids} (k : KMap w0 g l n) : KMap W g l n := (h g k.lt).trans k
theorem Sees.kept {w0 X Y : World} (h : Sees w0 X) {n₀ g : Nat} (k : KeptBut n₀ g X Y) (h1 : w0.heap.size ≤ n₀) (h2 : w0.heap.size ≤ g) : Sees w0 Y := fun b hb => (k b (by omega) (by omega)).trans (h b hb)
theorem Sees.set {w0 W : World} (h : Sees w0 W) {g : Nat} (hg : w0.heap.size ≤ g) (o : Nat) (v : Value) : Sees w0 (W.setCell ⟨g, o, none⟩ v) := fun b hb => (Below.heap_setCell _ _ _ _ (by show b ≠ g; omega)).trans (h b hb)
theorem Sees.drew {w0 W : World} (h : Sees w0 W) : Sees w0 W.drew := h
theorem TreeAt.sees {w w' : World} {lo root : Nat} {many : Int} {ns : NSet} (h : TreeAt w lo root many ns) (e : Sees w w') : TreeAt w' lo root many ns :=
  ⟨h.trie, fun x hx => e.blk (h.cells x hx), fun x hx => e.kmap (h.maps x hx), fun x hx r hr => e.blk (h.rules x hx r hr), h.low, h.len⟩

def encN (x : Nd) : Array Value := #[.pointer (some ⟨x.a, 0, none⟩)]
/-- what holds at the head of way's loop -/
def WayAt (ns : NSet) (w0 : World) (bn bk : Nat) (K : List UInt8) (xs : List Nd) (J : List Nd → World → Prop) (W : World) : Prop :=
  Sees w0 W ∧ ((∃ (x : Nd) (ks : ByteArray) (pre ys : List Nd), x ∈ ns ∧ Blk W bn #[.pointer (some ⟨x.a, 0, none⟩)] 211 ∧ Blk W bk #[.string ks] 9 ∧ ks.data.toList = K.drop x.plen ∧ x.plen ≤ K.length ∧ K.take x.plen = x.path.take x.plen ∧
    Way ns K x ys ∧ xs = pre ++ ys ∧ J pre W) ∨ (Blk W bn #[.pointer none] 211 ∧ (∃ v, Blk W bk #[v] 9) ∧ J xs W))
def wayMu (root bn bk : Nat) (W : World) : Nat :=
  (match W.cell? ⟨bk, 0, none⟩ with | some (.string s) => 2 * s.size + 1 | _ => 0) + (match W.cell? ⟨bn, 0, none⟩ with | some (.pointer (some a)) => (if a.block = root then 1 else 0) + 1 | _ => 0)

theorem pre_drop {p K : List UInt8} {i : Nat} (h1 : i ≤ p.length) (h2 : i ≤ K.length) (h : K.take i = p.take i) : p.drop i <+: K.drop i ↔ p <+: K := by
  conv => rhs; rw [← List.take_append_drop i p, ← List.take_append_drop i K, h]
  exact List.prefix_append_right_inj _ |>.symm
theorem part_size (x : Nd) : x.part.size = x.path.length - x.plen := by rw [← data_len, part_list, List.length_drop]
theorem hasB_part {x : Nd} {K : List UInt8} {ks : ByteArray} (hpl : x.plen ≤ x.path.length) (h1 : x.plen ≤ K.length) (h2 : K.take x.plen = x.path.take x.plen) (hk : ks.data.toList = K.drop x.plen) : hasB ks x.part = decide (x.path <+: K) := by
  unfold hasB
  rw [part_list, hk, decide_eq_decide]
  exact pre_drop hpl h1 h2
theorem Trie.plen_le {root : Nat} {ns : NSet} (h : Trie root ns) {x : Nd} (hx : x ∈ ns) : x.plen ≤ x.path.length := by
  by_cases e : x.path = []
  · have := (h.rt hx (h.top x hx e)).2
    omega
  · exact Nat.le_of_lt (h.nz x hx e)
theorem Way.starts {ns : NSet} {K : List UInt8} {x : Nd} {ys : List Nd} (h : Way ns K x ys) (hp : x.path <+: K) : ∃ rest, ys = x :: rest ∧ ((rest = [] ∧ ∀ c, K[x.path.length]? = some c → ∀ k ∈ x.kids, k.1 ≠ c) ∨ ∃ m c j, K[x.path.length]? = some c ∧ (c, m.a, j) ∈ x.kids ∧ m ∈ ns ∧ Way ns K m rest) := by
  cases h with
  | no _ hn => exact absurd hp hn
  | stop _ _ hc => exact ⟨[], rfl, Or.inl ⟨rfl, hc⟩⟩
  | on _ m c j xs _ hc hk hm hw => exact ⟨xs, rfl, Or.inr ⟨m, c, j, hc, hk, hm, hw⟩⟩
theorem Way.nothing {ns : NSet} {K : List UInt8} {x : Nd} {ys : List Nd} (h : Way ns K x ys) (hp : ¬ x.path <+: K) : ys = [] := by
  cases h with
  | no _ hn => rfl
  | stop _ h _ => exact absurd h hp
  | on _ m c j xs h _ _ _ _ => exact absurd h hp

/-- behind a round at a node -/
def WayMid (ns : NSet) (w0 : World) (bn bk : Nat) (x : Nd) (ks : ByteArray) (pre : List Nd) (J : List Nd → World → Prop) (W : World) : Prop :=
  Sees w0 W ∧ Blk W bn #[.pointer (some ⟨x.a, 0, none⟩)] 211 ∧ Blk W bk #[.string ks] 9 ∧ J (pre ++ [x]) W
/-- .. the key cut -/
def WayBeh (ns : NSet) (w0 : World) (bn bk : Nat) (x : Nd) (K : List UInt8) (pre : List Nd) (J : List Nd → World → Prop) (W : World) : Prop :=
  Sees w0 W ∧ Blk W bn #[.pointer (some ⟨x.a, 0, none⟩)] 211 ∧ J (pre ++ [x]) W ∧ ∃ ks : ByteArray, Blk W bk #[.string ks] 9 ∧ ks.data.toList = K.drop x.path.length

theorem cut_str {K : List UInt8} {ks : ByteArray} {p q : Nat} (h : ks.data.toList = K.drop p) (h1 : p ≤ q) (h2 : q ≤ K.length) : (ks.extract (q - p) (K.length - p)).data.toList = K.drop q := by
  rw [Lib.extract_data, h, List.drop_drop, List.take_of_length_le (by rw [List.length_drop]; omega)]
  congr 1
  omega

theorem way_dec {root bn bk : Nat} {ns : NSet} {W W' : World} {x : Nd} {K : List UInt8} {ks ks' : ByteArray} {vn : Value} (hT : Trie root ns) (hx : x ∈ ns) (b1 : Blk W bn #[.pointer (some ⟨x.a, 0, none⟩)] 211) (b2 : Blk W bk #[.string ks] 9)
    (hk : ks.data.toList = K.drop x.plen) (hle : x.path.length ≤ K.length) (b3 : Blk W' bn #[vn] 211) (b4 : Blk W' bk #[.string ks'] 9) (hk' : ks'.data.toList = K.drop x.path.length)
    (hv : vn = .pointer none ∨ ∃ m, vn = .pointer (some ⟨m, 0, none⟩) ∧ m ≠ root) : wayMu root bn bk W' < wayMu root bn bk W := by
  have e1 : W.cell? ⟨bn, 0, none⟩ = some (.pointer (some ⟨x.a, 0, none⟩)) := b1.cell 0
  have e2 : W.cell? ⟨bk, 0, none⟩ = some (.string ks) := b2.cell 0
  have e3 : W'.cell? ⟨bn, 0, none⟩ = some vn := b3.cell 0
  have e4 : W'.cell? ⟨bk, 0, none⟩ = some (.string ks') := b4.cell 0
  have s1 : ks.size = K.length - x.plen := by rw [← data_len, hk, List.length_drop]
  have s2 : ks'.size = K.length - x.path.length := by rw [← data_len, hk', List.length_drop]
  have hxp := hT.plen_le hx
  unfold wayMu
  rw [e1, e2, e3, e4]
  by_cases hr : x.a = root
  · obtain ⟨p1, p2⟩ := hT.rt hx hr
    rw [p1] at s2
    simp only [List.length_nil] at s2
    rw [p2] at s1
    rcases hv with rfl | ⟨m, rfl, hm⟩
    · simp only [hr, if_true]; omega
    · simp only [hr, hm, if_true, if_false]; omega
  · have hne : x.path ≠ [] := fun e => hr (hT.top x hx e)
    have := hT.nz x hx hne
    rcases hv with rfl | ⟨m, rfl, hm⟩
    · simp only [hr, if_false]; omega
    · simp only [hr, hm, if_false]; omega
theorem Trie.kid_ne {root : Nat} {ns : NSet} (h : Trie root ns) {x m : Nd} (hx : x ∈ ns) (hm : m ∈ ns) {c : UInt8} {j : Nat} (hk : (c, m.a, j) ∈ x.kids) : m.a ≠ root ∧ m.plen = x.path.length ∧ x.path <+: m.path := by
  obtain ⟨m', hm', f1, f2, f3, f4⟩ := h.kid x hx _ hk
  obtain rfl := h.inj m' hm' m hm f1
  refine ⟨fun e => ?_, f2, f3⟩
  have := (h.rt hm e).1
  rw [this] at f4
  simp at f4
theorem pre_take {p q : List UInt8} (h : p <+: q) : q.take p.length = p := by
  rw [List.prefix_iff_eq_take] at h
  exact h.symm
theorem take_both {p q K : List UInt8} (h1 : p <+: K) (h2 : p <+: q) : K.take p.length = q.take p.length := by
  rw [pre_take h1, pre_take h2]
theorem node_zero (w : World) : (zeroValue 211).run Tryz.prog w = .ok (.pointer none) w := by kernel_rfl

set_option maxHeartbeats 2000000 in
set_option maxRecDepth 100000 in
theorem way_1 (n L bn bk n₀ g lo root : Nat) (many : Int) (ns : NSet) (K : List UInt8) (hK : K.length ≤ maxLen) (xs : List Nd) (J : List Nd → World → Prop) (w0 W : World) (hT : TreeAt w0 lo root many ns)
    (hY : ∀ pre x W1, J pre W1 → (∃ rest, xs = pre ++ x :: rest) → YieldAt Fence.wide (n - 1) Tryz.prog L (encN x) W1 fun e W' => e = .returned (.bool true) ∧ J (pre ++ [x]) W' ∧ KeptBut n₀ g W1 W')
    (hJ : AbidesR (fun r => r = bn ∨ r = bk) W.heap.size J) (l1 : w0.heap.size ≤ bn) (l2 : w0.heap.size ≤ bk) (l3 : bn < n₀) (l4 : bk < n₀) (l5 : w0.heap.size ≤ g) (g1 : bn ≠ g) (g2 : bk ≠ g) (gk : bn ≠ bk) (h0 : WayAt ns w0 bn bk K xs J W) :
    CallsIn Fence.wide n Tryz.prog 170 #[.func (.yield L) #[] #[], .pointer (some ⟨bn, 0, none⟩), .pointer (some ⟨bk, 0, none⟩)] W fun e W' => (∃ v, e = .returned v) ∧ J xs W' := by
  refine callsIn_of_wp Tryz.func170 rfl trivial ?_ rfl
  simp only [Tryz.ntmps170, List.size_toArray, List.length_cons, List.length_nil, Nat.reduceAdd, Nat.reduceSub, Array.replicate_succ, Array.replicate_zero, List.push_toArray, List.append_toArray, List.nil_append, List.cons_append]
  have HT := Lib.hid hT
  have HYY := Lib.hid hY
  have HJ := Lib.hid hJ
  clear hT hY hJ
  gi_wp2
  gi_loopw [] (fun wr => WayAt ns w0 bn bk K xs J wr) (fun wr => wayMu root bn bk wr)
  case atStart => exact h0
  case round =>
    obtain ⟨hs, (⟨x, ks, pre, ys, hx, bN, bK, hks, hpl, htk, hw, rfl, hj⟩ | ⟨bN, ⟨v, bK⟩, hj⟩)⟩ := hrel
    · have cN := bN.cell 0
      have cK := bK.cell 0
      have hXc := Nd.cell0 (hs.blk (HT.out.cells x hx))
      obtain ⟨cP, -, cM⟩ := hXc
      have hksz : ks.size = K.length - x.plen := by rw [← data_len, hks, List.length_drop]
      have hpsz := part_size x
      have hPle := HT.out.len x hx
      have hxp := HT.out.trie.plen_le hx
      by_cases hp : x.path <+: K
      · have hHas := Lib.hid (hasB_part hxp hpl htk hks)
        have hlp := hp.length_le
        obtain ⟨rest, rfl, hrest⟩ := hw.starts hp
        have HR := Lib.hid hrest
        clear hrest hw
        have HY := Lib.hid (fun (w3 : World) (hx3 : Ext wr w3) => HYY.out pre x w3 (HJ.out _ wr w3 none hj (kext_grown hx3) (fun r e => by cases e)) ⟨rest, rfl⟩)
        have HS := Lib.hid hs
        have HBN := Lib.hid bN
        have HBK := Lib.hid bK
        have HKS := Lib.hid hks
        have HTK := Lib.hid htk
        obtain ⟨fn, tmps, assign, body, hy, hR⟩ := HY.out (wr.drew) ((Ext.refl _).drew)
        simp only [encN] at hy
        have hm1 : ks.size ≤ maxLen := by omega
        have hm2 : x.part.size ≤ maxLen := by omega
        clear hs bN bK hks htk hj
        gi_upto_region 0 with fail
        gi_cut [18] from 4 (fun s18 wx => s18 = .bool true ∧ WayMid ns w0 bn bk x ks pre J wx)
        case first =>
          gi_region_with (first
            | (refine ⟨trivial, fun h => absurd h (by decide), (callsIn_wide.2 (key_Has ks x.part _ hm1 hm2)).mono ?_⟩; rw [hHas.out, decide_eq_true hp]; rintro e w4 ⟨rfl, rfl⟩)
            | (refine ⟨fun h => absurd h (by decide), ?_⟩; refine hR.mono ?_; rintro e w4 ⟨rfl, hJ4, hk4⟩))
          all_goals
            gi_wp2_with fail
            gi_meet
            exact ⟨rfl, HS.out.drew.kept hk4 (by omega) l5, (hk4 bn l3 g1).trans HBN.out, (hk4 bk l4 g2).trans HBK.out, hJ4⟩
        case rest =>
        obtain ⟨rfl, hs4, bN4, bK4, hJ4⟩ := hcut
        have dN := bN4.cell 0
        have dK := bK4.cell 0
        have fK := bK4.free 0
        obtain ⟨dP, -, dM⟩ := Nd.cell0 (hs4.blk (HT.out.cells x hx))
        have HJ4 := Lib.hid hJ4
        have HS4 := Lib.hid hs4
        have HBN4 := Lib.hid bN4
        have HBK4 := Lib.hid bK4
        clear hs4 bN4 bK4 hJ4
        have hb1 : (0 : Int) ≤ (x.part.size : Int) := by omega
        have hb2 : (x.part.size : Int) ≤ (ks.size : Int) := by omega
        gi_upto_region 1 with fail
        gi_cut [0] from 4 (fun s0 wx => s0 = .func (.yield L) #[] #[] ∧ WayBeh ns w0 bn bk x K pre J wx)
        case first =>
          gi_region
          all_goals
            gi_wp2_with fail
            gi_meet
            exact ⟨rfl, (HS4.out.set l2 0 _).drew, HBN4.out.other gk _, HJ.out _ _ _ none (HJ.out _ _ _ (some bk) HJ4.out (grownBy_setCell' _ _ _) (fun r e => by cases e; exact Or.inl (Or.inr rfl))) (kext_grown (Ext.refl _).drew) (fun r e => by cases e), _, HBK4.out.set 0 _, cut_str HKS.out hxp hlp⟩
        case rest =>
        obtain ⟨rfl, hs5, bN5, hJ5, ks', bK5, hks'⟩ := hcut
        have dN5 := bN5.cell 0
        have dK5 := bK5.cell 0
        have fN5 := bN5.free 0
        obtain ⟨dP5, -, dM5⟩ := Nd.cell0 (hs5.blk (HT.out.cells x hx))
        have hsz' : ks'.size = K.length - x.path.length := by rw [← data_len, hks', List.length_drop]
        have HSZ := Lib.hid hsz'
        have HS5 := Lib.hid hs5
        have HBN5 := Lib.hid bN5
        have HBK5 := Lib.hid bK5
        have HJ5 := Lib.hid hJ5
        have HKS' := Lib.hid hks'
        clear hs5 bN5 bK5 hJ5 hks' dN dK fK dP dM hy hR HJ4 HS4 HBN4 HBK4 hb1 hb2 cN cK cP cM hksz hpsz hHas HS HY
        by_cases hend : K.length = x.path.length
        · have he : ks'.toList.isEmpty = true := by rw [ByteArray.toList_eq, List.isEmpty_iff, ← List.length_eq_zero_iff, data_len]; omega
          have he2 : ks'.toList = [] := by simpa using he
          clear hsz'
          have hr0 : rest = [] := by
            rcases HR.out with ⟨h, -⟩ | ⟨m, c, j, hc, -⟩
            · exact h
            · rw [List.getElem?_eq_none (by omega)] at hc; cases hc
          subst hr0
          gi_wp2
          refine bodyPost_ret (results_none rfl _ _ _) rfl ?_
          exact ⟨⟨_, rfl⟩, HJ5.out⟩
        · have hz : (0 : Int) < (ks'.size : Int) := by omega
          have hz2 : 0 < ks'.size := by omega
          have he : ks'.toList.isEmpty = false := by rw [Bool.eq_false_iff]; intro q; rw [ByteArray.toList_eq, List.isEmpty_iff, ← List.length_eq_zero_iff, data_len] at q; omega
          have hidx : K[x.path.length]? = some ks'[0] := by
            have e1 : (K.drop x.path.length)[0]? = some ks'[0] := by rw [← HKS'.out, List.getElem?_eq_getElem (by rw [data_len]; exact hz2), data_get ks' 0 hz2]
            rw [List.getElem?_drop, Nat.add_zero] at e1
            exact e1
          have HIX := Lib.hid hidx
          clear hsz' hidx
          rcases HR.out with ⟨rfl, hno⟩ | ⟨m, c, j, hc, hkid, hm, hwm⟩
          · have hL := run_klook_no (P := Tryz.prog) Tryz.underlying205 Tryz.underlying5 ((HS5.out.drew (W := wc)).kmap (HT.out.maps x hx)) (hno _ HIX.out) (node_zero _)
            clear hno
            gi_wp2_with fail
            gi_region
            all_goals
              gi_wp2
              go_roundw
              case rel => exact ⟨(HS5.out.set l1 0 _).drew, Or.inr ⟨HBN5.out.set 0 _, ⟨_, HBK5.out.other (Ne.symm gk) _⟩, HJ.out _ _ _ none (HJ.out _ _ _ (some bn) HJ5.out (grownBy_setCell' _ _ _) (fun r e => by cases e; exact Or.inl (Or.inl rfl))) (kext_grown (Ext.refl _).drew) (fun r e => by cases e)⟩⟩
              case measure => exact way_dec HT.out.trie hx HBN.out HBK.out HKS.out hlp (HBN5.out.set 0 _) (HBK5.out.other (Ne.symm gk) _) HKS'.out (Or.inl rfl)
          · obtain rfl : c = ks'[0] := by have := HIX.out; rw [hc] at this; exact Option.some.inj this
            have hL := run_klook_yes (P := Tryz.prog) Tryz.underlying205 Tryz.underlying5 ((HS5.out.drew (W := wc)).kmap (HT.out.maps x hx)) (HT.out.trie.keys x hx) hkid
            have HC := Lib.hid hc
            have HWM := Lib.hid hwm
            clear hc hwm
            gi_wp2_with fail
            gi_region
            all_goals
              gi_wp2
              go_roundw
              case rel =>
                obtain ⟨q1, q2, q3⟩ := HT.out.trie.kid_ne hx hm hkid
                exact ⟨(HS5.out.set l1 0 _).drew, Or.inl ⟨m, ks', pre ++ [x], rest, hm, HBN5.out.set 0 _, HBK5.out.other (Ne.symm gk) _, by rw [q2]; exact HKS'.out, by omega, by rw [q2]; exact take_both hp q3, HWM.out, by simp, HJ.out _ _ _ none (HJ.out _ _ _ (some bn) HJ5.out (grownBy_setCell' _ _ _) (fun r e => by cases e; exact Or.inl (Or.inl rfl))) (kext_grown (Ext.refl _).drew) (fun r e => by cases e)⟩⟩
              case measure => exact way_dec HT.out.trie hx HBN.out HBK.out HKS.out hlp (HBN5.out.set 0 _) (HBK5.out.other (Ne.symm gk) _) HKS'.out (Or.inr ⟨m.a, rfl, (HT.out.trie.kid_ne hx hm hkid).1⟩)
      · have hHas := Lib.hid (hasB_part hxp hpl htk hks)
        have hys := hw.nothing hp
        subst hys
        have HJ1 := Lib.hid hj
        have hm1 : ks.size ≤ maxLen := by omega
        have hm2 : x.part.size ≤ maxLen := by omega
        have HQ := Lib.hid (fun (W : World) => (key_Has ks x.part W hm1 hm2).mono (R' := fun e w' => e = .returned (.bool false) ∧ w' = W) (fun e w' h => ⟨by rw [h.1, hHas.out, decide_eq_false hp], h.2.symm⟩))
        clear hs bN bK hks htk hj hw
        gi_upto_region 0 with fail
        refine wpIn_wide.2 ?_
        go_quiet ((go_at_call 171; exact Calls.quiet_of_same (HQ.out _)))
        all_goals
          gi_wp2
          go_end0
          exact ⟨⟨_, rfl⟩, by have := HJ1.out; rw [List.append_nil]; exact HJ.out _ _ _ none this (kext_grown (Ext.drewNs _ _)) (fun r e => by cases e)⟩
    · have cN := bN.cell 0
      have HJ1 := Lib.hid hj
      clear bK bN hj hs
      gi_upto_region 0 with fail
      refine wpIn_wide.2 ?_
      go_quiet (fail)
      all_goals
        gi_wp2
        go_end0
        exact ⟨⟨_, rfl⟩, HJ.out _ _ _ none HJ1.out (kext_grown (Ext.drewNs _ _)) (fun r e => by cases e)⟩
end Go.Proofs.YtknlojlcahgnoaaGreat

namespace Go.Proofs.YtknlojlcahgnoaaGreat
open Go.RowKit
attribute [local go_sem] Oper.semAt_some
set_option linter.unusedVariables false
set_option linter.unusedSimpArgs false

set_option maxHeartbeats 400000 in
set_option maxRecDepth 100000 in
theorem node_way (n : Nat) (k : ByteArray) (w : World) : Calls Tryz.prog 125 #[.pointer (some ⟨n, 0, none⟩), .string k] w fun x w' =>
    x = .returned (.func (.func 170) #[] #[.pointer (some ⟨w.heap.size, 0, none⟩), .pointer (some ⟨w.heap.size + 1, 0, none⟩)]) ∧ w' = (w.alloc (.cells #[.pointer (some ⟨n, 0, none⟩)] 211)).alloc (.cells #[.string k] 9) := by
  go_enter Tryz.func125, Tryz.ntmps125
  go_wp2
  go_ret
  exact ⟨rfl, rfl⟩

def rl0 : Rl := ⟨⟨#[]⟩, 0, 0, 0⟩
/-- what Find tells -/
def findV (o : Option Rl) : Value := match o with
  | some r => .tuple #[.agg r.cells, .bool true]
  | none => .tuple #[.agg rl0.cells, .bool false]
def ruleP (o : Option (Nat × Rl)) : Value := match o with
  | some r => .pointer (some ⟨r.1, 0, none⟩)
  | none => .pointer none
theorem lastR_p (xs : List Nd) (x : Nd) : ruleP (lastR (xs ++ [x])) = match x.rule with | some r => x.rp | none => ruleP (lastR xs) := by
  rw [lastR_snoc]
  unfold Nd.rp
  cases x.rule <;> rfl

theorem kblk_row {b : Nat} {C : Array Value} {ty : TypeId} {X Y : World} {row : Option Nat} (h : Blk X b C ty) (hg : X.grownBy Y row) (hr : ∀ r, row = some r → b ≠ r) : Blk Y b C ty :=
  (hg.block b h.lt (fun e => hr b e.symm rfl)).trans h
theorem res_cell_tmp {P : Program} {fn : Func} {tmps : Array Value} {w : World} {p q : Tmp} {ty t : TypeId} {g : Nat} {C : Array Value} {d : TypeDesc} {v : Value} (h : fn.results = #[.cell p ty, .tmp q])
    (hp : tmps.getD p undef = .pointer (some ⟨g, 0, none⟩)) (hq : tmps.getD q undef = v) (hB : Blk w g C t) (hu : P.underlying ty = some d) (hd : aggKind d = true) (hi : (P.info? ty).map (·.size) = some C.size) :
    (results fn tmps).run P w = .ok (.tuple #[.agg C, v]) w := by
  have hp' : tmps[p]?.getD undef = .pointer (some ⟨g, 0, none⟩) := by simpa using hp
  have hq' : tmps[q]?.getD undef = v := by simpa using hq
  simp [results, h, hp', hq', asAddr, run_loadVar_blk hB hu hd hi]
theorem four_set {w W : World} {S D : Nat} {C : Array Value} {t : TypeId} (hB : Blk W S C t) (hC : C.size = 4) (hS : w.heap.size ≤ S) (hx : Ext w W) (hne : S ≠ D) (hD : w.heap.size ≤ D) (hd : W.heap[D]? = some (.deferred (some []))) (a b c d : Value) :
    ((((W.setCell ⟨S, 0, none⟩ a).setCell ⟨S, 1, none⟩ b).setCell ⟨S, 2, none⟩ c).setCell ⟨S, 3, none⟩ d).heap[D]? = some (.deferred (some [])) ∧
    Blk (((((W.setCell ⟨S, 0, none⟩ a).setCell ⟨S, 1, none⟩ b).setCell ⟨S, 2, none⟩ c).setCell ⟨S, 3, none⟩ d).putObj D (.deferred none)) S #[a, b, c, d] t ∧
    Ext w (((((W.setCell ⟨S, 0, none⟩ a).setCell ⟨S, 1, none⟩ b).setCell ⟨S, 2, none⟩ c).setCell ⟨S, 3, none⟩ d).putObj D (.deferred none)) := by
  have hds : D ≠ S := fun e => hne e.symm
  have hg := grownBy_putObj' ((((W.setCell ⟨S, 0, none⟩ a).setCell ⟨S, 1, none⟩ b).setCell ⟨S, 2, none⟩ c).setCell ⟨S, 3, none⟩ d) D (.deferred none)
  refine ⟨?_, ?_, ?_⟩
  · rw [Below.heap_setCell _ _ _ _ hds, Below.heap_setCell _ _ _ _ hds, Below.heap_setCell _ _ _ _ hds, Below.heap_setCell _ _ _ _ hds]
    exact hd
  · refine kblk_row ?_ hg (fun r e => by cases e; exact hne)
    have := (((hB.set 0 a).set 1 b).set 2 c).set 3 d
    have e : (((C.setIfInBounds 0 a).setIfInBounds 1 b).setIfInBounds 2 c).setIfInBounds 3 d = #[a, b, c, d] := by
      obtain ⟨l⟩ := C
      match l, hC with
      | [x, y, z, u], _ => simp
    rw [e] at this
    exact this
  · exact kext_from ((((hx.setCell hS _).setCell hS _).setCell hS _).setCell hS _) hg (fun r e => by cases e; exact hD)
/-- the rounds: last holds the last rule -/
def FindI (w : World) (g : Nat) (pre : List Nd) (W : World) : Prop := Blk W g #[ruleP (lastR pre)] 206 ∧ Blk W w.heap.size rl0.cells 37 ∧ Ext w W

theorem way_seq (n lo root bn bk n₀ g : Nat) (many : Int) (ns : NSet) (k : ByteArray) (hk : k.size ≤ maxLen) (x : Nd) (xs : List Nd) (w0 w : World) (hT : TreeAt w0 lo root many ns) (hx : x ∈ ns) (hxp : x.plen = 0) (hw : Way ns k.data.toList x xs) (h0 : Sees w0 w)
    (b1 : Blk w bn #[.pointer (some ⟨x.a, 0, none⟩)] 211) (b2 : Blk w bk #[.string k] 9) (l1 : w0.heap.size ≤ bn) (l2 : w0.heap.size ≤ bk) (l3 : bn < n₀) (l4 : bk < n₀) (l5 : w0.heap.size ≤ g) (g1 : bn ≠ g) (g2 : bk ≠ g) (gk : bn ≠ bk) :
    SeqR Fence.wide n Tryz.prog 170 #[.pointer (some ⟨bn, 0, none⟩), .pointer (some ⟨bk, 0, none⟩)] encN (KeptBut n₀ g) (fun r => r = bn ∨ r = bk) xs w :=
  fun l J W hW hJ hY hj => way_1 n l bn bk n₀ g lo root many ns k.data.toList (by rw [data_len]; exact hk) xs J w0 W hT hY hJ l1 l2 l3 l4 l5 g1 g2 gk
    ⟨fun b hb => by
      have hbw : b < w.heap.size := by have := b1.lt; omega
      exact (Ext.block hW hbw).trans (h0 b hb), Or.inl ⟨x, k, [], xs, hx, b1.ext hW, b2.ext hW, by rw [hxp, List.drop_zero], by omega, by rw [hxp]; simp, hw, rfl, hj⟩⟩

set_option maxHeartbeats 2000000 in
set_option maxRecDepth 100000 in
theorem tree_Find (lo root : Nat) (many : Int) (ns : NSet) (rs : List Rl) (k : ByteArray) (w : World) (hT : TreeAt w lo root many ns) (hh : HoldsR ns rs) (hk : k.size ≤ maxLen) :
    Calls Tryz.prog 67 #[.pointer (some ⟨root, 0, none⟩), .string k] w fun x w' => x = .returned (findV (bestR rs k.data.toList)) ∧ Ext w w' := by
  obtain ⟨r, hr, hra, hrp, hrl⟩ := hT.trie.root
  obtain ⟨xs, hw⟩ := way_exists hT.trie k.data.toList k.data.toList.length r hr (by omega)
  have hbest := Lib.hid (way_best hT.trie hh hr hrp hw)
  have hall := Lib.hid ((way_all hT.trie hw hr).1)
  have HT := Lib.hid hT
  have HW := Lib.hid hw
  have HK := Lib.hid hk
  have HRL := Lib.hid hrl
  subst hra
  refine (callsIn_wide (n := 9)).1 ?_
  refine callsIn_of_wp_marks Tryz.func67 rfl trivial ?_ rfl
  simp only [Tryz.ntmps67, List.size_toArray, List.length_cons, List.length_nil, Nat.reduceAdd, Nat.reduceSub, Array.replicate_succ, Array.replicate_zero, List.push_toArray, List.append_toArray, List.nil_append, List.cons_append]
  clear hT hw hh hrp hrl
  gi_wp2_with fail
  refine ⟨trivial, (callsIn_wide.2 (node_way r.a k _)).mono ?_⟩
  rintro x w1 ⟨rfl, rfl⟩
  gi_wp2_with fail
  have bS : Blk ((((w.alloc (.cells rl0.cells 37)).alloc (.cells #[.pointer none] 206)).alloc (.cells #[.pointer (some ⟨r.a, 0, none⟩)] 211)).alloc (.cells #[.string k] 9)) w.heap.size rl0.cells 37 := (((Blk.new w _ _).alloc _).alloc _).alloc _
  have bL : Blk ((((w.alloc (.cells rl0.cells 37)).alloc (.cells #[.pointer none] 206)).alloc (.cells #[.pointer (some ⟨r.a, 0, none⟩)] 211)).alloc (.cells #[.string k] 9)) (w.heap.size + 1) #[.pointer none] 206 := ((Blk.new' _ _ _ (by simp)).alloc _).alloc _
  have bN : Blk ((((w.alloc (.cells rl0.cells 37)).alloc (.cells #[.pointer none] 206)).alloc (.cells #[.pointer (some ⟨r.a, 0, none⟩)] 211)).alloc (.cells #[.string k] 9)) (w.heap.size + 1 + 1) #[.pointer (some ⟨r.a, 0, none⟩)] 211 := (Blk.new' _ _ _ (by simp)).alloc _
  have bK : Blk ((((w.alloc (.cells rl0.cells 37)).alloc (.cells #[.pointer none] 206)).alloc (.cells #[.pointer (some ⟨r.a, 0, none⟩)] 211)).alloc (.cells #[.string k] 9)) (w.heap.size + 1 + 1 + 1) #[.string k] 9 := Blk.new' _ _ _ (by simp)
  have hx1 : Ext w ((((w.alloc (.cells rl0.cells 37)).alloc (.cells #[.pointer none] 206)).alloc (.cells #[.pointer (some ⟨r.a, 0, none⟩)] 211)).alloc (.cells #[.string k] 9)) := ((((Ext.refl w).alloc _).alloc _).alloc _).alloc _
  have hl := bK.lt
  simp only [rl0, Rl.cells] at bS bL bN bK hx1 hl
  generalize (((w.alloc (.cells #[.string ⟨#[]⟩, .int .u64 0, .int .u64 0, .int .u8 0] 37)).alloc (.cells #[.pointer none] 206)).alloc (.cells #[.pointer (some ⟨r.a, 0, none⟩)] 211)).alloc (.cells #[.string k] 9) = w1 at *
  refine wpIn_range_R rfl (by omega) (gf := 170) (lb := #[.pointer (some ⟨w.heap.size + 1 + 1, 0, none⟩), .pointer (some ⟨w.heap.size + 1 + 1 + 1, 0, none⟩)]) rfl trivial (enters_of Tryz.func170 (by kernel_rfl) rfl)
    (way_seq (9 - 1) lo r.a (w.heap.size + 1 + 1) (w.heap.size + 1 + 1 + 1) w1.heap.size (w.heap.size + 1) many ns k HK.out r xs w w1 HT.out hr HRL.out HW.out hx1.sees bN bK (by omega) (by omega) (by omega) (by omega) (by omega) (by omega) (by omega) (by omega)) (Ext.refl _)
    (fun r hr => by rcases hr with rfl | rfl <;> omega) (fun h k => h.trans k) (fun W l o hl => KeptBut.put W o hl) (fun _ => rfl)
    (FindI w (w.heap.size + 1))
    (fun pre X Y row h hg hrow => ⟨kblk_row h.1 hg (fun r e => by have := hrow r e; omega), kblk_row h.2.1 hg (fun r e => by have := hrow r e; omega), kext_from h.2.2 hg (fun r e => by have := hrow r e; omega)⟩)
    ⟨bL, bS, hx1⟩
    (fun x => { tmps := #[.pointer (some ⟨r.a, 0, none⟩), .string k, undef, undef, .pointer (some ⟨w.heap.size, 0, none⟩), .bool false, .pointer (some ⟨w.heap.size + 1, 0, none⟩), .pointer (some ⟨x.a, 0, none⟩), .pointer (some ⟨r.a, 0, none⟩), .bool true, .pointer (some ⟨r.a, 0, none⟩), .pointer (some ⟨r.a, 0, none⟩), .pointer (some ⟨r.a, 0, none⟩), .string k, .func (.func 170) #[] #[.pointer (some ⟨w.heap.size + 1 + 1, 0, none⟩), .pointer (some ⟨w.heap.size + 1 + 1 + 1, 0, none⟩)], .pointer (some ⟨x.a, 0, none⟩), undef, undef, undef, undef, undef, undef, undef, undef, undef, undef, undef, undef, undef, undef, undef], defers := [] }) ?assign ?body ?done
  case assign =>
    intro L x W K hK
    simp only [encN]
    gi_wp2
    exact hK
  case body =>
    rintro L pre x W ⟨bL2, bS2, hxw⟩ ⟨rest, hrest⟩
    have hxn : x ∈ ns := (hall.out x (by rw [hrest]; simp)).1
    obtain ⟨-, d1, -⟩ := Nd.cell0 ((HT.out.ext hxw).cells x hxn)
    have HLP := Lib.hid (lastR_p pre x)
    have fL := bL2.free 0
    have cL : W.cell? ⟨w.heap.size + 1, 0, none⟩ = some (ruleP (lastR pre)) := bL2.cell 0
    have hxR := Lib.hid hxw
    have HS2 := Lib.hid bS2
    have HL2 := Lib.hid bL2
    clear hrest hxw bS2 bL2
    cases hxr : x.rule with
    | none =>
      have e1 : x.rp = .pointer none := by simp [Nd.rp, hxr]
      have e2 : ruleP (lastR (pre ++ [x])) = ruleP (lastR pre) := by rw [HLP.out, hxr]
      rw [e1] at d1
      clear e1 hxr
      have E2 := Lib.hid e2
      clear e2
      gi_wp2
      exact ⟨KeepsFrom.refl _ _, KeptBut.refl _ _ _, by rw [E2.out]; exact HL2.out, HS2.out, hxR.out⟩
    | some q =>
      have e1 : x.rp = .pointer (some ⟨q.1, 0, none⟩) := by simp [Nd.rp, hxr]
      have e2 : ruleP (lastR (pre ++ [x])) = .pointer (some ⟨q.1, 0, none⟩) := by rw [HLP.out, hxr]; exact e1
      rw [e1] at d1
      clear e1 hxr
      have E2 := Lib.hid e2
      clear e2
      gi_wp2
      exact ⟨(KeepsOthers.setCell _ _ _).from _, (KeptBut.refl _ _ _).setCell _ _, by rw [E2.out]; exact HL2.out.set 0 _, HS2.out.other (by show w.heap.size ≠ w.heap.size + 1; omega) _, hxR.out.setCell (Nat.le_succ _) _⟩
  case done =>
    rintro D W hD ⟨bL2, bS2, hxw⟩ hDf
    have cL : W.cell? ⟨w.heap.size + 1, 0, none⟩ = some (ruleP (lastR xs)) := bL2.cell 0
    have hc := bS2.cell
    have hf := bS2.free
    have hzl := bS2.lt
    have hS0 : w.heap.size ≠ D := by omega
    have HXW := Lib.hid hxw
    have HS2 := Lib.hid bS2
    have HDF := Lib.hid hDf
    clear bL2 hDf
    cases hq : lastR xs with
    | none =>
      have hv : findV (bestR rs k.data.toList) = .tuple #[.agg rl0.cells, .bool false] := by rw [hbest.out, hq]; rfl
      have HV := Lib.hid hv
      rw [hq] at cL
      simp only [ruleP] at cL
      simp only [rl0, Rl.cells] at hc
      clear hv hq hxw bS2
      gi_wp2
      obtain ⟨z1, z2, z3⟩ := four_set HS2.out rfl (Nat.le_refl _) HXW.out hS0 (by omega) HDF.out (.string ⟨#[]⟩) (.int .u64 0) (.int .u64 0) (.int .u8 0)
      refine ⟨by simp, .inl ⟨_, _, rfl, run_takeDeferred z1, ?_⟩⟩
      refine ⟨.tuple #[.agg rl0.cells, .bool false], ?_, by rw [HV.out], z3⟩
      exact res_cell_tmp Tryz.results67 rfl rfl z2 Tryz.underlying37 rfl (by kernel_rfl)
    | some q =>
      have hv : findV (bestR rs k.data.toList) = .tuple #[.agg q.2.cells, .bool true] := by rw [hbest.out, hq]; rfl
      have HV := Lib.hid hv
      have hqn : ∃ y ∈ ns, y.rule = some q := by
        obtain ⟨y, hy, e, -⟩ := (lastR_char xs (way_all HT.out.trie HW.out hr).2.2).2 q hq
        exact ⟨y, (hall.out y hy).1, e⟩
      obtain ⟨y, hy, hyr⟩ := hqn
      have bQ := (HT.out.rules y hy q hyr).ext hxw
      have hne : q.1 ≠ w.heap.size := by have := (HT.out.rules y hy q hyr).lt; omega
      rw [hq] at cL
      simp only [ruleP] at cL
      clear hv hq hxw bS2 hyr
      obtain ⟨qa, qp, qe, qb, qk⟩ := q
      simp only [Rl.cells] at bQ cL hne HV
      have dq0 : W.cell? ⟨qa, 0, none⟩ = some (.string qp) := bQ.cell 0
      have dq1 : W.cell? ⟨qa, 1, none⟩ = some (.int .u64 qe) := bQ.cell 1
      have dq2 : W.cell? ⟨qa, 2, none⟩ = some (.int .u64 qb) := bQ.cell 2
      have dq3 : W.cell? ⟨qa, 3, none⟩ = some (.int .u8 qk) := bQ.cell 3
      clear bQ
      simp only [rl0, Rl.cells] at hc
      gi_wp2
      obtain ⟨z1, z2, z3⟩ := four_set HS2.out rfl (Nat.le_refl _) HXW.out hS0 (by omega) HDF.out (.string qp) (.int .u64 qe) (.int .u64 qb) (.int .u8 qk)
      refine ⟨by simp, .inl ⟨_, _, rfl, run_takeDeferred z1, ?_⟩⟩
      refine ⟨.tuple #[.agg #[.string qp, .int .u64 qe, .int .u64 qb, .int .u8 qk], .bool true], ?_, by rw [HV.out], z3⟩
      exact res_cell_tmp Tryz.results67 rfl rfl z2 Tryz.underlying37 rfl (by kernel_rfl)
end Go.Proofs.YtknlojlcahgnoaaGreat
