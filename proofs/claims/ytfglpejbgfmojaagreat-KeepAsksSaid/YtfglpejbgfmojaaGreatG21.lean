/- Walks: (*node).way: the nodes that a key leads along. -/
import Derived.Sort.CutIn
import Derived.Test.YtfglpejbgfmojaaGreatG19

/- Walks: (*node).way: the nodes that a key leads along. -/
namespace Go.Proofs.YtfglpejbgfmojaaGreat
open Go.RowKit
attribute [local go_sem] Oper.semAt_some
set_option linter.unusedVariables false
set_option linter.unusedSimpArgs false

/-- what lay in w0 lies as it lay -/
def Sees (w0 W : World) : Prop := ∀ b, b < w0.heap.size → W.heap[b]? = w0.heap[b]?
theorem Ext.sees {x y : World} (h : Ext x y) : Sees x y := fun b hb => Ext.block h hb
theorem Sees.blk {w0 W : World} (h : Sees w0 W) {g : Nat} {C : Array Value} {t : TypeId} (k : Blk w0 g C t) : Blk W g C t := (h g k.lt).trans k
theorem Sees.kmap {w0 W : World} (h : Sees w0 W) {g n : Nat} {l : Kids} (k : KMap w0 g l n) : KMap W g l n := (h g k.lt).trans k
theorem Sees.kept {w0 X Y : World} (h : Sees w0 X) {n₀ g : Nat} (k : KeptBut n₀ g X Y) (h1 : w0.heap.size ≤ n₀) (h2 : w0.heap.size ≤ g) : Sees w0 Y := fun b hb => (k b (by omega) (by omega)).trans (h b hb)
theorem Sees.set {w0 W : World} (h : Sees w0 W) {g : Nat} (hg : w0.heap.size ≤ g) (o : Nat) (v : Value) : Sees w0 (W.setCell ⟨g, o, none⟩ v) := fun b hb => (Below.heap_setCell _ _ _ _ (by show b ≠ g; omega)).trans (h b hb)
theorem Sees.drew {w0 W : World} (h : Sees w0 W) : Sees w0 W.drew := h
theorem TreeAt.sees {w w' : World} {lo root : Nat} {many : Int} {ns : NSet} (h : TreeAt w lo root many ns) (e : Sees w w') : TreeAt w' lo root many ns :=
  ⟨h.trie, fun x hx => e.blk (h.cells x hx), fun x hx => e.kmap (h.maps x hx), fun x hx r hr => e.blk (h.rules x hx r hr), h.low, h.len⟩

def encN (x : Nd) : Array Value := #[.pointer (some ⟨x.a, 0, none⟩)]
/-- what holds at the head of way's loop -/
def WayAt (ns : NSet) (w0 : World) (bn bk : Nat) (K : List UInt8) (xs : List Nd) (J : List Nd → World → Prop) (W : World) : Prop :=
  Sees w0 W ∧ ((∃ (x : Nd) (ks : ByteArray) (pre ys : List Nd), x ∈ ns ∧ Blk W bn #[.pointer (some ⟨x.a, 0, none⟩)] 183 ∧ Blk W bk #[.string ks] 9 ∧ ks.data.toList = K.drop x.plen ∧ x.plen ≤ K.length ∧ K.take x.plen = x.path.take x.plen ∧
    Way ns K x ys ∧ xs = pre ++ ys ∧ J pre W) ∨ (Blk W bn #[.pointer none] 183 ∧ (∃ v, Blk W bk #[v] 9) ∧ J xs W))
def wayMu (root bn bk : Nat) (W : World) : Nat :=
  (match W.cell? ⟨bk, 0, none⟩ with | some (.string s) => 2 * s.size + 1 | _ => 0) + (match W.cell? ⟨bn, 0, none⟩ with | some (.pointer (some a)) => (if a.block = root then 1 else 0) + 1 | _ => 0)

theorem pre_drop {p K : List UInt8} {i : Nat} (h1 : i ≤ p.length) (h2 : i ≤ K.length) (h : K.take i = p.take i) : p.drop i <+: K.drop i ↔ p <+: K := by
  conv => rhs; rw [← List.take_append_drop i p, ← List.take_append_drop i K, h]
  exact List.prefix_append_right_inj _ |>.symm
theorem part_size (x : Nd) : x.part.size = x.path.length - x.plen := by rw [← data_len, part_list, List.length_drop]
theorem hasB_part {x : Nd} {K : List UInt8} {ks : ByteArray} (hpl : x.plen ≤ x.path.length) (h1 : x.plen ≤ K.length) (h2 : K.take x.plen = x.path.take x.plen) (hk : ks.data.toList = K.drop x.plen) : hasB ks x.part = decide (x.path <+: K) := by
  unfold hasB
  rw [part_list, hk, decide_eq_decide]
  exact pre_drop hpl h1 h2
theorem Trie.plen_le {root : Nat} {ns : NSet} (h : Trie root ns) {x : Nd} (hx : x ∈ ns) : x.plen ≤ x.path.length := by
  by_cases e : x.path = []
  · have := (h.rt hx (h.top x hx e)).2
    omega
  · exact Nat.le_of_lt (h.nz x hx e)
theorem Way.starts {ns : NSet} {K : List UInt8} {x : Nd} {ys : List Nd} (h : Way ns K x ys) (hp : x.path <+: K) : ∃ rest, ys = x :: rest ∧ ((rest = [] ∧ ∀ c, K[x.path.length]? = some c → ∀ k ∈ x.kids, k.1 ≠ c) ∨ ∃ m c j, K[x.path.length]? = some c ∧ (c, m.a, j) ∈ x.kids ∧ m ∈ ns ∧ Way ns K m rest) := by
  cases h with
  | no _ hn => exact absurd hp hn
  | stop _ _ hc => exact ⟨[], rfl, Or.inl ⟨rfl, hc⟩⟩
  | on _ m c j xs _ hc hk hm hw => exact ⟨xs, rfl, Or.inr ⟨m, c, j, hc, hk, hm, hw⟩⟩
theorem Way.nothing {ns : NSet} {K : List UInt8} {x : Nd} {ys : List Nd} (h : Way ns K x ys) (hp : ¬ x.path <+: K) : ys = [] := by
  cases h with
  | no _ hn => rfl
  | stop _ h _ => exact absurd h hp
  | on _ m c j xs h _ _ _ _ => exact absurd h hp

/-- behind a round at a node -/
def WayMid (ns : NSet) (w0 : World) (bn bk : Nat) (x : Nd) (ks : ByteArray) (pre : List Nd) (J : List Nd → World → Prop) (W : World) : Prop :=
  Sees w0 W ∧ Blk W bn #[.pointer (some ⟨x.a, 0, none⟩)] 183 ∧ Blk W bk #[.string ks] 9 ∧ J (pre ++ [x]) W
/-- .. the key cut -/
def WayBeh (ns : NSet) (w0 : World) (bn bk : Nat) (x : Nd) (K : List UInt8) (pre : List Nd) (J : List Nd → World → Prop) (W : World) : Prop :=
  Sees w0 W ∧ Blk W bn #[.pointer (some ⟨x.a, 0, none⟩)] 183 ∧ J (pre ++ [x]) W ∧ ∃ ks : ByteArray, Blk W bk #[.string ks] 9 ∧ ks.data.toList = K.drop x.path.length

theorem cut_str {K : List UInt8} {ks : ByteArray} {p q : Nat} (h : ks.data.toList = K.drop p) (h1 : p ≤ q) (h2 : q ≤ K.length) : (ks.extract (q - p) (K.length - p)).data.toList = K.drop q := by
  rw [Lib.extract_data, h, List.drop_drop, List.take_of_length_le (by rw [List.length_drop]; omega)]
  congr 1
  omega

theorem way_dec {root bn bk : Nat} {ns : NSet} {W W' : World} {x : Nd} {K : List UInt8} {ks ks' : ByteArray} {vn : Value} (hT : Trie root ns) (hx : x ∈ ns) (b1 : Blk W bn #[.pointer (some ⟨x.a, 0, none⟩)] 183) (b2 : Blk W bk #[.string ks] 9)
    (hk : ks.data.toList = K.drop x.plen) (hle : x.path.length ≤ K.length) (b3 : Blk W' bn #[vn] 183) (b4 : Blk W' bk #[.string ks'] 9) (hk' : ks'.data.toList = K.drop x.path.length)
    (hv : vn = .pointer none ∨ ∃ m, vn = .pointer (some ⟨m, 0, none⟩) ∧ m ≠ root) : wayMu root bn bk W' < wayMu root bn bk W := by
  have e1 : W.cell? ⟨bn, 0, none⟩ = some (.pointer (some ⟨x.a, 0, none⟩)) := b1.cell 0
  have e2 : W.cell? ⟨bk, 0, none⟩ = some (.string ks) := b2.cell 0
  have e3 : W'.cell? ⟨bn, 0, none⟩ = some vn := b3.cell 0
  have e4 : W'.cell? ⟨bk, 0, none⟩ = some (.string ks') := b4.cell 0
  have s1 : ks.size = K.length - x.plen := by rw [← data_len, hk, List.length_drop]
  have s2 : ks'.size = K.length - x.path.length := by rw [← data_len, hk', List.length_drop]
  have hxp := hT.plen_le hx
  unfold wayMu
  rw [e1, e2, e3, e4]
  by_cases hr : x.a = root
  · obtain ⟨p1, p2⟩ := hT.rt hx hr
    rw [p1] at s2
    simp only [List.length_nil] at s2
    rw [p2] at s1
    rcases hv with rfl | ⟨m, rfl, hm⟩
    · simp only [hr, if_true]; omega
    · simp only [hr, hm, if_true, if_false]; omega
  · have hne : x.path ≠ [] := fun e => hr (hT.top x hx e)
    have := hT.nz x hx hne
    rcases hv with rfl | ⟨m, rfl, hm⟩
    · simp only [hr, if_false]; omega
    · simp only [hr, hm, if_false]; omega
theorem Trie.kid_ne {root : Nat} {ns : NSet} (h : Trie root ns) {x m : Nd} (hx : x ∈ ns) (hm : m ∈ ns) {c : UInt8} {j : Nat} (hk : (c, m.a, j) ∈ x.kids) : m.a ≠ root ∧ m.plen = x.path.length ∧ x.path <+: m.path := by
  obtain ⟨m', hm', f1, f2, f3, f4⟩ := h.kid x hx _ hk
  obtain rfl := h.inj m' hm' m hm f1
  refine ⟨fun e => ?_, f2, f3⟩
  have := (h.rt hm e).1
  rw [this] at f4
  simp at f4
theorem pre_take {p q : List UInt8} (h : p <+: q) : q.take p.length = p := by
  rw [List.prefix_iff_eq_take] at h
  exact h.symm
theorem take_both {p q K : List UInt8} (h1 : p <+: K) (h2 : p <+: q) : K.take p.length = q.take p.length := by
  rw [pre_take h1, pre_take h2]
theorem node_zero (w : World) : (zeroValue 183).run Tryz.prog w = .ok (.pointer none) w := by kernel_rfl

set_option maxHeartbeats 2000000 in
set_option maxRecDepth 100000 in
theorem way_1 (n L bn bk n₀ g lo root : Nat) (many : Int) (ns : NSet) (K : List UInt8) (hK : K.length ≤ maxLen) (xs : List Nd) (J : List Nd → World → Prop) (w0 W : World) (hT : TreeAt w0 lo root many ns)
    (hY : ∀ pre x W1, J pre W1 → (∃ rest, xs = pre ++ x :: rest) → YieldAt Fence.wide (n - 1) Tryz.prog L (encN x) W1 fun e W' => e = .returned (.bool true) ∧ J (pre ++ [x]) W' ∧ KeptBut n₀ g W1 W')
    (hJ : AbidesR (fun r => r = bn ∨ r = bk) W.heap.size J) (l1 : w0.heap.size ≤ bn) (l2 : w0.heap.size ≤ bk) (l3 : bn < n₀) (l4 : bk < n₀) (l5 : w0.heap.size ≤ g) (g1 : bn ≠ g) (g2 : bk ≠ g) (gk : bn ≠ bk) (h0 : WayAt ns w0 bn bk K xs J W) :
    CallsIn Fence.wide n Tryz.prog 178 #[.func (.yield L) #[] #[], .pointer (some ⟨bn, 0, none⟩), .pointer (some ⟨bk, 0, none⟩)] W fun e W' => (∃ v, e = .returned v) ∧ J xs W' := by
  refine callsIn_of_wp Tryz.func178 rfl trivial ?_ rfl
  simp only [Tryz.ntmps178, List.size_toArray, List.length_cons, List.length_nil, Nat.reduceAdd, Nat.reduceSub, Array.replicate_succ, Array.replicate_zero, List.push_toArray, List.append_toArray, List.nil_append, List.cons_append]
  have HT := Lib.hid hT
  have HYY := Lib.hid hY
  have HJ := Lib.hid hJ
  clear hT hY hJ
  gi_wp2
  gi_loopw [] (fun wr => WayAt ns w0 bn bk K xs J wr) (fun wr => wayMu root bn bk wr)
  case atStart => exact h0
  case round =>
    obtain ⟨hs, (⟨x, ks, pre, ys, hx, bN, bK, hks, hpl, htk, hw, rfl, hj⟩ | ⟨bN, ⟨v, bK⟩, hj⟩)⟩ := hrel
    · have cN := bN.cell 0
      have cK := bK.cell 0
      have hXc := Nd.cell0 (hs.blk (HT.out.cells x hx))
      obtain ⟨cP, -, cM⟩ := hXc
      have hksz : ks.size = K.length - x.plen := by rw [← data_len, hks, List.length_drop]
      have hpsz := part_size x
      have hPle := HT.out.len x hx
      have hxp := HT.out.trie.plen_le hx
      by_cases hp : x.path <+: K
      · have hHas := Lib.hid (hasB_part hxp hpl htk hks)
        have hlp := hp.length_le
        obtain ⟨rest, rfl, hrest⟩ := hw.starts hp
        have HR := Lib.hid hrest
        clear hrest hw
        have HY := Lib.hid (fun (w3 : World) (hx3 : Ext wr w3) => HYY.out pre x w3 (HJ.out _ wr w3 none hj (kext_grown hx3) (fun r e => by cases e)) ⟨rest, rfl⟩)
        have HS := Lib.hid hs
        have HBN := Lib.hid bN
        have HBK := Lib.hid bK
        have HKS := Lib.hid hks
        have HTK := Lib.hid htk
        obtain ⟨fn, tmps, assign, body, hy, hR⟩ := HY.out (wr.drew) ((Ext.refl _).drew)
        simp only [encN] at hy
        have hm1 : ks.size ≤ maxLen := by omega
        have hm2 : x.part.size ≤ maxLen := by omega
        clear hs bN bK hks htk hj
        gi_upto_region 0 with fail
        gi_cut [18] from 4 (fun s18 wx => s18 = .bool true ∧ WayMid ns w0 bn bk x ks pre J wx)
        case first =>
          gi_region_with (first
            | (refine ⟨trivial, fun h => absurd h (by decide), (callsIn_wide.2 (key_Has ks x.part _ hm1 hm2)).mono ?_⟩; rw [hHas.out, decide_eq_true hp]; rintro e w4 ⟨rfl, rfl⟩)
            | (refine ⟨fun h => absurd h (by decide), ?_⟩; refine hR.mono ?_; rintro e w4 ⟨rfl, hJ4, hk4⟩))
          all_goals
            gi_wp2_with fail
            gi_meet
            exact ⟨rfl, HS.out.drew.kept hk4 (by omega) l5, (hk4 bn l3 g1).trans HBN.out, (hk4 bk l4 g2).trans HBK.out, hJ4⟩
        case rest =>
        obtain ⟨rfl, hs4, bN4, bK4, hJ4⟩ := hcut
        have dN := bN4.cell 0
        have dK := bK4.cell 0
        have fK := bK4.free 0
        obtain ⟨dP, -, dM⟩ := Nd.cell0 (hs4.blk (HT.out.cells x hx))
        have HJ4 := Lib.hid hJ4
        have HS4 := Lib.hid hs4
        have HBN4 := Lib.hid bN4
        have HBK4 := Lib.hid bK4
        clear hs4 bN4 bK4 hJ4
        have hb1 : (0 : Int) ≤ (x.part.size : Int) := by omega
        have hb2 : (x.part.size : Int) ≤ (ks.size : Int) := by omega
        gi_upto_region 1 with fail
        gi_cut [0] from 4 (fun s0 wx => s0 = .func (.yield L) #[] #[] ∧ WayBeh ns w0 bn bk x K pre J wx)
        case first =>
          gi_region
          all_goals
            gi_wp2_with fail
            gi_meet
            exact ⟨rfl, (HS4.out.set l2 0 _).drew, HBN4.out.other gk _, HJ.out _ _ _ none (HJ.out _ _ _ (some bk) HJ4.out (grownBy_setCell' _ _ _) (fun r e => by cases e; exact Or.inl (Or.inr rfl))) (kext_grown (Ext.refl _).drew) (fun r e => by cases e), _, HBK4.out.set 0 _, cut_str HKS.out hxp hlp⟩
        case rest =>
        obtain ⟨rfl, hs5, bN5, hJ5, ks', bK5, hks'⟩ := hcut
        have dN5 := bN5.cell 0
        have dK5 := bK5.cell 0
        have fN5 := bN5.free 0
        obtain ⟨dP5, -, dM5⟩ := Nd.cell0 (hs5.blk (HT.out.cells x hx))
        have hsz' : ks'.size = K.length - x.path.length := by rw [← data_len, hks', List.length_drop]
        have HSZ := Lib.hid hsz'
        have HS5 := Lib.hid hs5
        have HBN5 := Lib.hid bN5
        have HBK5 := Lib.hid bK5
        have HJ5 := Lib.hid hJ5
        have HKS' := Lib.hid hks'
        clear hs5 bN5 bK5 hJ5 hks' dN dK fK dP dM hy hR HJ4 HS4 HBN4 HBK4 hb1 hb2 cN cK cP cM hksz hpsz hHas HS HY
        by_cases hend : K.length = x.path.length
        · have he : ks'.toList.isEmpty = true := by rw [ByteArray.toList_eq, List.isEmpty_iff, ← List.length_eq_zero_iff, data_len]; omega
          have he2 : ks'.toList = [] := by simpa using he
          clear hsz'
          have hr0 : rest = [] := by
            rcases HR.out with ⟨h, -⟩ | ⟨m, c, j, hc, -⟩
            · exact h
            · rw [List.getElem?_eq_none (by omega)] at hc; cases hc
          subst hr0
          gi_wp2
          refine bodyPost_ret (results_none rfl _ _ _) rfl ?_
          exact ⟨⟨_, rfl⟩, HJ5.out⟩
        · have hz : (0 : Int) < (ks'.size : Int) := by omega
          have hz2 : 0 < ks'.size := by omega
          have he : ks'.toList.isEmpty = false := by rw [Bool.eq_false_iff]; intro q; rw [ByteArray.toList_eq, List.isEmpty_iff, ← List.length_eq_zero_iff, data_len] at q; omega
          have hidx : K[x.path.length]? = some ks'[0] := by
            have e1 : (K.drop x.path.length)[0]? = some ks'[0] := by rw [← HKS'.out, List.getElem?_eq_getElem (by rw [data_len]; exact hz2), data_get ks' 0 hz2]
            rw [List.getElem?_drop, Nat.add_zero] at e1
            exact e1
          have HIX := Lib.hid hidx
          clear hsz' hidx
          rcases HR.out with ⟨rfl, hno⟩ | ⟨m, c, j, hc, hkid, hm, hwm⟩
          · have hL := run_klook_no (P := Tryz.prog) Tryz.underlying177 Tryz.underlying5 ((HS5.out.drew (W := wc)).kmap (HT.out.maps x hx)) (hno _ HIX.out) (node_zero _)
            clear hno
            gi_wp2_with fail
            gi_region
            all_goals
              gi_wp2
              go_roundw
              case rel => exact ⟨(HS5.out.set l1 0 _).drew, Or.inr ⟨HBN5.out.set 0 _, ⟨_, HBK5.out.other (Ne.symm gk) _⟩, HJ.out _ _ _ none (HJ.out _ _ _ (some bn) HJ5.out (grownBy_setCell' _ _ _) (fun r e => by cases e; exact Or.inl (Or.inl rfl))) (kext_grown (Ext.refl _).drew) (fun r e => by cases e)⟩⟩
              case measure => exact way_dec HT.out.trie hx HBN.out HBK.out HKS.out hlp (HBN5.out.set 0 _) (HBK5.out.other (Ne.symm gk) _) HKS'.out (Or.inl rfl)
          · obtain rfl : c = ks'[0] := by have := HIX.out; rw [hc] at this; exact Option.some.inj this
            have hL := run_klook_yes (P := Tryz.prog) Tryz.underlying177 Tryz.underlying5 ((HS5.out.drew (W := wc)).kmap (HT.out.maps x hx)) (HT.out.trie.keys x hx) hkid
            have HC := Lib.hid hc
            have HWM := Lib.hid hwm
            clear hc hwm
            gi_wp2_with fail
            gi_region
            all_goals
              gi_wp2
              go_roundw
              case rel =>
                obtain ⟨q1, q2, q3⟩ := HT.out.trie.kid_ne hx hm hkid
                exact ⟨(HS5.out.set l1 0 _).drew, Or.inl ⟨m, ks', pre ++ [x], rest, hm, HBN5.out.set 0 _, HBK5.out.other (Ne.symm gk) _, by rw [q2]; exact HKS'.out, by omega, by rw [q2]; exact take_both hp q3, HWM.out, by simp, HJ.out _ _ _ none (HJ.out _ _ _ (some bn) HJ5.out (grownBy_setCell' _ _ _) (fun r e => by cases e; exact Or.inl (Or.inl rfl))) (kext_grown (Ext.refl _).drew) (fun r e => by cases e)⟩⟩
              case measure => exact way_dec HT.out.trie hx HBN.out HBK.out HKS.out hlp (HBN5.out.set 0 _) (HBK5.out.other (Ne.symm gk) _) HKS'.out (Or.inr ⟨m.a, rfl, (HT.out.trie.kid_ne hx hm hkid).1⟩)
      · have hHas := Lib.hid (hasB_part hxp hpl htk hks)
        have hys := hw.nothing hp
        subst hys
        have HJ1 := Lib.hid hj
        have hm1 : ks.size ≤ maxLen := by omega
        have hm2 : x.part.size ≤ maxLen := by omega
        have HQ := Lib.hid (fun (W : World) => (key_Has ks x.part W hm1 hm2).mono (R' := fun e w' => e = .returned (.bool false) ∧ w' = W) (fun e w' h => ⟨by rw [h.1, hHas.out, decide_eq_false hp], h.2.symm⟩))
        clear hs bN bK hks htk hj hw
        gi_upto_region 0 with fail
        refine wpIn_wide.2 ?_
        go_quiet ((go_at_call 179; exact Calls.quiet_of_same (HQ.out _)))
        all_goals
          gi_wp2
          go_end0
          exact ⟨⟨_, rfl⟩, by have := HJ1.out; rw [List.append_nil]; exact HJ.out _ _ _ none this (kext_grown (Ext.drewNs _ _)) (fun r e => by cases e)⟩
    · have cN := bN.cell 0
      have HJ1 := Lib.hid hj
      clear bK bN hj hs
      gi_upto_region 0 with fail
      refine wpIn_wide.2 ?_
      go_quiet (fail)
      all_goals
        gi_wp2
        go_end0
        exact ⟨⟨_, rfl⟩, HJ.out _ _ _ none HJ1.out (kext_grown (Ext.drewNs _ _)) (fun r e => by cases e)⟩
end Go.Proofs.YtfglpejbgfmojaaGreat
