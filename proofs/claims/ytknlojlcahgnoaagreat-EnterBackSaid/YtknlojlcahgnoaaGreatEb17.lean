/- Walks: package key: both. The tree of prefixes in memory: what the stores do to it. -/
import Derived.RangeFuncBox
import Derived.RangeFuncNested
import Derived.RangeFuncBound
import Derived.RangeFuncCalls
import Derived.RangeFuncLeaves
import Derived.Shelf.Abstract
import Derived.Shelf.RegionOpen
import Derived.WalkKit
import Derived.OwnWalkIn
import Derived.TacticsInMore
import Derived.LoopNIn
import Derived.LoopIn
import Derived.Maps.OwnIn
import Derived.Deep.QuietTactic
import Derived.BigQuiet
import Derived.Test.YtknlojlcahgnoaaGreatEb9
import Derived.Test.YtknlojlcahgnoaaGreatEb12

namespace Go.Proofs.YtknlojlcahgnoaaGreat
open Go.RowKit
attribute [local go_sem] Oper.semAt_some
set_option linter.unusedVariables false
set_option linter.unusedSimpArgs false

theorem kext_from {w X Y : World} {row : Option Nat} (h : Ext w X) (hg : X.grownBy Y row) (hr : ∀ r, row = some r → w.heap.size ≤ r) : Ext w Y := Below.grown h hg (Ext.sz h) hr
theorem kblk_from {b : Nat} {C : Array Value} {ty : TypeId} {X Y : World} {row : Option Nat} (h : Blk X b C ty) (hg : X.grownBy Y row) (hr : ∀ r, row = some r → b < r) : Blk Y b C ty :=
  (hg.block b h.lt (fun e => by have := hr b e.symm; omega)).trans h
theorem kext_grown {x y : World} (h : Ext x y) : x.grownBy y none := ⟨Below.os h, Below.tape h, Below.output h, Ext.sz h, fun i hi _ => Below.block h i hi⟩

theorem kyield_bool {F : Fence} {m : Nat} {P : Program} {L : Nat} {args : Array Value} {W : World} {A B : World → Prop}
    (h : YieldAt F m P L args W fun e W' => (e = .returned (.bool true) ∧ A W') ∨ (e = .returned (.bool false) ∧ B W')) :
    YieldAt F m P L args W fun e W' => ∃ bo : Bool, e = .returned (.bool bo) ∧ Hid ((bo = true ∧ A W') ∨ (bo = false ∧ B W')) := by
  obtain ⟨fn, tmps, assign, body, hy, hR⟩ := h
  refine ⟨fn, tmps, assign, body, hy, hR.mono ?_⟩
  rintro e W' (⟨rfl, hA⟩ | ⟨rfl, hB⟩)
  · exact ⟨true, rfl, Lib.hid (Or.inl ⟨rfl, hA⟩)⟩
  · exact ⟨false, rfl, Lib.hid (Or.inr ⟨rfl, hB⟩)⟩

/-- bytes of two, place by place -/
def zipB (a b : ByteArray) : List (UInt8 × UInt8) := a.data.toList.zip b.data.toList
def encB (x : UInt8 × UInt8) : Array Value := #[.int .u8 (x.1.toNat : Int), .int .u8 (x.2.toNat : Int)]
theorem zipB_len (a b : ByteArray) : (zipB a b).length = min a.size b.size := by
  unfold zipB
  rw [List.length_zip, data_len, data_len]
theorem zipB_get (a b : ByteArray) (k : Nat) (h1 : k < a.size) (h2 : k < b.size) : (zipB a b)[k]? = some (a[k], b[k]) := by
  unfold zipB
  rw [List.getElem?_zip_eq_some]
  exact ⟨by rw [List.getElem?_eq_getElem (by rw [data_len]; exact h1), data_get a k h1], by rw [List.getElem?_eq_getElem (by rw [data_len]; exact h2), data_get b k h2]⟩
theorem zipB_take (a b : ByteArray) (k : Nat) (h1 : k < a.size) (h2 : k < b.size) : (zipB a b).take (k + 1) = (zipB a b).take k ++ [(a[k], b[k])] := by
  rw [List.take_add_one, zipB_get a b k h1 h2]
  rfl

set_option maxHeartbeats 1000000 in
set_option maxRecDepth 100000 in
theorem both_1 (n L b1 b2 n₀ : Nat) (a b : ByteArray) (ha : a.size ≤ maxLen) (hb : b.size ≤ maxLen) (J Jx : List (UInt8 × UInt8) → World → Prop)
    (hY : ∀ pre x W, J pre W → pre.length < (zipB a b).length → YieldAt Fence.wide (n - 1) Tryz.prog L (encB x) W fun e W' =>
      (e = .returned (.bool true) ∧ J (pre ++ [x]) W' ∧ Below n₀ W W') ∨ (e = .returned (.bool false) ∧ Jx (pre ++ [x]) W'))
    (W : World) (hJ : AbidesFrom W.heap.size J) (hc1 : W.cell? ⟨b1, 0, none⟩ = some (.string a)) (hc2 : W.cell? ⟨b2, 0, none⟩ = some (.string b))
    (l1 : b1 < n₀) (l2 : b2 < n₀) (l4 : n₀ ≤ W.heap.size) (h0 : J [] W) :
    CallsIn Fence.wide n Tryz.prog 212 #[.func (.yield L) #[] #[], .pointer (some ⟨b1, 0, none⟩), .pointer (some ⟨b2, 0, none⟩)] W fun e W' => (∃ v, e = .returned v) ∧
      (J (zipB a b) W' ∨ (∃ pre : List (UInt8 × UInt8), (∃ rest, pre ++ rest = zipB a b) ∧ Jx pre W')) := by
  unfold maxLen at ha hb
  have hzl := zipB_len a b
  refine callsIn_of_wp Tryz.func212 rfl trivial ?_ rfl
  simp only [Tryz.ntmps212, List.size_toArray, List.length_cons, List.length_nil, Nat.reduceAdd, Nat.reduceSub, Array.replicate_succ, Array.replicate_zero, List.push_toArray, List.append_toArray, List.nil_append, List.cons_append]
  gi_wp2
  all_goals
    gi_loopw [10] (fun i wr => ∃ k : Nat, k ≤ (zipB a b).length ∧ i = .int .i64 k ∧ J ((zipB a b).take k) wr ∧ Below n₀ W wr) (fun i _ => (zipB a b).length - (intOf i).toNat)
    case atStart => exact ⟨0, by omega, rfl, h0, Below.refl _ _⟩
    case round =>
      obtain ⟨k, hk, rfl, hJk, hbel⟩ := hrel
      have HJ := Lib.hid hJk
      have HB := Lib.hid hbel
      by_cases hlt : k < a.size ∧ k < b.size
      · obtain ⟨hl1, hl2⟩ := hlt
        have c1 : wr.cell? ⟨b1, 0, none⟩ = some (.string a) := (hbel.cell (p := ⟨b1, 0, none⟩) l1).trans hc1
        have c2 : wr.cell? ⟨b2, 0, none⟩ = some (.string b) := (hbel.cell (p := ⟨b2, 0, none⟩) l2).trans hc2
        have HT := Lib.hid (zipB_take a b k hl1 hl2)
        have hkz : k < (zipB a b).length := by omega
        have HY := Lib.hid (fun (w3 : World) (hx : Ext wr w3) => kyield_bool (hY ((zipB a b).take k) (a[k], b[k]) w3 (hJ _ wr w3 none hJk (kext_grown hx) (fun r e => by cases e)) (by rw [List.length_take]; omega)))
        obtain ⟨fn, tmps, assign, body, hy, hR⟩ := HY.out (wr.drew) ((Ext.refl _).drew)
        simp only [encB] at hy
        gi_wp2_with fail
        gi_region_with (first
          | (refine ⟨fun h => absurd h (by decide), ?_⟩; refine hR.mono ?_; rintro x w4 ⟨bo, rfl, hbo⟩))
        all_goals
          rcases hbo.out with ⟨rfl, hJ4, hk4⟩ | ⟨rfl, hJx4⟩
          · have hbel4 : Below n₀ W w4 := HB.out.drew.trans hk4
            rw [← HT.out] at hJ4
            gi_wp2
            go_roundw
            case rel => exact ⟨k + 1, by omega, by go_num, hJ4, hbel4⟩
            case measure => simp [intOf]; omega
          · gi_wp2
            refine bodyPost_ret (results_none rfl _ _ _) rfl ?_
            exact ⟨⟨_, rfl⟩, .inr ⟨_, ⟨(zipB a b).drop (k + 1), by rw [← HT.out, List.take_append_drop]⟩, hJx4⟩⟩
      · have hkk : k = (zipB a b).length := by omega
        gi_wp2
        go_end0
        exact ⟨⟨_, rfl⟩, .inl (by have := HJ.out; rw [hkk, List.take_length] at this; exact this)⟩
end Go.Proofs.YtknlojlcahgnoaaGreat

namespace Go.Proofs.YtknlojlcahgnoaaGreat
open Go.RowKit
set_option linter.unusedVariables false
set_option linter.unusedSimpArgs false

theorem Nd.cells_node (x : Nd) {root : Nat} (many : Int) (h : x.a ≠ root) : x.cells root many = #[.string x.part, x.rp, .map (some x.mb)] := by unfold Nd.cells; rw [if_neg h]
theorem Nd.ty_node (x : Nd) {root : Nat} (h : x.a ≠ root) : x.ty root = 208 := by unfold Nd.ty; rw [if_neg h]
theorem Nd.cells_congr {x y : Nd} {root : Nat} {many : Int} (ha : x.a = y.a) (hp : x.part = y.part) (hr : x.rule = y.rule) (hm : x.mb = y.mb) : x.cells root many = y.cells root many := by
  unfold Nd.cells Nd.rp
  rw [ha, hp, hr, hm]
theorem Nd.ty_congr {x y : Nd} {root : Nat} (ha : x.a = y.a) : x.ty root = y.ty root := by unfold Nd.ty; rw [ha]
theorem leafOf_part (n : Nd) (a mb : Nat) (s : List UInt8) : (leafOf n a mb s).part = ⟨s.toArray⟩ := by simp [leafOf, Nd.part]

section
variable {w w' : World} {lo root : Nat} {many : Int} {ns : NSet}
theorem TreeAt.root_lt (h : TreeAt w lo root many ns) : root < w.heap.size := by
  obtain ⟨r, hr, e, -⟩ := h.trie.root
  have := (h.cells r hr).lt
  rwa [e] at this
theorem TreeAt.addLeaf (h : TreeAt w lo root many ns) {n : Nd} (hn : n ∈ ns) {a mb : Nat} {c : UInt8} {s : List UInt8} (hno : ∀ k ∈ n.kids, k.1 ≠ c) (ha : w.heap.size ≤ a) (hmb : w.heap.size ≤ mb)
    (hE : ExtB n.mb w w') (hM : KMap w' n.mb (n.kids ++ [(c, a, n.c)]) (n.c + 1)) (hB : Blk w' a #[.string ⟨(c :: s).toArray⟩, .pointer none, .map (some mb)] 208) (hK : KMap w' mb [] 0)
    (hl : (n.path ++ c :: s).length ≤ maxLen) (hlo : lo ≤ w.heap.size) : TreeAt w' lo root many (growLeaf ns n a mb c s) := by
  have hrt := h.root_lt
  refine ⟨h.trie.addLeaf hn hno (fun m hm => Nat.ne_of_lt (Nat.lt_of_lt_of_le (h.cells m hm).lt ha)) (fun m hm => Nat.ne_of_lt (Nat.lt_of_lt_of_le (h.maps m hm).lt hmb)), ?_, ?_, ?_, ?_, ?_⟩
  · rintro x (⟨hx, -⟩ | rfl | rfl)
    · exact (h.cells x hx).extB hE (fun e => h.map_ne hn hx e.symm)
    · have := (h.cells n hn).extB hE (fun e => h.map_ne hn hn e.symm)
      rw [Nd.cells_congr (x := kidAt n c a) (y := n) rfl rfl rfl rfl, Nd.ty_congr (x := kidAt n c a) (y := n) rfl]
      exact this
    · have hne : (leafOf n a mb (c :: s)).a ≠ root := fun e => by simp only [leafOf] at e; omega
      rw [Nd.cells_node _ _ hne, Nd.ty_node _ hne, leafOf_part]
      exact hB
  · rintro x (⟨hx, hxa⟩ | rfl | rfl)
    · exact (h.maps x hx).extB hE (fun e => hxa (by rw [h.trie.map x hx n hn e]))
    · exact hM
    · exact hK
  · rintro x (⟨hx, -⟩ | rfl | rfl) r hr
    · exact (h.rules x hx r hr).extB hE (fun e => (h.maps n hn).ne (h.rules x hx r hr) e.symm)
    · exact (h.rules n hn r hr).extB hE (fun e => (h.maps n hn).ne (h.rules n hn r hr) e.symm)
    · cases hr
  · rintro x (⟨hx, -⟩ | rfl | rfl)
    · exact h.low x hx
    · exact h.low n hn
    · exact ⟨Nat.le_trans hlo ha, Nat.le_trans hlo hmb⟩
  · rintro x (⟨hx, -⟩ | rfl | rfl)
    · exact h.len x hx
    · exact h.len n hn
    · exact hl

/-- what was there is as it was but for two blocks -/
def Same2 (b c : Nat) (w w' : World) : Prop := ∀ k, k < w.heap.size → k ≠ b → k ≠ c → w'.heap[k]? = w.heap[k]?
theorem Blk.same2 {b c g : Nat} {C : Array Value} {t : TypeId} (h : Blk w g C t) (e : Same2 b c w w') (h1 : g ≠ b) (h2 : g ≠ c) : Blk w' g C t := (e g h.lt h1 h2).trans h
theorem KMap.same2 {b c g n : Nat} {l : Kids} (h : KMap w g l n) (e : Same2 b c w w') (h1 : g ≠ b) (h2 : g ≠ c) : KMap w' g l n := (e g h.lt h1 h2).trans h
theorem TreeAt.split (h : TreeAt w lo root many ns) {n o : Nd} (hn : n ∈ ns) (ho : o ∈ ns) {a mb i j : Nat} {c d : UInt8} (hk : (c, o.a, j) ∈ n.kids) (hi0 : 0 < i) (hi1 : o.plen + i < o.path.length) (hd : o.path[o.plen + i]? = some d)
    (ha : w.heap.size ≤ a) (hmb : w.heap.size ≤ mb)
    (hE : Same2 n.mb o.a w w') (hM : KMap w' n.mb (kidTo n c a).kids n.c) (hO : Blk w' o.a ((restOf o i).cells root many) ((restOf o i).ty root))
    (hB : Blk w' a #[.string (halfOf o a mb i d).part, .pointer none, .map (some mb)] 208) (hK : KMap w' mb [(d, o.a, 0)] 1) (hlo : lo ≤ w.heap.size) : TreeAt w' lo root many (splitTo ns n o a mb i c d) := by
  have hrt := h.root_lt
  have hne : n.a ≠ o.a := fun e => by
    obtain ⟨o', ho', f1, f2, f3, f4⟩ := h.trie.kid n hn _ hk
    obtain rfl := h.trie.inj o' ho' o ho f1
    obtain rfl := h.trie.inj n hn o' ho e
    omega
  have hmo : ∀ x ∈ ns, x.mb ≠ o.a := fun x hx => h.map_ne hx ho
  have ham : ∀ x ∈ ns, x.a ≠ n.mb := fun x hx e => h.map_ne hn hx e.symm
  refine ⟨h.trie.split hn ho hk hi0 hi1 hd (fun m hm => Nat.ne_of_lt (Nat.lt_of_lt_of_le (h.cells m hm).lt ha)) (fun m hm => Nat.ne_of_lt (Nat.lt_of_lt_of_le (h.maps m hm).lt hmb)), ?_, ?_, ?_, ?_, ?_⟩
  · rintro x (⟨hx, -, hxo⟩ | rfl | rfl | rfl)
    · exact (h.cells x hx).same2 hE (ham x hx) hxo
    · have := (h.cells n hn).same2 hE (ham n hn) hne
      rw [Nd.cells_congr (x := kidTo n c a) (y := n) rfl rfl rfl rfl, Nd.ty_congr (x := kidTo n c a) (y := n) rfl]
      exact this
    · exact hO
    · have hne : (halfOf o a mb i d).a ≠ root := fun e => by simp only [halfOf] at e; omega
      rw [Nd.cells_node _ _ hne, Nd.ty_node _ hne]
      exact hB
  · rintro x (⟨hx, hxa, -⟩ | rfl | rfl | rfl)
    · exact (h.maps x hx).same2 hE (fun e => hxa (by rw [h.trie.map x hx n hn e])) (hmo x hx)
    · exact hM
    · exact (h.maps o ho).same2 hE (fun e => hne (by rw [h.trie.map o ho n hn e])) (hmo o ho)
    · exact hK
  · rintro x (⟨hx, -⟩ | rfl | rfl | rfl) r hr
    · exact (h.rules x hx r hr).same2 hE (fun e => (h.maps n hn).ne (h.rules x hx r hr) e.symm) (h.rule_ne ho hx hr)
    · exact (h.rules n hn r hr).same2 hE (fun e => (h.maps n hn).ne (h.rules n hn r hr) e.symm) (h.rule_ne ho hn hr)
    · exact (h.rules o ho r hr).same2 hE (fun e => (h.maps n hn).ne (h.rules o ho r hr) e.symm) (h.rule_ne ho ho hr)
    · cases hr
  · rintro x (⟨hx, -⟩ | rfl | rfl | rfl)
    · exact h.low x hx
    · exact h.low n hn
    · exact h.low o ho
    · exact ⟨Nat.le_trans hlo ha, Nat.le_trans hlo hmb⟩
  · rintro x (⟨hx, -⟩ | rfl | rfl | rfl)
    · exact h.len x hx
    · exact h.len n hn
    · exact h.len o ho
    · have := h.len o ho
      simp only [halfOf, List.length_take]
      omega

theorem TreeAt.setRule (h : TreeAt w lo root many ns) {n : Nd} (hn : n ∈ ns) {b : Nat} {r : Rl} (hb : Blk w b r.cells 37) :
    TreeAt (w.setCell ⟨n.a, 1, none⟩ (.pointer (some ⟨b, 0, none⟩))) lo root many (swap1 ns (ruleAt n (b, r))) := by
  have hnb : b ≠ n.a := fun e => by
    rw [e] at hb
    exact Nd.ty_rule n root (blk_ty (h.cells n hn) hb)
  refine ⟨h.trie.setRule hn (b, r), ?_, ?_, ?_, ?_, ?_⟩
  · rintro x (⟨hx, hxa⟩ | rfl)
    · exact (h.cells x hx).other hxa _
    · have := (h.cells n hn).set 1 (.pointer (some ⟨b, 0, none⟩))
      have e : (n.cells root many).setIfInBounds 1 (.pointer (some ⟨b, 0, none⟩)) = (ruleAt n (b, r)).cells root many := by
        unfold Nd.cells
        show (if n.a = root then _ else _ : Array Value).setIfInBounds 1 _ = if n.a = root then _ else _
        split <;> simp [ruleAt, Nd.rp, Nd.part]
      rw [e] at this
      exact this
  · rintro x (⟨hx, hxa⟩ | rfl)
    · exact (h.maps x hx).other (h.map_ne hx hn) _
    · exact (h.maps n hn).other (h.map_ne hn hn) _
  · rintro x (⟨hx, hxa⟩ | rfl) q hq
    · exact (h.rules x hx q hq).other (h.rule_ne hn hx hq) _
    · simp only [ruleAt, Option.some.injEq] at hq
      subst hq
      exact hb.other hnb _
  · rintro x (⟨hx, -⟩ | rfl)
    · exact h.low x hx
    · exact h.low n hn
  · rintro x (⟨hx, -⟩ | rfl)
    · exact h.len x hx
    · exact h.len n hn
theorem TreeAt.setMany (h : TreeAt w lo root many ns) (m : Int) : TreeAt (w.setCell ⟨root, 3, none⟩ (.int .i64 m)) lo root m ns := by
  obtain ⟨q, hq, hqa, -⟩ := h.trie.root
  have hoth : ∀ x ∈ ns, x.a ≠ root → Blk (w.setCell ⟨root, 3, none⟩ (.int .i64 m)) x.a (x.cells root m) (x.ty root) := by
    intro x hx hne
    have := (h.cells x hx).other (a := ⟨root, 3, none⟩) hne (.int .i64 m)
    rw [Nd.cells_node _ _ hne] at this ⊢
    exact this
  refine ⟨h.trie, ?_, ?_, ?_, h.low, h.len⟩
  · intro x hx
    by_cases e : x.a = root
    · have := (h.cells x hx).set 3 (.int .i64 m)
      have e2 : (x.cells root many).setIfInBounds 3 (.int .i64 m) = x.cells root m := by
        unfold Nd.cells
        rw [if_pos e, if_pos e]
        simp
      rw [e2] at this
      rw [← e]
      rw [← e] at this
      exact this
    · exact hoth x hx e
  · intro x hx
    exact (h.maps x hx).other (fun e => h.map_ne hx hq (e.trans hqa.symm)) _
  · intro x hx r hr
    exact (h.rules x hx r hr).other (fun e => h.rule_ne hq hx hr (e.trans hqa.symm)) _
end
end Go.Proofs.YtknlojlcahgnoaaGreat
