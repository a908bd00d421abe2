/- Walks: cmp.Compare of texts; the order of slots; slices.SortFunc of slots. Walks: Slots, Active: the active slots, in the order of their keys. Plain laws: how many keys a table has; who is active. Walks: tollerlaw14.Name, holds; Active. Plain laws: a charge of a table that has few keys; all are drained later. Rows of elements of any make, in memory of the call's own. -/
import Derived.Shelf.SlSortCmp.WholeK
import Derived.Shelf.SlSortCmp.NoneTotal
import Derived.Deep.QuietTactic
import Derived.BigQuiet
import Derived.OwnWalk
import Derived.Laws.AppendOwn
import Derived.Test.YtnlmbmbalmkiiaaG6
import Derived.Test.YtnlmbmbalmkiiaaShelf
import Derived.Test.YtnlmbmbalmkiiaaG13
import Derived.Test.YtnlmbmbalmkiiaaG10
import Derived.Test.YtnlmbmbalmkiiaaG9
import Derived.Test.YtnlmbmbalmkiiaaG1

/- Walks: cmp.Compare of texts; the order of slots; slices.SortFunc of slots. -/
namespace Go.Proofs.Ytnlmbmbalmkiiaa
open Go.RowKit Go.Shelf Go.Sort
set_option linter.unusedVariables false
set_option linter.unusedSimpArgs false

def cmpB (a b : ByteArray) : Int := if Op.bytesLess a.toList b.toList then -1 else if a.toList == b.toList then 0 else 1

set_option maxHeartbeats 1000000 in
set_option maxRecDepth 100000 in
theorem cmp_Compare (a b : ByteArray) (w : World) : Calls Try.prog 41 #[.string a, .string b] w fun x w' => x = .returned (.int .i64 (cmpB a b)) ∧ w' = w := by
  cases h1 : Op.bytesLess a.toList b.toList with
  | true =>
    have hv : cmpB a b = -1 := by unfold cmpB; rw [h1]; rfl
    rw [hv]
    go_enter Try.func41, Try.ntmps41
    go_wp2
    go_ret
    exact ⟨rfl, rfl⟩
  | false =>
    cases h2 : a.toList == b.toList with
    | true =>
      have hv : cmpB a b = 0 := by unfold cmpB; rw [h1, h2]; rfl
      rw [hv]
      go_enter Try.func41, Try.ntmps41
      go_wp2
      go_ret
      exact ⟨rfl, rfl⟩
    | false =>
      have hv : cmpB a b = 1 := by unfold cmpB; rw [h1, h2]; rfl
      rw [hv]
      go_enter Try.func41, Try.ntmps41
      go_wp2
      go_ret
      exact ⟨rfl, rfl⟩

def slotCmp (x y : Slot) : Int := cmpB x.key y.key
def slotEnc (x : Slot) : List Value := x.cells.toList
instance : Inhabited Slot := ⟨slot0⟩

set_option maxHeartbeats 1000000 in
set_option maxRecDepth 100000 in
theorem slots_1 (x y : Slot) (W : World) : Calls Try.prog 40 #[x.val, y.val] W fun e w' => e = .returned (.int .i64 (slotCmp x y)) ∧ ∃ q os', w' = grow (W.drewN q) os' := by
  obtain ⟨k, sp, se, sbu, srk, sk, sa, sb⟩ := x
  obtain ⟨k2, sp2, se2, sbu2, srk2, sk2, sa2, sb2⟩ := y
  simp only [slotCmp, Slot.val, Slot.cells]
  generalize hr : cmpB k k2 = r
  have HR := Lib.hid hr
  clear hr
  go_enter Try.func40, Try.ntmps40
  go_wp2_with (go_at_call 41; (with_reducible refine (cmp_Compare k k2 _).mono ?_); rw [HR.out]; rintro e w' ⟨rfl, rfl⟩)
  go_ret
  exact ⟨rfl, 0, _, by rw [alloc_eq_grow, alloc_eq_grow, grow_grow]; rfl⟩

theorem ltKey (x y : Slot) : ltOf slotCmp x y = decide (x.key.toList < y.key.toList) := by
  unfold ltOf slotCmp cmpB
  rw [bytesLess_eq]
  by_cases h : x.key.toList < y.key.toList
  · simp [h]
  · simp only [h, decide_false, Bool.false_eq_true, if_false]
    split <;> simp
theorem swoKey : SWO (ltOf slotCmp) where
  irrefl x := by rw [ltKey]; simp [List.lt_irrefl]
  trans x y z h1 h2 := by
    rw [ltKey] at *
    simp only [decide_eq_true_eq] at *
    exact List.lt_trans h1 h2
  ntrans x y z h1 h2 := by
    rw [ltKey] at *
    simp only [decide_eq_false_iff_not, List.not_lt] at *
    exact List.le_trans h2 h1

theorem grownBy_sortedK {w : World} {g n : Nat} {os : Array Obj} (d : Array Slot) : w.grownBy (sortWorldK slotEnc 8 w g 0 n d os) (some g) := by
  refine ⟨rfl, rfl, rfl, size_sortWorldK_c slotEnc 8 w g 0 n d os, fun k hk hne => ?_⟩
  have hk2 : k < (putRowK slotEnc 8 (Sort.ahead w n) g 0 d).heap.size := by simpa [putRowK, putRow, mapBlock, Sort.ahead] using hk
  unfold sortWorldK
  rw [heap_grow_old _ _ hk2]
  have : g ≠ k := fun e => hne (by rw [e])
  simp [putRowK, putRow, mapBlock, Sort.ahead, Array.getElem?_modify, this]

theorem sort_slots (blk cap : Nat) (d : Array Slot) (w : World) (hH : HoldsK slotEnc 8 w blk 0 d) (hblk : blk < w.heap.size) (hsz : d.size < 4611686018427387904) :
    Calls Try.prog 61 #[.slice (some ⟨blk, 0, none⟩) d.size cap, .func (.func 40) #[] #[]] w fun e w' =>
      e = .returned (.tuple #[]) ∧ ∃ d', d'.size = d.size ∧ d'.toList.Perm d.toList ∧ (∀ i j, i < j → j < d.size → ¬ (d'[j]!).key.toList < (d'[i]!).key.toList) ∧ HoldsK slotEnc 8 w' blk 0 d' ∧ ExtB blk w w' := by
  have eg : ∀ args w, (callFunc 40 args).run Try.prog w = .ok (.enter 40 args) w := enters_of Try.func40 (by kernel_rfl) rfl
  have hcon := AnyQ.slices_SortFunc Try.sortSlots 8 Try.isAgg52 Try.sizeOf52 slotEnc (fun x => rfl) (fun x v hv => by simp [slotEnc, Slot.cells] at hv; rcases hv with rfl | rfl | rfl | rfl | rfl | rfl | rfl | rfl <;> rfl) slotCmp swoKey 40 #[] blk 0 cap d w eg (fun _ _ _ _ x y => slots_1 x y _) hH hblk hsz
  change Calls Try.prog 61 _ _ _ at hcon
  refine hcon.mono ?_
  rintro e w' ⟨rfl, d', n, os, hp, hs, rfl⟩
  refine ⟨rfl, d', hp.1, ?_, fun i j hij hj => ?_, holdsK_sortWorldK_c slotEnc 8 w blk 0 d d' n os hH hblk hp.1, ?_⟩
  · have h3 := hp.2.2
    have e1 : d'.extract 0 d.size = d' := by rw [← hp.1]; simp
    have e2 : d.extract 0 d.size = d := by simp
    rw [e1, e2] at h3
    exact h3
  · have := hs i j (Nat.zero_le _) hij hj
    rw [ltKey] at this
    simpa using this
  · have hg := grownBy_sortedK (w := w) (g := blk) (n := n) (os := os) d'
    exact ⟨hg.os, hg.tape, hg.output, hg.size, fun k hk hne => hg.block k hk (fun e => hne (by cases e; rfl))⟩
end Go.Proofs.Ytnlmbmbalmkiiaa

/- Walks: Slots, Active: the active slots, in the order of their keys. -/
namespace Go.Proofs.Ytnlmbmbalmkiiaa
open Go.RowKit Go.Shelf Go.Sort
set_option linter.unusedVariables false
set_option linter.unusedSimpArgs false

/-- the active slots in the order of their keys -/
def slotsOf (clock : Int) (l : SMap) : List Slot := (actives clock l).mergeSort fun x y => decide (x.key.toList ≤ y.key.toList)
theorem slotsOf_perm (clock : Int) (l : SMap) : (slotsOf clock l).Perm (actives clock l) := List.mergeSort_perm _ _
theorem slotsOf_len (clock : Int) (l : SMap) : (slotsOf clock l).length = (actives clock l).length := (slotsOf_perm clock l).length_eq
theorem actives_len (clock : Int) (l : SMap) : (actives clock l).length ≤ l.length := by
  unfold actives; rw [List.length_map]; exact List.length_filter_le _ _
theorem actives_mem {clock : Int} {l : SMap} {s : Slot} (h : s ∈ actives clock l) : ∃ n, (s, n) ∈ l := by
  unfold actives at h
  obtain ⟨⟨a, b⟩, h1, rfl⟩ := List.mem_map.1 h
  exact ⟨b, (List.mem_filter.1 h1).1⟩
theorem actives_key {clock : Int} {l : SMap} (hk : l.keys.Nodup) {x y : Slot} (hx : x ∈ actives clock l) (hy : y ∈ actives clock l) (h : x.key = y.key) : x = y := by
  obtain ⟨n, hn⟩ := actives_mem hx
  obtain ⟨m, hm⟩ := actives_mem hy
  have := key_eq hk hn hm h
  cases this
  rfl
theorem toList_inj {a b : ByteArray} (h : a.toList = b.toList) : a = b := by
  rw [ByteArray.toList_eq, ByteArray.toList_eq] at h
  cases a; cases b
  simp at h
  subst h
  rfl
theorem slotsOf_unique {clock : Int} {l : SMap} (hk : l.keys.Nodup) {xs : List Slot} (hp : xs.Perm (actives clock l)) (hs : xs.Pairwise fun x y => x.key.toList ≤ y.key.toList) : xs = slotsOf clock l := by
  refine List.Perm.eq_of_pairwise (le := fun x y : Slot => x.key.toList ≤ y.key.toList) ?_ hs ?_ (hp.trans (slotsOf_perm clock l).symm)
  · intro a b ha hb h1 h2
    exact actives_key hk (hp.mem_iff.1 ha) ((slotsOf_perm clock l).mem_iff.1 hb) (toList_inj (List.le_antisymm h1 h2))
  · have := List.pairwise_mergeSort (le := fun x y : Slot => decide (x.key.toList ≤ y.key.toList)) (fun a b c h1 h2 => by simp only [decide_eq_true_eq] at *; exact List.le_trans h1 h2) (fun a b => by simp only [Bool.or_eq_true, decide_eq_true_eq]; exact List.le_total _ _) (actives clock l)
    exact this.imp (fun h => by simpa using h)

/-- a slice of slots in memory of its own -/
structure SlotSlice (base : Nat) (w : World) (v : Value) (l : List Slot) : Prop where
  form : ∃ a c, v = .slice a l.length c ∧ (l ≠ [] → ∃ b, a = some ⟨b, 0, none⟩ ∧ base ≤ b ∧ (∀ j (h : j < l.length) i, i < 8 → w.cell? ⟨b, j * 8 + i, none⟩ = (l[j].cells)[i]?) ∧ ∀ o, o < l.length * 8 → w.frozen? ⟨b, o, none⟩ = false)
  nil : v = .slice none 0 0 ↔ l = []

theorem flatS_get : ∀ (xs : List Slot) (t : Nat), t < xs.length * 8 → (flatS xs)[t]? = some ((slotEnc xs.toArray[t / 8]!)[t % 8]!)
  | [], t, h => by simp at h
  | x :: xs, t, h => by
    show (x.cells.toList ++ flatS xs)[t]? = _
    have hl : x.cells.toList.length = 8 := by simp [Slot.cells]
    by_cases h8 : t < 8
    · rw [List.getElem?_append_left (by omega), show t / 8 = 0 by omega, show t % 8 = t by omega]
      have e : (x :: xs).toArray[0]! = x := by simp
      rw [e]
      unfold slotEnc
      rw [List.getElem?_eq_getElem (by omega), getElem!_pos _ _ (by omega)]
    · rw [List.getElem?_append_right (by omega), hl]
      have ih := flatS_get xs (t - 8) (by simp at h; omega)
      rw [ih, show (t - 8) % 8 = t % 8 by omega]
      have e : (x :: xs).toArray[t / 8]! = xs.toArray[(t - 8) / 8]! := by
        have h1 : t / 8 = (t - 8) / 8 + 1 := by omega
        rw [h1]
        simp
      rw [e]

theorem holds_own {w : World} {g n : Nat} {xs : List Slot} {cur : Array Value} (hn : n = xs.length) (hg : w.heap[g]? = some (.cells cur 52 (0, 0))) (hcur : cur.toList.take (n * 8) = flatS xs) : HoldsK slotEnc 8 w g 0 xs.toArray := by
  subst hn
  intro j hj
  have hj' : j < xs.length * 8 := by simpa using hj
  have h1 : cur[j]? = (flatS xs)[j]? := by
    rw [← hcur, List.getElem?_take_of_lt hj', Array.getElem?_toList]
  constructor
  · rw [Nat.zero_add, Blk.cell (t := 52) (show Blk w g cur 52 from hg), h1, flatS_get xs j hj', get_flatK _ _ _ _ (by simpa using hj')]
    rfl
  · exact Blk.free (t := 52) (show Blk w g cur 52 from hg) _

theorem holds_slice {w : World} {base g cap n : Nat} {d : Array Slot} {l : List Slot} (hl : d.toList = l) (hn : n = l.length) (hb : base ≤ g) (hH : HoldsK slotEnc 8 w g 0 d) (hne : l ≠ []) : SlotSlice base w (.slice (some ⟨g, 0, none⟩) n cap) l := by
  subst hl
  subst hn
  refine ⟨⟨_, cap, rfl, fun _ => ⟨g, rfl, hb, fun j hj i hi => ?_, fun o ho => ?_⟩⟩, ⟨fun h => (by cases h), fun h => absurd h hne⟩⟩
  · have hs : j < d.size := by simpa using hj
    have := (hH (j * 8 + i) (by simp; omega)).1
    rw [Nat.zero_add, get_flatK _ _ _ _ (by omega)] at this
    rw [this, show (j * 8 + i) / 8 = j by omega, show (j * 8 + i) % 8 = i by omega]
    have e : d[j]! = d.toList[j] := by rw [getElem!_pos d j hs]; simp
    rw [e]
    unfold slotEnc
    have hi8 : i < (d.toList[j].cells.toList).length := by simp [Slot.cells]; omega
    show some ((d.toList[j].cells.toList)[i]!) = _
    rw [show ((d.toList[j].cells.toList)[i]!) = (d.toList[j].cells.toList)[i]'hi8 from getElem!_pos (d.toList[j].cells.toList) i hi8]
    simp
  · have := (hH o (by simp; simpa using ho)).2
    rwa [Nat.zero_add] at this

set_option maxHeartbeats 1000000 in
set_option maxRecDepth 100000 in
theorem collect (bx t mb c : Nat) (most clock : Int) (l : SMap) (w : World) (hb : w.cell? ⟨bx, 0, none⟩ = some (.pointer (some ⟨t, 0, none⟩))) (ht : TabAt w t mb most clock l c) (hok : TabOk l c) (hn0 : 0 ≤ clock) (hn1 : clock < 18446744073709551616) (hlen : (actives clock l).length ≤ 1000000) :
    Calls Try.prog 60 #[.func (.func 62) #[] #[.pointer (some ⟨bx, 0, none⟩)]] w fun e W' =>
      ∃ (v : Value) (xs : List Slot), e = .returned v ∧ xs.Perm (actives clock l) ∧ W'.ownsRow w.heap.size 52 8 v xs.length (flatS xs) ∧ (v = .slice none 0 0 ↔ xs = []) ∧ Ext w W' := by
  have HC := Lib.hid (append_seq bx t mb c most clock l w hb ht hok hn0 hn1 hlen)
  clear hb ht hok
  go_enter Try.func60, Try.ntmps60
  go_wp2_with fail
  refine HC.out.mono ?_
  rintro x w' ⟨v, xs, rfl, h1, h2, h3, h4⟩
  go_wp2
  go_ret
  exact ⟨v, xs, rfl, h1, h2, h3, h4⟩

set_option maxHeartbeats 1000000 in
set_option maxRecDepth 100000 in
theorem sorted_func (bx t mb c : Nat) (most clock : Int) (l : SMap) (w : World) (hb : w.cell? ⟨bx, 0, none⟩ = some (.pointer (some ⟨t, 0, none⟩))) (ht : TabAt w t mb most clock l c) (hok : TabOk l c) (hn0 : 0 ≤ clock) (hn1 : clock < 18446744073709551616) (hlen : (actives clock l).length ≤ 1000000) :
    Calls Try.prog 38 #[.func (.func 62) #[] #[.pointer (some ⟨bx, 0, none⟩)], .func (.func 40) #[] #[]] w fun e W' =>
      ∃ v : Value, e = .returned v ∧ SlotSlice w.heap.size W' v (slotsOf clock l) ∧ Ext w W' := by
  have HC := Lib.hid (collect bx t mb c most clock l w hb ht hok hn0 hn1 hlen)
  have HK := Lib.hid hok.keys
  clear hb ht hok
  go_enter Try.func38, Try.ntmps38
  go_wp2_with fail
  refine HC.out.mono ?_
  rintro x w1 ⟨v, xs, rfl, hperm, hown, hnil, hx⟩
  have hxl : xs.length = (slotsOf clock l).length := hperm.length_eq.trans (slotsOf_len clock l).symm
  by_cases hne : xs = []
  · obtain rfl := hnil.2 hne
    have hs0 : slotsOf clock l = [] := by
      rw [hne] at hxl
      exact List.length_eq_zero_iff.1 hxl.symm
    clear hown hnil
    go_wp2_with fail
    refine (show Calls Try.prog 61 #[.slice none 0 0, .func (.func 40) #[] #[]] w1 _ from AnyF.slices_SortFunc_none Try.sortSlots none 0 _ w1).mono ?_
    rintro x w2 ⟨rfl, rfl⟩
    go_wp2
    go_ret
    exact ⟨_, rfl, by rw [hs0]; exact ⟨⟨_, 0, rfl, fun h => absurd rfl h⟩, by simp⟩, hx⟩
  · obtain ⟨-, ⟨rfl, h0⟩ | ⟨g, cap, cur, rfl, hbg, hg, hnc, hcm, hcs, hcur⟩⟩ := hown
    · exact absurd (List.length_eq_zero_iff.1 h0) hne
    · have hH := holds_own (n := xs.length) rfl hg hcur
      have hgl : g < w1.heap.size := lt_of_block hg
      have hsz : xs.toArray.size < 4611686018427387904 := by
        have := hperm.length_eq
        simp
        omega
      have hcon := sort_slots g cap xs.toArray w1 hH hgl hsz
      have hsn : xs.toArray.size = xs.length := by simp
      rw [hsn] at hcon
      have HS := Lib.hid hcon
      have HXL := Lib.hid hxl
      clear hcon hcur hH hnil hxl
      go_wp2_with fail
      (with_reducible refine HS.out.mono ?_)
      rintro x w2 ⟨rfl, d', hd1, hd2, hd3, hd4, hd5⟩
      have hd2' : d'.toList.Perm xs := by simpa using hd2
      have hu := slotsOf_unique HK.out (hd2'.trans hperm) (by
        rw [List.pairwise_iff_getElem]
        intro i j hi hj hij
        have hi' : i < d'.size := by simpa using hi
        have hj' : j < d'.size := by simpa using hj
        have := hd3 i j hij (by omega)
        rw [getElem!_pos d' i hi', getElem!_pos d' j hj'] at this
        simpa using this)
      go_wp2
      go_ret
      exact ⟨_, rfl, holds_slice hu HXL.out hbg hd4 (fun q => hne (List.length_eq_zero_iff.1 (by rw [HXL.out, q]; rfl))), hx.own hd5 hbg⟩

set_option maxHeartbeats 1000000 in
set_option maxRecDepth 100000 in
theorem table_Slots (t mb c : Nat) (most clock : Int) (l : SMap) (w : World) (ht : TabAt w t mb most clock l c) (hok : TabOk l c) (hn0 : 0 ≤ clock) (hn1 : clock < 18446744073709551616) (hlen : l.length ≤ 1000000) :
    Calls Try.prog 18 #[.pointer (some ⟨t, 0, none⟩)] w fun e W' => ∃ v : Value, e = .returned v ∧ SlotSlice w.heap.size W' v (slotsOf clock l) ∧ Ext w W' := by
  have HT := Lib.hid ht
  have HO := Lib.hid hok
  have hal := actives_len clock l
  clear ht hok
  have hx0 : Ext w (w.alloc (.cells #[.pointer (some ⟨t, 0, none⟩)] 32)) := (Ext.refl w).alloc _
  have HC := Lib.hid (sorted_func w.heap.size t mb c most clock l _ ((Blk.new w #[.pointer (some ⟨t, 0, none⟩)] 32).cell 0) (HT.out.ext hx0) HO.out hn0 hn1 (by omega))
  go_enter Try.func18, Try.ntmps18
  go_wp2_with (first
    | (go_at_call 38; (with_reducible refine HC.out.mono ?_); rintro x w2 ⟨v, rfl, hs, hx⟩)
    | go_in)
  go_ret
  obtain ⟨⟨a, c', hv, hf⟩, hnil⟩ := hs
  exact ⟨v, rfl, ⟨⟨a, c', hv, fun hne => by obtain ⟨b, h1, h2, h3, h4⟩ := hf hne; exact ⟨b, h1, Nat.le_trans hx0.sz h2, h3, h4⟩⟩, hnil⟩, hx0.trans hx⟩
end Go.Proofs.Ytnlmbmbalmkiiaa

/- Plain laws: how many keys a table has; who is active. -/
namespace Go.Proofs.Ytnlmbmbalmkiiaa
set_option linter.unusedVariables false
set_option linter.unusedSimpArgs false

structure MostInv (l : SMap) (c : Nat) (n : Nat) (clock : Int) : Prop where
  ok : TabOk l c
  len : l.length ≤ n
  all : ∀ x ∈ l, ruleErr x.1.p x.1.e x.1.b x.1.rk = 0 ∧ x.1.e * x.1.b ≤ 2000 ∧ Sane x.1.sk x.1.sa x.1.sb clock (x.1.e * x.1.b)
theorem MostInv.nil (c n : Nat) (clock : Int) : MostInv [] c n clock := ⟨TabOk.nil c, by simp, fun x h => (by cases h)⟩
theorem MostInv.later {l : SMap} {c n : Nat} {clock now : Int} (h : MostInv l c n clock) (hn : clock ≤ now) : MostInv l c n now :=
  ⟨h.ok, h.len, fun x hx => by obtain ⟨a1, a2, a3⟩ := h.all x hx; exact ⟨a1, a2, a3.later hn⟩⟩

theorem hit_look {l : SMap} {k : ByteArray} {e b clock : Int} {s : Slot} (h : slotHit l k e b clock = some s) : l.look k = some s ∧ s.e = e ∧ s.b = b ∧ drained clock s = false := by
  unfold slotHit at h
  cases hl : l.look k with
  | none => rw [hl] at h; cases h
  | some s' =>
    rw [hl] at h
    simp only [Option.filter] at h
    split at h
    · rename_i q
      cases h
      simp at q
      exact ⟨rfl, q.1.1, q.1.2, by unfold drained; simpa using q.2⟩
    · cases h
theorem hit_of {l : SMap} {k : ByteArray} {e b clock : Int} {s : Slot} (hl : l.look k = some s) (he : s.e = e) (hb : s.b = b) (hd : drained clock s = false) : slotHit l k e b clock = some s := by
  unfold slotHit
  rw [hl]
  unfold drained at hd
  exact if_pos (by show (s.e == e && s.b == b && !(s.fill clock == 0)) = true; rw [hd, he, hb]; simp)

/-- was it active by these numbers -/
def wasIn (s : List Slot) (k : ByteArray) (e b : Int) : Bool := s.any fun x => decide (x.key = k) && decide (x.e = e) && decide (x.b = b)
def holdsK (s : List Slot) (k : ByteArray) : Bool := s.any fun x => decide (x.key = k)
theorem slotsOf_mem {clock : Int} {l : SMap} {s : Slot} : s ∈ slotsOf clock l ↔ s ∈ actives clock l := (slotsOf_perm clock l).mem_iff
theorem actives_iff {clock : Int} {l : SMap} {s : Slot} : s ∈ actives clock l ↔ (∃ n, (s, n) ∈ l) ∧ drained clock s = false := by
  unfold actives
  constructor
  · intro h
    obtain ⟨⟨a, b⟩, h1, rfl⟩ := List.mem_map.1 h
    have := List.mem_filter.1 h1
    exact ⟨⟨b, this.1⟩, by simpa using this.2⟩
  · rintro ⟨⟨n, hn⟩, hd⟩
    exact List.mem_map.2 ⟨(s, n), List.mem_filter.2 ⟨hn, by rw [hd]; rfl⟩, rfl⟩
theorem mem_look {l : SMap} (hk : l.keys.Nodup) {s : Slot} {n : Nat} (h : (s, n) ∈ l) : l.look s.key = some s := by
  cases hl : l.look s.key with
  | none => exact absurd rfl (look_none.1 hl _ h)
  | some s' =>
    obtain ⟨m, hm⟩ := look_mem hl
    have := key_eq hk hm h (look_key hl)
    cases this
    rfl
theorem was_iff {l : SMap} {c : Nat} (hok : TabOk l c) (k : ByteArray) (e b clock : Int) : wasIn (slotsOf clock l) k e b = (slotHit l k e b clock).isSome := by
  rw [Bool.eq_iff_iff]
  unfold wasIn
  rw [List.any_eq_true, Option.isSome_iff_exists]
  constructor
  · rintro ⟨s, hs, h⟩
    simp at h
    obtain ⟨⟨n, hn⟩, hd⟩ := actives_iff.1 (slotsOf_mem.1 hs)
    have := mem_look hok.keys hn
    rw [h.1.1] at this
    exact ⟨s, hit_of this h.1.2 h.2 hd⟩
  · rintro ⟨s, hs⟩
    obtain ⟨h1, h2, h3, h4⟩ := hit_look hs
    obtain ⟨n, hn⟩ := look_mem h1
    exact ⟨s, slotsOf_mem.2 (actives_iff.2 ⟨⟨n, hn⟩, h4⟩), by simp [look_key h1, h2, h3]⟩
theorem holds_iff {l : SMap} {c : Nat} (hok : TabOk l c) (k : ByteArray) (clock : Int) : holdsK (slotsOf clock l) k = true ↔ ∃ s, l.look k = some s ∧ drained clock s = false := by
  unfold holdsK
  rw [List.any_eq_true]
  constructor
  · rintro ⟨s, hs, h⟩
    simp at h
    obtain ⟨⟨n, hn⟩, hd⟩ := actives_iff.1 (slotsOf_mem.1 hs)
    have := mem_look hok.keys hn
    rw [h] at this
    exact ⟨s, this, hd⟩
  · rintro ⟨s, h1, h2⟩
    obtain ⟨n, hn⟩ := look_mem h1
    exact ⟨s, slotsOf_mem.2 (actives_iff.2 ⟨⟨n, hn⟩, h2⟩), by simp [look_key h1]⟩

theorem filter_len (clock : Int) (l : SMap) : (l.filter fun x => !drained clock x.1).length = (slotsOf clock l).length := by
  rw [slotsOf_len]; unfold actives; rw [List.length_map]
theorem del_len {l : SMap} (k : ByteArray) {s : Slot} (h : l.look k = some s) : (l.del k).length < l.length := by
  obtain ⟨n, hn⟩ := look_mem h
  have hkk := look_key h
  have := filter_lt (fun _ => true) (fun x : Slot × Nat => decide (x.1.key ≠ k)) (fun _ _ => rfl) (s, n) rfl (by simp [hkk]) l hn
  have e : (l.filter fun _ => true).length = l.length := by simp
  rw [e] at this
  exact this

/-- no room: just if all that may be are active, and the key is none of them -/
theorem full_iff {l : SMap} {c n : Nat} {clock : Int} (h : MostInv l c n clock) (k : ByteArray) (e b : Int) :
    chFull n clock l k e b = (!wasIn (slotsOf clock l) k e b && decide ((n : Int) ≤ ((slotsOf clock l).length : Int)) && !holdsK (slotsOf clock l) k) := by
  rw [was_iff h.ok]
  unfold chFull full
  cases hh : slotHit l k e b clock with
  | some s => rfl
  | none =>
    have hsl : slotLeft l k e b clock = l.del k := by unfold slotLeft; rw [hh]; rfl
    rw [hsl]
    simp only [Option.isSome_none, Bool.not_false, Bool.true_and]
    have hle : (slotsOf clock l).length ≤ l.length := by rw [slotsOf_len]; exact actives_len clock l
    have hn := h.len
    cases hl : l.look k with
    | some s =>
      have hd := del_len k hl
      have hr := room_small (clock := clock) (most := (n : Int)) (is := false) (l := l.del k) (by omega)
      have hr1 := hr.1
      simp only [hr1]
      rw [decide_eq_false (by omega : ¬ (n : Int) ≤ ((l.del k).length : Int))]
      cases hdr : drained clock s with
      | false => rw [(holds_iff h.ok k clock).2 ⟨s, hl, hdr⟩]; simp
      | true =>
        have : (slotsOf clock l).length < l.length := by
          rw [← filter_len]
          obtain ⟨m, hm⟩ := look_mem hl
          have := filter_lt (fun _ => true) (fun x : Slot × Nat => !drained clock x.1) (fun _ _ => rfl) (s, m) rfl (by simp [hdr]) l hm
          have e : (l.filter fun _ => true).length = l.length := by simp
          rw [e] at this
          exact this
        rw [decide_eq_false (by omega : ¬ (n : Int) ≤ ((slotsOf clock l).length : Int))]
        rfl
    | none =>
      have hd : l.del k = l := del_none (look_none.1 hl)
      have hho : holdsK (slotsOf clock l) k = false := by
        rw [Bool.eq_false_iff]
        intro q
        obtain ⟨s, h1, -⟩ := (holds_iff h.ok k clock).1 q
        rw [hl] at h1; cases h1
      rw [hd, hho]
      simp only [Bool.not_false, Bool.and_true]
      rw [decide_eq_decide]
      unfold roomed
      by_cases hc : (n : Int) ≤ (l.length : Int)
      · rw [if_pos ⟨rfl, hc⟩, filter_len]
      · rw [if_neg (fun q => hc q.2)]
        omega
end Go.Proofs.Ytnlmbmbalmkiiaa

/- Walks: tollerlaw14.Name, holds; Active. -/
namespace Go.Proofs.Ytnlmbmbalmkiiaa
open Go.RowKit
set_option linter.unusedVariables false
set_option linter.unusedSimpArgs false

def nameOf (d : Deed) : ByteArray := if 240 ≤ d.kind then ⟨#[]⟩ else if 2 < (keyText d.key).size ∧ d.kind < 200 then first1 (keyText d.key) else keyText d.key
theorem nameOf_ok (d : Deed) : (nameOf d = ⟨#[]⟩ ∨ keyOk (nameOf d) = true) ∧ (nameOf d).size ≤ 12 := by
  have h := keyText_ok d.key
  have h1 := first1_ok h.1
  unfold nameOf
  split
  · exact ⟨Or.inl rfl, by decide⟩
  · split
    · exact ⟨Or.inr h1.1, by omega⟩
    · exact ⟨Or.inr h.1, h.2⟩

set_option maxHeartbeats 1000000 in
set_option maxRecDepth 100000 in
theorem law14_Name (d : Deed) (w : World) (hd : DeedOk w d) :
    Calls Try.prog 17 #[.agg #[.int .u8 d.kind, .int .u32 d.wait, .int .u8 d.big, d.keyv, .int .u8 d.rule, .int .u16 d.n, .int .u8 d.to]] w fun x w' => x = .returned (.string (nameOf d)) ∧ Ext w w' := by
  have hk0 := hd.k0
  have hk1 := hd.k1
  have HK := Lib.hid hd.key
  have hkt := keyText_ok d.key
  have hksz : 1 ≤ (keyText d.key).size := by have := hkt.1; unfold keyOk at this; simp at this; omega
  have hks := hkt.2
  have hN : Hid (nameOf d = if 240 ≤ d.kind then ⟨#[]⟩ else if 2 < (keyText d.key).size ∧ d.kind < 200 then (keyText d.key).extract 0 1 else keyText d.key) := Lib.hid rfl
  generalize nameOf d = N at *
  generalize hkx : keyText d.key = kx at *
  have HKX := Lib.hid hkx
  have HW := Lib.hid (fun W (hx : Ext w W) => law09_Key d.keyv d.key W (HK.out.ext hx))
  clear hd hkt hkx
  generalize d.kind = dk at *
  generalize d.wait = dw at *
  generalize d.big = db at *
  generalize d.keyv = dkv at *
  generalize d.key = dkl at *
  generalize d.rule = dr at *
  generalize d.n = dn at *
  generalize d.to = dt at *
  have hx0 := (Ext.refl w).alloc (.cells #[.int .u8 dk, .int .u32 dw, .int .u8 db, dkv, .int .u8 dr, .int .u16 dn, .int .u8 dt] 40)
  have bq := Blk.new w #[.int .u8 dk, .int .u32 dw, .int .u8 db, dkv, .int .u8 dr, .int .u16 dn, .int .u8 dt] 40
  by_cases h1 : 240 ≤ dk
  · go_enter Try.func17, Try.ntmps17
    go_wp2
    go_ret
    exact ⟨ret_str (by rw [hN.out, if_pos h1]), hx0⟩
  · go_enter Try.func17, Try.ntmps17
    go_wp2_with fail
    refine (HW.out _ hx0).mono ?_
    rw [HKX.out]
    rintro x w1 ⟨rfl, hx1⟩
    have c0 : w1.cell? ⟨w.heap.size, 0, none⟩ = some (.int .u8 dk) := (bq.ext hx1).cell 0
    by_cases h2 : 2 < kx.size
    · by_cases h3 : dk < 200
      · go_wp2
        go_ret
        exact ⟨ret_str (by rw [hN.out, if_neg (by omega), if_pos (by omega)]), hx0.trans hx1⟩
      · go_wp2
        go_ret
        exact ⟨ret_str (by rw [hN.out, if_neg (by omega), if_neg (by omega)]), hx0.trans hx1⟩
    · go_wp2
      go_ret
      exact ⟨ret_str (by rw [hN.out, if_neg (by omega), if_neg (by omega)]), hx0.trans hx1⟩

theorem toList_beq (a b : ByteArray) : (a.toList == b.toList) = decide (a = b) := by
  rw [Bool.eq_iff_iff, beq_iff_eq, decide_eq_true_iff]
  constructor
  · intro h
    rw [ByteArray.toList_eq, ByteArray.toList_eq] at h
    exact ByteArray.ext (Array.toList_inj.1 h)
  · rintro rfl; rfl
/-- a slot's cells, where a walk looks for them -/
theorem slot_cells {base : Nat} {w w' : World} {a : Option Addr} {n c : Nat} {l : List Slot} (h : SlotSlice base w (.slice a n c) l) (e : Ext w w') (k : Nat) (hk : k < l.length) : ∃ b, a = some ⟨b, 0, none⟩ ∧ base ≤ b ∧ b < w.heap.size ∧ w'.cell? ⟨b, k * 8, none⟩ = some (.string l[k].key) ∧
    w'.cell? ⟨b, k * 8 + 2, none⟩ = some (.int .u64 l[k].e) ∧ w'.cell? ⟨b, k * 8 + 3, none⟩ = some (.int .u64 l[k].b) := by
  obtain ⟨a', c', hv, hf⟩ := h.form
  cases hv
  obtain ⟨b, h1, h2, h3, -⟩ := hf (fun q => by rw [q] at hk; simp at hk)
  have c0 : w.cell? ⟨b, k * 8, none⟩ = some (.string l[k].key) := h3 k hk 0 (by omega)
  exact ⟨b, h1, h2, cell_lt c0, e.keep c0, e.keep (h3 k hk 2 (by omega)), e.keep (h3 k hk 3 (by omega))⟩
theorem SlotSlice.size {base : Nat} {w : World} {v : Value} {l : List Slot} (h : SlotSlice base w v l) : ∃ a c, v = .slice a l.length c := by
  obtain ⟨a, c, hv, -⟩ := h.form
  exact ⟨a, c, hv⟩

theorem SlotSlice.extB {base g : Nat} {w w' : World} {v : Value} {l : List Slot} (h : SlotSlice base w v l) (e : ExtB g w w') (hg : g < base) : SlotSlice base w' v l := by
  obtain ⟨⟨a, c, hv, hf⟩, hn⟩ := h
  refine ⟨⟨a, c, hv, fun hne => ?_⟩, hn⟩
  obtain ⟨b, h1, h2, h3, h4⟩ := hf hne
  have hp : 0 < l.length := List.length_pos_iff.2 hne
  have c0 : w.cell? ⟨b, 0 * 8 + 0, none⟩ = some (.string l[0].key) := h3 0 hp 0 (by omega)
  have hb := e.block b (cell_lt c0) (by omega)
  refine ⟨b, h1, h2, fun j hj i hi => ?_, fun o ho => ?_⟩
  · rw [← h3 j hj i hi]; simp [World.cell?, hb]
  · rw [← h4 o ho]; simp [World.frozen?, hb]
theorem SlotSlice.ext {base : Nat} {w w' : World} {v : Value} {l : List Slot} (h : SlotSlice base w v l) (e : Ext w w') : SlotSlice base w' v l := by
  obtain ⟨⟨a, c, hv, hf⟩, hn⟩ := h
  refine ⟨⟨a, c, hv, fun hne => ?_⟩, hn⟩
  obtain ⟨b, h1, h2, h3, h4⟩ := hf hne
  have hp : 0 < l.length := List.length_pos_iff.2 hne
  have c0 : w.cell? ⟨b, 0 * 8 + 0, none⟩ = some (.string l[0].key) := h3 0 hp 0 (by omega)
  have hb := e.block (cell_lt c0)
  refine ⟨b, h1, h2, fun j hj i hi => ?_, fun o ho => ?_⟩
  · rw [← h3 j hj i hi]; simp [World.cell?, hb]
  · rw [← h4 o ho]; simp [World.frozen?, hb]

set_option maxHeartbeats 1000000 in
set_option maxRecDepth 100000 in
theorem law14_holds (base : Nat) (v : Value) (l : List Slot) (k : ByteArray) (w : World) (hv : SlotSlice base w v l) (hl : l.length ≤ 1000000) :
    Calls Try.prog 20 #[v, .string k] w fun x w' => x = .returned (.bool (holdsK l k)) ∧ w' = w := by
  obtain ⟨a, c, rfl⟩ := hv.size
  have HV := Lib.hid hv
  clear hv
  generalize hR : holdsK l k = R
  have HR := Lib.hid hR
  clear hR
  go_enter Try.func20, Try.ntmps20
  go_wp2
  go_loop [5] (fun i => ∃ j : Nat, j ≤ l.length ∧ i = .int .i64 j ∧ holdsK (l.take j) k = false) (fun i => l.length - (intOf i).toNat)
  case atStart => exact ⟨0, by omega, rfl, by simp [holdsK]⟩
  case round =>
    obtain ⟨j, hj, rfl, hno⟩ := hrel
    by_cases hlt : j < l.length
    · obtain ⟨b, rfl, -, hbl, c0, -, -⟩ := slot_cells HV.out (Ext.refl w) j hlt
      have hstep : holdsK (l.take (j + 1)) k = (holdsK (l.take j) k || decide (l[j].key = k)) := by
        unfold holdsK
        rw [List.take_succ_eq_append_getElem hlt, List.any_append]
        simp
      have hin : decide (l[j].key = k) = true → holdsK l k = true := fun q => by
        unfold holdsK
        rw [List.any_eq_true]
        exact ⟨l[j], List.getElem_mem _, q⟩
      have heq : (l[j].key.toList == k.toList) = decide (l[j].key = k) := toList_beq l[j].key k
      generalize l[j].key = kj at *
      have HST := Lib.hid hstep
      have HIN := Lib.hid hin
      have HNO := Lib.hid hno
      clear hstep hin hno
      by_cases hq : kj = k
      · rw [decide_eq_true hq] at heq
        have hRt : R = true := by rw [← HR.out, HIN.out (decide_eq_true hq)]
        subst hRt
        go_wp2
        go_ret
        exact ⟨rfl, rfl⟩
      · rw [decide_eq_false hq] at heq
        have hnx : holdsK (l.take (j + 1)) k = false := by rw [HST.out, HNO.out, decide_eq_false hq]; rfl
        have HNX := Lib.hid hnx
        clear hnx
        go_wp2
        exact ⟨⟨j + 1, by omega, by simp, HNX.out⟩, by show l.length - (intOf (.int .i64 ((j : Int) + 1))).toNat < l.length - (intOf (.int .i64 (j : Int))).toNat; show l.length - ((j : Int) + 1).toNat < l.length - (j : Int).toNat; omega⟩
    · have hfin : R = false := by rw [← HR.out, ← hno, List.take_of_length_le (by omega)]
      subst hfin
      go_wp2
      go_ret
      exact ⟨rfl, rfl⟩

set_option maxHeartbeats 1000000 in
set_option maxRecDepth 100000 in
theorem table_Active (t mb c : Nat) (most clock : Int) (l : SMap) (w : World) (ht : TabAt w t mb most clock l c) (hok : TabOk l c) (hn0 : 0 ≤ clock) (hn1 : clock < 18446744073709551616) (hlen : l.length ≤ 1000000) :
    Calls Try.prog 19 #[.pointer (some ⟨t, 0, none⟩)] w fun e W' => e = .returned (.int .i64 ((slotsOf clock l).length : Int)) ∧ Ext w W' := by
  have HS := Lib.hid (table_Slots t mb c most clock l w ht hok hn0 hn1 hlen)
  clear ht hok
  go_enter Try.func19, Try.ntmps19
  go_wp2_with fail
  refine HS.out.mono ?_
  rintro x w1 ⟨v, rfl, hv, hx⟩
  obtain ⟨a, c', rfl⟩ := hv.size
  have hN : Hid ((slotsOf clock l).length = (slotsOf clock l).length) := Lib.hid rfl
  generalize hNN : (slotsOf clock l).length = N at *
  have hNH := Lib.hid hNN
  clear hv hNN hN
  go_wp2
  go_ret
  exact ⟨by rw [hNH.out]; rfl, hx⟩
end Go.Proofs.Ytnlmbmbalmkiiaa

/- Plain laws: a charge of a table that has few keys; all are drained later. -/
namespace Go.Proofs.Ytnlmbmbalmkiiaa
set_option linter.unusedVariables false
set_option linter.unusedSimpArgs false

theorem chRoom_sub {most clock : Int} {l : SMap} {k : ByteArray} {e b : Int} : (∀ x ∈ chRoom most clock l k e b, x ∈ l) ∧ (chRoom most clock l k e b).length ≤ l.length := by
  have h1 : ∀ x ∈ slotLeft l k e b clock, x ∈ l := by
    unfold slotLeft
    split
    · exact fun x hx => hx
    · exact fun x hx => (List.mem_filter.1 hx).1
  have h2 := slotLeft_len l k e b clock
  unfold chRoom roomed
  split
  · exact ⟨fun x hx => h1 x (List.mem_filter.1 hx).1, Nat.le_trans (List.length_filter_le _ _) h2⟩
  · exact ⟨h1, h2⟩
theorem slotHit_mem {l : SMap} {k : ByteArray} {e b clock : Int} {s : Slot} (h : slotHit l k e b clock = some s) : ∃ n, (s, n) ∈ l := look_mem (hit_look h).1
theorem put_mem {l : SMap} {s : Slot} {c : Nat} {x : Slot × Nat} (h : x ∈ l.put s c) : x ∈ l ∨ x.1 = s := by
  unfold SMap.put at h
  split at h
  · obtain ⟨y, hy, rfl⟩ := List.mem_map.1 h
    split
    · exact Or.inr rfl
    · exact Or.inl hy
  · rcases List.mem_append.1 h with h | h
    · exact Or.inl h
    · obtain rfl := List.mem_singleton.1 h; exact Or.inr rfl
/-- where there is room a put does not go beyond it -/
theorem room_put {n c : Nat} {clock : Int} {l : SMap} {k : ByteArray} {e b : Int} {s : Slot} (hl : l.length ≤ n) (hs : s.key = k) (hf : ¬ chFull n clock l k e b = true) : ((chRoom n clock l k e b).put s c).length ≤ n := by
  have hr := (chRoom_sub (most := n) (clock := clock) (l := l) (k := k) (e := e) (b := b)).2
  unfold SMap.put
  split
  · unfold SMap.rep; rw [List.length_map]; omega
  · rename_i hq
    rw [List.length_append]
    simp only [List.length_cons, List.length_nil]
    cases hh : slotHit l k e b clock with
    | some s' =>
      exfalso
      apply hq
      have : chRoom n clock l k e b = l := by unfold chRoom roomed slotLeft; rw [hh]; simp
      rw [this, hs, (hit_look hh).1]
      rfl
    | none =>
      have hf' : ¬ full clock (slotLeft l k e b clock) false n = true := by unfold chFull at hf; rw [hh] at hf; exact hf
      have hrm : chRoom n clock l k e b = roomed clock (slotLeft l k e b clock) false n := by unfold chRoom; rw [hh]; rfl
      rw [hrm]
      unfold full at hf'
      simp at hf'
      omega
theorem chState_sane {l : SMap} {c n : Nat} {clock : Int} (h : MostInv l c n clock) {k p : ByteArray} {e b rk w : Int} (hr : ruleErr p e b rk = 0) (hb : clock + e * b < 18446744073709551616) (hn0 : 0 ≤ clock) (hw : 0 ≤ w) :
    let S := chgS clock (slotHit l k e b clock) k p e b rk w
    Sane S.sk S.sa S.sb clock (S.e * S.b) := by
  obtain ⟨-, he, hbb, -, hrk⟩ := ruleErr_zero hr
  have hc : 0 ≤ e * b := Int.mul_nonneg (by omega) (by omega)
  have hk : rk = 1 ∨ rk = 2 ∨ rk = 3 := by unfold rightKind at hrk; simp at hrk; omega
  have hW := satMul_u w e hw (by omega)
  have hs : Sane (chK (slotHit l k e b clock) rk) (chA (slotHit l k e b clock) rk clock (e * b)) (chB (slotHit l k e b clock) rk clock) clock (e * b) := by
    cases hh : slotHit l k e b clock with
    | none => exact (Sane.of hk hc hn0 hb).1
    | some s =>
      obtain ⟨m, hm⟩ := slotHit_mem hh
      have := (h.all _ hm).2.2
      obtain ⟨-, h1, h2, -⟩ := hit_look hh
      rw [h1, h2] at this
      exact this
  exact (hs.next (W := satMul w e) hc hn0 hW.1 hb).1
/-- a charge keeps it -/
theorem most_charge {l : SMap} {c n : Nat} {clock : Int} (h : MostInv l c n clock) {k p : ByteArray} {e b rk w : Int} (hr : ruleErr p e b rk = 0) (hcap : e * b ≤ 2000) (hb : clock + e * b < 18446744073709551616) (hn0 : 0 ≤ clock) (hw : 0 ≤ w)
    (hok : TabOk (cgL n clock l c k p e b rk w) (cgC n clock l c k p e b rk w)) : MostInv (cgL n clock l c k p e b rk w) (cgC n clock l c k p e b rk w) n clock := by
  have hS := chState_sane h (k := k) (p := p) (w := w) hr hb hn0 hw
  have hkey : (chgS clock (slotHit l k e b clock) k p e b rk w).key = k := rfl
  have hal : ruleErr (chgS clock (slotHit l k e b clock) k p e b rk w).p (chgS clock (slotHit l k e b clock) k p e b rk w).e (chgS clock (slotHit l k e b clock) k p e b rk w).b (chgS clock (slotHit l k e b clock) k p e b rk w).rk = 0 := hr
  have hcp : (chgS clock (slotHit l k e b clock) k p e b rk w).e * (chgS clock (slotHit l k e b clock) k p e b rk w).b ≤ 2000 := hcap
  have hsub := chRoom_sub (most := n) (clock := clock) (l := l) (k := k) (e := e) (b := b)
  have hlen := h.len
  refine ⟨hok, ?_, ?_⟩
  · unfold cgL
    split
    · exact hlen
    · split
      · exact hlen
      · unfold chargeL
        split
        · omega
        · rename_i hnf
          unfold chL
          split
          · exact room_put hlen rfl hnf
          · omega
  · intro x hx
    unfold cgL at hx
    split at hx
    · exact h.all x hx
    · split at hx
      · exact h.all x hx
      · unfold chargeL at hx
        split at hx
        · exact h.all x (hsub.1 x hx)
        · unfold chL at hx
          split at hx
          · rcases put_mem hx with q | q
            · exact h.all x (hsub.1 x q)
            · rw [q]; exact ⟨hr, hcap, chState_sane h hr hb hn0 hw⟩
          · exact h.all x (hsub.1 x hx)
/-- all are drained a millisecond later -/
theorem most_drained {l : SMap} {c n : Nat} {clock : Int} (h : MostInv l c n clock) (hn0 : 0 ≤ clock) (hn1 : clock < 1000000) : slotsOf (clock + 1000000) l = [] := by
  have : actives (clock + 1000000) l = [] := by
    rw [List.eq_nil_iff_forall_not_mem]
    intro s hs
    obtain ⟨⟨m, hm⟩, hd⟩ := actives_iff.1 hs
    obtain ⟨hr, hc, hsn⟩ := h.all _ hm
    obtain ⟨-, he, hbb, -, -⟩ := ruleErr_zero hr
    have hc0 : 0 ≤ s.e * s.b := Int.mul_nonneg (by simp only at he; omega) (by simp only at hbb; omega)
    simp only at hr hc hsn
    have h1 := hsn.fill_later (now := clock + 1000000) hc0 (by omega) hn0 (by omega) (by omega)
    have h2 := hsn.fill_le hc0 hn0
    unfold drained Slot.fill Slot.cap ruleCap at hd
    rw [if_pos hr, h1] at hd
    have h3 : satSub (kFill s.sk s.sa s.sb clock (s.e * s.b)) (clock + 1000000 - clock) = 0 := by unfold satSub; split <;> omega
    rw [h3] at hd
    simp at hd
  rw [← List.length_eq_zero_iff, slotsOf_len, this]
  rfl
/-- what is told of a right key -/
theorem cgV_code {most clock : Int} {l : SMap} {k p : ByteArray} {e b rk w : Int} (hk : keyOk k = true) (hr : ruleErr p e b rk = 0) : ∃ (code err limit left reset aft nan : Int) (ret : Bool), cgV most clock l k p e b rk w = ansV code err limit left reset aft nan ret ∧
    code = if chFull most clock l k e b then 3 else chCode (chgOk clock (slotHit l k e b clock) e b rk w) := by
  unfold cgV
  rw [if_neg (by rw [hk]; decide), if_neg (fun q => q hr)]
  unfold chargeV
  split
  · exact ⟨_, _, _, _, _, _, _, _, rfl, rfl⟩
  · exact ⟨_, _, _, _, _, _, _, _, rfl, rfl⟩
/-- what is told of a key that came or not, by what was asked ahead -/
theorem most_told {l : SMap} {c n : Nat} {clock : Int} (h : MostInv l c n clock) {k p : ByteArray} {e b rk w : Int} (hk : keyOk k = true) (hr : ruleErr p e b rk = 0) : ∃ (code err limit left reset aft nan : Int) (ret : Bool), cgV n clock l k p e b rk w = ansV code err limit left reset aft nan ret ∧
    0 ≤ code ∧ code < 256 ∧ (code == 3) = (!wasIn (slotsOf clock l) k e b && decide ((n : Int) ≤ ((slotsOf clock l).length : Int)) && !holdsK (slotsOf clock l) k) := by
  obtain ⟨code, err, limit, left, reset, aft, nan, ret, hv, hc⟩ := cgV_code (most := n) (clock := clock) (l := l) (w := w) hk hr
  refine ⟨code, err, limit, left, reset, aft, nan, ret, hv, ?_⟩
  rw [← full_iff h k e b]
  cases hf : chFull n clock l k e b with
  | true => rw [hf] at hc; simp at hc; rw [hc]; decide
  | false =>
    rw [hf] at hc
    simp at hc
    unfold chCode at hc
    split at hc <;> rw [hc] <;> decide
/-- once all are drained a new one is admitted -/
theorem most_new {l : SMap} {c n : Nat} {clock : Int} (h : MostInv l c n clock) {k p : ByteArray} {e b rk : Int} (hk : keyOk k = true) (hr : ruleErr p e b rk = 0) (hd : slotsOf clock l = []) (hn : 1 ≤ n) (hn0 : 0 ≤ clock) (hb : clock + e * b < 18446744073709551616) :
    ∃ (err limit left reset aft nan : Int) (ret : Bool), cgV n clock l k p e b rk 1 = ansV 1 err limit left reset aft nan ret := by
  obtain ⟨-, he, hbb, -, hrk⟩ := ruleErr_zero hr
  have hc : e ≤ e * b := by
    have := Int.mul_le_mul_of_nonneg_left (show (1 : Int) ≤ b by omega) (show 0 ≤ e by omega)
    omega
  have hkk : rk = 1 ∨ rk = 2 ∨ rk = 3 := by unfold rightKind at hrk; simp at hrk; omega
  have hnh : slotHit l k e b clock = none := by
    cases hh : slotHit l k e b clock with
    | none => rfl
    | some s =>
      obtain ⟨m, hm⟩ := slotHit_mem hh
      have := slotsOf_mem.2 (actives_iff.2 ⟨⟨m, hm⟩, (hit_look hh).2.2.2⟩)
      rw [hd] at this
      cases this
  obtain ⟨code, err, limit, left, reset, aft, nan, ret, hv, hcd⟩ := cgV_code (most := n) (clock := clock) (l := l) (w := 1) hk hr
  have hnf : chFull n clock l k e b = false := by
    rw [full_iff h, hd]
    simp
    omega
  have hw1 : satMul 1 e = e := by unfold satMul; split <;> omega
  have hof := Sane.of hkk (cap := e * b) (by omega) hn0 hb
  have hgo : chgOk clock (slotHit l k e b clock) e b rk 1 = true := by
    rw [hnh]
    unfold chgOk
    rw [hw1]
    show kOk rk (kOfA rk clock (e * b) 0) (kOfB rk clock) clock (e * b) e = true
    rw [hof.1.ok (by omega) hn0 (by omega), hof.2]
    simp
    omega
  rw [hnf, hgo] at hcd
  simp [chCode] at hcd
  subst hcd
  exact ⟨err, limit, left, reset, aft, nan, ret, hv⟩
theorem rule_low {j : Int} (h : j = 0 ∨ j = 1) : ruleErr (rP j) (rE j) (rB j) (rK j) = 0 ∧ rE j * rB j ≤ 2000 := by
  rcases h with rfl | rfl <;> decide
theorem most_any {l : SMap} {c n : Nat} {clock : Int} (h : MostInv l c n clock) {k p : ByteArray} {e b rk w : Int} (hk : k = ⟨#[]⟩ ∨ keyOk k = true) (hr : ruleErr p e b rk = 0) : ∃ (code err limit left reset aft nan : Int) (ret : Bool), cgV n clock l k p e b rk w = .agg #[.int .u8 code, .int .u16 err, .int .u64 limit, .int .u64 left, .int .u64 reset, .int .u64 aft, .int .u64 nan, .bool ret, .int .i64 0, .slice none 0 0] ∧
    0 ≤ code ∧ code < 256 ∧ (k = ⟨#[]⟩ ∨ k ≠ ⟨#[]⟩ ∧ (code == 3) = (!wasIn (slotsOf clock l) k e b && decide ((n : Int) ≤ ((slotsOf clock l).length : Int)) && !holdsK (slotsOf clock l) k)) := by
  rcases hk with rfl | hk
  · unfold cgV
    rw [if_pos (by decide)]
    exact ⟨5, 12, 0, 0, 0, 0, 0, false, rfl, by decide, by decide, Or.inl rfl⟩
  · obtain ⟨code, err, limit, left, reset, aft, nan, ret, hv, h0, h1, h2⟩ := most_told h (w := w) hk hr
    exact ⟨code, err, limit, left, reset, aft, nan, ret, hv, h0, h1, Or.inr ⟨fun q => by rw [q] at hk; revert hk; decide, h2⟩⟩
end Go.Proofs.Ytnlmbmbalmkiiaa

/- Rows of elements of any make, in memory of the call's own. -/
namespace Go.Proofs.Ytnlmbmbalmkiiaa
open Go.RowKit
set_option linter.unusedVariables false
set_option linter.unusedSimpArgs false

/-- the cells of a list of elements -/
def flatE {α : Type} (enc : α → Array Value) (l : List α) : List Value := l.flatMap fun x => (enc x).toList
theorem flatE_nil {α : Type} (enc : α → Array Value) : flatE enc [] = [] := rfl
theorem flatE_snoc {α : Type} (enc : α → Array Value) (l : List α) (x : α) : flatE enc (l ++ [x]) = flatE enc l ++ (enc x).toList := by unfold flatE; rw [List.flatMap_append]; simp
theorem flatE_len {α : Type} {enc : α → Array Value} {k : Nat} (hk : ∀ x, (enc x).size = k) (l : List α) : (flatE enc l).length = l.length * k := by
  induction l with
  | nil => simp [flatE]
  | cons s l ih =>
    show ((enc s).toList ++ flatE enc l).length = _
    rw [List.length_append, ih, List.length_cons, Array.length_toList, hk, Nat.add_mul]
    omega
theorem flatE_get {α : Type} {enc : α → Array Value} {k : Nat} (hk : ∀ x, (enc x).size = k) : ∀ (l : List α) (j i : Nat) (h : j < l.length), i < k → (flatE enc l)[j * k + i]? = (enc l[j])[i]?
  | [], j, i, h, _ => by simp at h
  | x :: l, 0, i, h, hi => by
    show ((enc x).toList ++ flatE enc l)[0 * k + i]? = _
    rw [List.getElem?_append_left (by rw [Array.length_toList, hk]; omega)]
    simp
  | x :: l, j + 1, i, h, hi => by
    show ((enc x).toList ++ flatE enc l)[(j + 1) * k + i]? = _
    have e : (j + 1) * k + i = j * k + i + k := by rw [Nat.add_mul]; omega
    rw [List.getElem?_append_right (by rw [Array.length_toList, hk, e]; omega), Array.length_toList, hk, e, Nat.add_sub_cancel]
    have := flatE_get hk l j i (by simpa using h) hi
    simpa using this

theorem own_ext {w w' : World} {base k n : Nat} {E : TypeId} {v : Value} {xs : List Value} (h : w.ownsRow base E k v n xs) (e : Ext w w') : w'.ownsRow base E k v n xs := by
  obtain ⟨h0, h | ⟨g, cap, cur, h1, h2, h3, h4, h5, h6, h7⟩⟩ := h
  · exact ⟨h0, Or.inl h⟩
  · exact ⟨h0, Or.inr ⟨g, cap, cur, h1, h2, (e.block (lt_of_block h3)).trans h3, h4, h5, h6, h7⟩⟩
theorem own_extB {w w' : World} {base k n b : Nat} {E : TypeId} {v : Value} {xs : List Value} (h : w.ownsRow base E k v n xs) (e : ExtB b w w') (hb : b < base) : w'.ownsRow base E k v n xs := by
  obtain ⟨h0, h | ⟨g, cap, cur, h1, h2, h3, h4, h5, h6, h7⟩⟩ := h
  · exact ⟨h0, Or.inl h⟩
  · exact ⟨h0, Or.inr ⟨g, cap, cur, h1, h2, (e.block _ (lt_of_block h3) (by omega)).trans h3, h4, h5, h6, h7⟩⟩

/-- a slice of its own that reads as a list -/
structure RowOf {α : Type} (enc : α → Array Value) (k : Nat) (E : TypeId) (base : Nat) (w : World) (v : Value) (l : List α) : Prop where
  own : w.ownsRow base E k v l.length (flatE enc l)
  nil : v = .slice none 0 0 ↔ l = []
section
variable {α : Type} {enc : α → Array Value} {k : Nat} {E : TypeId} {base : Nat} {w w' : World} {v : Value} {l : List α}
theorem RowOf.empty (enc : α → Array Value) (k : Nat) (E : TypeId) (base : Nat) (w : World) : RowOf enc k E base w (.slice none 0 0) [] := ⟨World.ownsRow_nil _ _ _ _, by simp⟩
theorem RowOf.ext (h : RowOf enc k E base w v l) (e : Ext w w') : RowOf enc k E base w' v l := ⟨own_ext h.own e, h.nil⟩
theorem RowOf.extB {b : Nat} (h : RowOf enc k E base w v l) (e : ExtB b w w') (hb : b < base) : RowOf enc k E base w' v l := ⟨own_extB h.own e hb, h.nil⟩
theorem RowOf.low {b : Nat} (h : RowOf enc k E base w v l) (hb : b ≤ base) : RowOf enc k E b w v l := by
  obtain ⟨⟨h0, h | ⟨g, cap, cur, h1, h2, h3⟩⟩, hn⟩ := h
  · exact ⟨⟨h0, Or.inl h⟩, hn⟩
  · exact ⟨⟨h0, Or.inr ⟨g, cap, cur, h1, Nat.le_trans hb h2, h3⟩⟩, hn⟩
theorem RowOf.size (h : RowOf enc k E base w v l) : ∃ a c, v = .slice a l.length c := by
  obtain ⟨⟨-, ⟨rfl, h0⟩ | ⟨g, cap, cur, h1, -⟩⟩, -⟩ := h
  · exact ⟨none, 0, by rw [h0]⟩
  · exact ⟨_, cap, h1⟩
theorem RowOf.len (h : RowOf enc k E base w v l) : l.length ≤ maxLen := by
  obtain ⟨⟨-, ⟨-, h0⟩ | ⟨g, cap, cur, h1, h2, h3, h4, h5, -⟩⟩, -⟩ := h
  · omega
  · omega
theorem RowOf.cells (hk : ∀ x, (enc x).size = k) (h : RowOf enc k E base w v l) (j : Nat) (hj : j < l.length) : ∃ b c, v = .slice (some ⟨b, 0, none⟩) l.length c ∧ base ≤ b ∧ b < w.heap.size ∧ ∀ i, i < k → w.cell? ⟨b, j * k + i, none⟩ = (enc l[j])[i]? := by
  obtain ⟨⟨-, ⟨-, h0⟩ | ⟨g, cap, cur, h1, h2, h3, h4, h5, h6, h7⟩⟩, -⟩ := h
  · omega
  · refine ⟨g, cap, h1, h2, lt_of_block h3, fun i hi => ?_⟩
    rw [Blk.cell (t := E) (show Blk w g cur E from h3), ← flatE_get hk l j i hj hi, ← h7]
    have : j * k + i < l.length * k := by
      have : (j + 1) * k ≤ l.length * k := Nat.mul_le_mul_right k (by omega)
      rw [Nat.add_mul] at this
      omega
    rw [List.getElem?_take_of_lt this, Array.getElem?_toList]
end
/-- what has been appended to -/
theorem RowOf.mk' {α : Type} {enc : α → Array Value} {k : Nat} {E : TypeId} {base n : Nat} {w : World} {v : Value} {l : List α} {xs : List Value} (h : w.ownsRow base E k v n xs) (hn : n = l.length) (hx : xs = flatE enc l) (hne : v = .slice none 0 0 ↔ l = []) : RowOf enc k E base w v l := by
  subst hn; subst hx; exact ⟨h, hne⟩
theorem Ext.grownAt {x y z : World} {base k n : Nat} {e : TypeId} {v : Value} {xs : List Value} (h : Ext x y) (o : y.ownsRow base e k v n xs) (hb : x.heap.size ≤ base) (g : y.grownBy z v.ownBlock) : Ext x z := by
  refine Below.grown h g h.sz fun r hr => ?_
  obtain ⟨-, ⟨rfl, -⟩ | ⟨g', cap, cur, rfl, h2, -⟩⟩ := o
  · cases hr
  · cases hr; exact Nat.le_trans hb h2
/-- new cells, where a law looks for them -/
theorem blk_news {w : World} {b : Nat} {C : Array Value} {t : TypeId} (h : Blk w b C t) : ∀ j u, C.toList[j]? = some u → w.cell? ((⟨b, 0, none⟩ : Addr).add j) = some u := by
  intro j u hu
  have e : ((⟨b, 0, none⟩ : Addr).add j) = ⟨b, 0 + j, none⟩ := by unfold Addr.add; split <;> simp_all
  rw [e, Nat.zero_add, h.cell]
  simpa using hu
end Go.Proofs.Ytnlmbmbalmkiiaa
