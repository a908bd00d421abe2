/- Walks: Slots, Active: the active slots, in the order of their keys. Plain laws: how many keys a table has; who is active. -/
import Derived.Shelf.SlSortCmp.NoneTotal
import Derived.Test.YtknlojlcahgnoaaGreatEb32
import Derived.Test.YtknlojlcahgnoaaGreatEb29
import Derived.Test.YtknlojlcahgnoaaGreatEb35

namespace Go.Proofs.YtknlojlcahgnoaaGreat
open Go.RowKit Go.Shelf Go.Sort
set_option linter.unusedVariables false
set_option linter.unusedSimpArgs false

/-- the active slots in the order of their keys -/
def slotsOf (clock : Int) (l : SMap) : List Slot := (actives clock l).mergeSort fun x y => decide (x.key.toList ≤ y.key.toList)
theorem slotsOf_perm (clock : Int) (l : SMap) : (slotsOf clock l).Perm (actives clock l) := List.mergeSort_perm _ _
theorem slotsOf_len (clock : Int) (l : SMap) : (slotsOf clock l).length = (actives clock l).length := (slotsOf_perm clock l).length_eq
theorem actives_len (clock : Int) (l : SMap) : (actives clock l).length ≤ l.length := by
  unfold actives; rw [List.length_map]; exact List.length_filter_le _ _
theorem actives_mem {clock : Int} {l : SMap} {s : Slot} (h : s ∈ actives clock l) : ∃ n, (s, n) ∈ l := by
  unfold actives at h
  obtain ⟨⟨a, b⟩, h1, rfl⟩ := List.mem_map.1 h
  exact ⟨b, (List.mem_filter.1 h1).1⟩
theorem actives_key {clock : Int} {l : SMap} (hk : l.keys.Nodup) {x y : Slot} (hx : x ∈ actives clock l) (hy : y ∈ actives clock l) (h : x.key = y.key) : x = y := by
  obtain ⟨n, hn⟩ := actives_mem hx
  obtain ⟨m, hm⟩ := actives_mem hy
  have := key_eq hk hn hm h
  cases this
  rfl
theorem toList_inj {a b : ByteArray} (h : a.toList = b.toList) : a = b := by
  rw [ByteArray.toList_eq, ByteArray.toList_eq] at h
  cases a; cases b
  simp at h
  subst h
  rfl
theorem slotsOf_unique {clock : Int} {l : SMap} (hk : l.keys.Nodup) {xs : List Slot} (hp : xs.Perm (actives clock l)) (hs : xs.Pairwise fun x y => x.key.toList ≤ y.key.toList) : xs = slotsOf clock l := by
  refine List.Perm.eq_of_pairwise (le := fun x y : Slot => x.key.toList ≤ y.key.toList) ?_ hs ?_ (hp.trans (slotsOf_perm clock l).symm)
  · intro a b ha hb h1 h2
    exact actives_key hk (hp.mem_iff.1 ha) ((slotsOf_perm clock l).mem_iff.1 hb) (toList_inj (List.le_antisymm h1 h2))
  · have := List.pairwise_mergeSort (le := fun x y : Slot => decide (x.key.toList ≤ y.key.toList)) (fun a b c h1 h2 => by simp only [decide_eq_true_eq] at *; exact List.le_trans h1 h2) (fun a b => by simp only [Bool.or_eq_true, decide_eq_true_eq]; exact List.le_total _ _) (actives clock l)
    exact this.imp (fun h => by simpa using h)

/-- a slice of slots in memory of its own -/
structure SlotSlice (base : Nat) (w : World) (v : Value) (l : List Slot) : Prop where
  form : ∃ a c, v = .slice a l.length c ∧ (l ≠ [] → ∃ b, a = some ⟨b, 0, none⟩ ∧ base ≤ b ∧ (∀ j (h : j < l.length) i, i < 8 → w.cell? ⟨b, j * 8 + i, none⟩ = (l[j].cells)[i]?) ∧ ∀ o, o < l.length * 8 → w.frozen? ⟨b, o, none⟩ = false)
  nil : v = .slice none 0 0 ↔ l = []

theorem flatS_get : ∀ (xs : List Slot) (t : Nat), t < xs.length * 8 → (flatS xs)[t]? = some ((slotEnc xs.toArray[t / 8]!)[t % 8]!)
  | [], t, h => by simp at h
  | x :: xs, t, h => by
    show (x.cells.toList ++ flatS xs)[t]? = _
    have hl : x.cells.toList.length = 8 := by simp [Slot.cells]
    by_cases h8 : t < 8
    · rw [List.getElem?_append_left (by omega), show t / 8 = 0 by omega, show t % 8 = t by omega]
      have e : (x :: xs).toArray[0]! = x := by simp
      rw [e]
      unfold slotEnc
      rw [List.getElem?_eq_getElem (by omega), getElem!_pos _ _ (by omega)]
    · rw [List.getElem?_append_right (by omega), hl]
      have ih := flatS_get xs (t - 8) (by simp at h; omega)
      rw [ih, show (t - 8) % 8 = t % 8 by omega]
      have e : (x :: xs).toArray[t / 8]! = xs.toArray[(t - 8) / 8]! := by
        have h1 : t / 8 = (t - 8) / 8 + 1 := by omega
        rw [h1]
        simp
      rw [e]

theorem holds_own {w : World} {g n : Nat} {xs : List Slot} {cur : Array Value} (hn : n = xs.length) (hg : w.heap[g]? = some (.cells cur 145 (0, 0))) (hcur : cur.toList.take (n * 8) = flatS xs) : HoldsK slotEnc 8 w g 0 xs.toArray := by
  subst hn
  intro j hj
  have hj' : j < xs.length * 8 := by simpa using hj
  have h1 : cur[j]? = (flatS xs)[j]? := by
    rw [← hcur, List.getElem?_take_of_lt hj', Array.getElem?_toList]
  constructor
  · rw [Nat.zero_add, Blk.cell (t := 145) (show Blk w g cur 145 from hg), h1, flatS_get xs j hj', get_flatK _ _ _ _ (by simpa using hj')]
    rfl
  · exact Blk.free (t := 145) (show Blk w g cur 145 from hg) _

theorem holds_slice {w : World} {base g cap n : Nat} {d : Array Slot} {l : List Slot} (hl : d.toList = l) (hn : n = l.length) (hb : base ≤ g) (hH : HoldsK slotEnc 8 w g 0 d) (hne : l ≠ []) : SlotSlice base w (.slice (some ⟨g, 0, none⟩) n cap) l := by
  subst hl
  subst hn
  refine ⟨⟨_, cap, rfl, fun _ => ⟨g, rfl, hb, fun j hj i hi => ?_, fun o ho => ?_⟩⟩, ⟨fun h => (by cases h), fun h => absurd h hne⟩⟩
  · have hs : j < d.size := by simpa using hj
    have := (hH (j * 8 + i) (by simp; omega)).1
    rw [Nat.zero_add, get_flatK _ _ _ _ (by omega)] at this
    rw [this, show (j * 8 + i) / 8 = j by omega, show (j * 8 + i) % 8 = i by omega]
    have e : d[j]! = d.toList[j] := by rw [getElem!_pos d j hs]; simp
    rw [e]
    unfold slotEnc
    have hi8 : i < (d.toList[j].cells.toList).length := by simp [Slot.cells]; omega
    show some ((d.toList[j].cells.toList)[i]!) = _
    rw [show ((d.toList[j].cells.toList)[i]!) = (d.toList[j].cells.toList)[i]'hi8 from getElem!_pos (d.toList[j].cells.toList) i hi8]
    simp
  · have := (hH o (by simp; simpa using ho)).2
    rwa [Nat.zero_add] at this

set_option maxHeartbeats 1000000 in
set_option maxRecDepth 100000 in
theorem collect (bx t mb c : Nat) (most clock : Int) (l : SMap) (w : World) (hb : w.cell? ⟨bx, 0, none⟩ = some (.pointer (some ⟨t, 0, none⟩))) (ht : TabAt w t mb most clock l c) (hok : TabOk l c) (hn0 : 0 ≤ clock) (hn1 : clock < 18446744073709551616) (hlen : (actives clock l).length ≤ 1000000) :
    Calls Tryz.prog 163 #[.func (.func 165) #[] #[.pointer (some ⟨bx, 0, none⟩)]] w fun e W' =>
      ∃ (v : Value) (xs : List Slot), e = .returned v ∧ xs.Perm (actives clock l) ∧ W'.ownsRow w.heap.size 145 8 v xs.length (flatS xs) ∧ (v = .slice none 0 0 ↔ xs = []) ∧ Ext w W' := by
  have HC := Lib.hid (append_seq bx t mb c most clock l w hb ht hok hn0 hn1 hlen)
  clear hb ht hok
  go_enter Tryz.func163, Tryz.ntmps163
  go_wp2_with fail
  refine HC.out.mono ?_
  rintro x w' ⟨v, xs, rfl, h1, h2, h3, h4⟩
  go_wp2
  go_ret
  exact ⟨v, xs, rfl, h1, h2, h3, h4⟩

set_option maxHeartbeats 1000000 in
set_option maxRecDepth 100000 in
theorem sorted_func (bx t mb c : Nat) (most clock : Int) (l : SMap) (w : World) (hb : w.cell? ⟨bx, 0, none⟩ = some (.pointer (some ⟨t, 0, none⟩))) (ht : TabAt w t mb most clock l c) (hok : TabOk l c) (hn0 : 0 ≤ clock) (hn1 : clock < 18446744073709551616) (hlen : (actives clock l).length ≤ 1000000) :
    Calls Tryz.prog 118 #[.func (.func 165) #[] #[.pointer (some ⟨bx, 0, none⟩)], .func (.func 120) #[] #[]] w fun e W' =>
      ∃ v : Value, e = .returned v ∧ SlotSlice w.heap.size W' v (slotsOf clock l) ∧ Ext w W' := by
  have HC := Lib.hid (collect bx t mb c most clock l w hb ht hok hn0 hn1 hlen)
  have HK := Lib.hid hok.keys
  clear hb ht hok
  go_enter Tryz.func118, Tryz.ntmps118
  go_wp2_with fail
  refine HC.out.mono ?_
  rintro x w1 ⟨v, xs, rfl, hperm, hown, hnil, hx⟩
  have hxl : xs.length = (slotsOf clock l).length := hperm.length_eq.trans (slotsOf_len clock l).symm
  by_cases hne : xs = []
  · obtain rfl := hnil.2 hne
    have hs0 : slotsOf clock l = [] := by
      rw [hne] at hxl
      exact List.length_eq_zero_iff.1 hxl.symm
    clear hown hnil
    go_wp2_with fail
    refine (show Calls Tryz.prog 164 #[.slice none 0 0, .func (.func 120) #[] #[]] w1 _ from AnyF.slices_SortFunc_none Tryz.sortSlots none 0 _ w1).mono ?_
    rintro x w2 ⟨rfl, rfl⟩
    go_wp2
    go_ret
    exact ⟨_, rfl, by rw [hs0]; exact ⟨⟨_, 0, rfl, fun h => absurd rfl h⟩, by simp⟩, hx⟩
  · obtain ⟨-, ⟨rfl, h0⟩ | ⟨g, cap, cur, rfl, hbg, hg, hnc, hcm, hcs, hcur⟩⟩ := hown
    · exact absurd (List.length_eq_zero_iff.1 h0) hne
    · have hH := holds_own (n := xs.length) rfl hg hcur
      have hgl : g < w1.heap.size := lt_of_block hg
      have hsz : xs.toArray.size < 4611686018427387904 := by
        have := hperm.length_eq
        simp
        omega
      have hcon := sort_slots g cap xs.toArray w1 hH hgl hsz
      have hsn : xs.toArray.size = xs.length := by simp
      rw [hsn] at hcon
      have HS := Lib.hid hcon
      have HXL := Lib.hid hxl
      clear hcon hcur hH hnil hxl
      go_wp2_with fail
      (with_reducible refine HS.out.mono ?_)
      rintro x w2 ⟨rfl, d', hd1, hd2, hd3, hd4, hd5⟩
      have hd2' : d'.toList.Perm xs := by simpa using hd2
      have hu := slotsOf_unique HK.out (hd2'.trans hperm) (by
        rw [List.pairwise_iff_getElem]
        intro i j hi hj hij
        have hi' : i < d'.size := by simpa using hi
        have hj' : j < d'.size := by simpa using hj
        have := hd3 i j hij (by omega)
        rw [getElem!_pos d' i hi', getElem!_pos d' j hj'] at this
        simpa using this)
      go_wp2
      go_ret
      exact ⟨_, rfl, holds_slice hu HXL.out hbg hd4 (fun q => hne (List.length_eq_zero_iff.1 (by rw [HXL.out, q]; rfl))), hx.own hd5 hbg⟩

set_option maxHeartbeats 1000000 in
set_option maxRecDepth 100000 in
theorem table_Slots (t mb c : Nat) (most clock : Int) (l : SMap) (w : World) (ht : TabAt w t mb most clock l c) (hok : TabOk l c) (hn0 : 0 ≤ clock) (hn1 : clock < 18446744073709551616) (hlen : l.length ≤ 1000000) :
    Calls Tryz.prog 60 #[.pointer (some ⟨t, 0, none⟩)] w fun e W' => ∃ v : Value, e = .returned v ∧ SlotSlice w.heap.size W' v (slotsOf clock l) ∧ Ext w W' := by
  have HT := Lib.hid ht
  have HO := Lib.hid hok
  have hal := actives_len clock l
  clear ht hok
  have hx0 : Ext w (w.alloc (.cells #[.pointer (some ⟨t, 0, none⟩)] 63)) := (Ext.refl w).alloc _
  have HC := Lib.hid (sorted_func w.heap.size t mb c most clock l _ ((Blk.new w #[.pointer (some ⟨t, 0, none⟩)] 63).cell 0) (HT.out.ext hx0) HO.out hn0 hn1 (by omega))
  go_enter Tryz.func60, Tryz.ntmps60
  go_wp2_with (first
    | (go_at_call 118; (with_reducible refine HC.out.mono ?_); rintro x w2 ⟨v, rfl, hs, hx⟩)
    | go_in)
  go_ret
  obtain ⟨⟨a, c', hv, hf⟩, hnil⟩ := hs
  exact ⟨v, rfl, ⟨⟨a, c', hv, fun hne => by obtain ⟨b, h1, h2, h3, h4⟩ := hf hne; exact ⟨b, h1, Nat.le_trans hx0.sz h2, h3, h4⟩⟩, hnil⟩, hx0.trans hx⟩
end Go.Proofs.YtknlojlcahgnoaaGreat

namespace Go.Proofs.YtknlojlcahgnoaaGreat
set_option linter.unusedVariables false
set_option linter.unusedSimpArgs false

structure MostInv (l : SMap) (c : Nat) (n : Nat) (clock : Int) : Prop where
  ok : TabOk l c
  len : l.length ≤ n
  all : ∀ x ∈ l, ruleErr x.1.p x.1.e x.1.b x.1.rk = 0 ∧ x.1.e * x.1.b ≤ 2000 ∧ Sane x.1.sk x.1.sa x.1.sb clock (x.1.e * x.1.b)
theorem MostInv.nil (c n : Nat) (clock : Int) : MostInv [] c n clock := ⟨TabOk.nil c, by simp, fun x h => (by cases h)⟩
theorem MostInv.later {l : SMap} {c n : Nat} {clock now : Int} (h : MostInv l c n clock) (hn : clock ≤ now) : MostInv l c n now :=
  ⟨h.ok, h.len, fun x hx => by obtain ⟨a1, a2, a3⟩ := h.all x hx; exact ⟨a1, a2, a3.later hn⟩⟩

theorem hit_look {l : SMap} {k : ByteArray} {e b clock : Int} {s : Slot} (h : slotHit l k e b clock = some s) : l.look k = some s ∧ s.e = e ∧ s.b = b ∧ drained clock s = false := by
  unfold slotHit at h
  cases hl : l.look k with
  | none => rw [hl] at h; cases h
  | some s' =>
    rw [hl] at h
    simp only [Option.filter] at h
    split at h
    · rename_i q
      cases h
      simp at q
      exact ⟨rfl, q.1.1, q.1.2, by unfold drained; simpa using q.2⟩
    · cases h
theorem hit_of {l : SMap} {k : ByteArray} {e b clock : Int} {s : Slot} (hl : l.look k = some s) (he : s.e = e) (hb : s.b = b) (hd : drained clock s = false) : slotHit l k e b clock = some s := by
  unfold slotHit
  rw [hl]
  unfold drained at hd
  exact if_pos (by show (s.e == e && s.b == b && !(s.fill clock == 0)) = true; rw [hd, he, hb]; simp)

theorem actives_iff {clock : Int} {l : SMap} {s : Slot} : s ∈ actives clock l ↔ (∃ n, (s, n) ∈ l) ∧ drained clock s = false := by
  unfold actives
  constructor
  · intro h
    obtain ⟨⟨a, b⟩, h1, rfl⟩ := List.mem_map.1 h
    have := List.mem_filter.1 h1
    exact ⟨⟨b, this.1⟩, by simpa using this.2⟩
  · rintro ⟨⟨n, hn⟩, hd⟩
    exact List.mem_map.2 ⟨(s, n), List.mem_filter.2 ⟨hn, by rw [hd]; rfl⟩, rfl⟩
theorem mem_look {l : SMap} (hk : l.keys.Nodup) {s : Slot} {n : Nat} (h : (s, n) ∈ l) : l.look s.key = some s := by
  cases hl : l.look s.key with
  | none => exact absurd rfl (look_none.1 hl _ h)
  | some s' =>
    obtain ⟨m, hm⟩ := look_mem hl
    have := key_eq hk hm h (look_key hl)
    cases this
    rfl
theorem filter_len (clock : Int) (l : SMap) : (l.filter fun x => !drained clock x.1).length = (slotsOf clock l).length := by
  rw [slotsOf_len]; unfold actives; rw [List.length_map]
end Go.Proofs.YtknlojlcahgnoaaGreat
