/- Plain laws: no key of choices is the word x; a slice of slots that is written over. Walks: a table that is none: Tick, Clock, the iterator, Slots, Active, Entries, Move, MoveAll. -/
import Derived.Test.YtnlmbmbalmkiiaaG17

/- Plain laws: no key of choices is the word x; a slice of slots that is written over. -/
namespace Go.Proofs.Ytnlmbmbalmkiiaa
set_option linter.unusedVariables false
set_option linter.unusedSimpArgs false

def noX (l : List UInt8) : Bool := l.all fun b => b != 120
theorem pieceOf_x (n : Nat) : noX (pieceOf n).data.toList = true := by
  unfold pieceOf
  repeat' split
  all_goals decide
theorem keyCat_x : ∀ (m : Nat) (l : List UInt8), l.length = m → noX (keyCat l).data.toList = true := by
  intro m
  induction m with
  | zero => intro l h; obtain rfl := List.eq_nil_of_length_eq_zero h; decide
  | succ m ih =>
    intro l h
    have hne : l ≠ [] := by intro e; subst e; simp at h
    rw [← List.dropLast_concat_getLast hne, keyCat_snoc, ByteArray.data_append, Array.toList_append]
    unfold noX
    rw [List.all_append]
    have h1 := ih l.dropLast (by rw [List.length_dropLast]; omega)
    have h2 := pieceOf_x ((l.getLast hne).toNat % 8)
    unfold noX at h1 h2
    rw [h1, h2]
    rfl
theorem keyText_x (l : List UInt8) : noX (keyText l).data.toList = true := by
  unfold keyText
  split
  · decide
  · exact keyCat_x _ (l.take 6) rfl
theorem nameOf_x (d : Deed) : nameOf d ≠ ⟨#[120]⟩ := by
  have key : noX (nameOf d).data.toList = true := by
    have h := keyText_x d.key
    unfold nameOf
    split
    · decide
    · split
      · unfold first1
        rw [ByteArray.data_extract]
        unfold noX at h ⊢
        rw [List.all_eq_true] at h ⊢
        intro x hx
        rw [Array.toList_extract] at hx
        exact h x (List.mem_of_mem_drop (List.mem_of_mem_take hx))
      · exact h
  intro e
  rw [e] at key
  revert key
  decide
theorem cgL_keys {most clock : Int} {l : SMap} (c : Nat) (k p : ByteArray) (e b rk w : Int) {x : Slot × Nat} (h : x ∈ cgL most clock l c k p e b rk w) : x ∈ l ∨ x.1.key = k := by
  have hsub := chRoom_sub (most := most) (clock := clock) (l := l) (k := k) (e := e) (b := b)
  unfold cgL at h
  split at h
  · exact Or.inl h
  · split at h
    · exact Or.inl h
    · unfold chargeL at h
      split at h
      · exact Or.inl (hsub.1 x h)
      · unfold chL at h
        split at h
        · rcases put_mem h with q | q
          · exact Or.inl (hsub.1 x q)
          · exact Or.inr (by rw [q]; rfl)
        · exact Or.inl (hsub.1 x h)

/-- slots that may be written over -/
def SlotsAny (w : World) (b n : Nat) : Prop := ∀ j, j < n → (∃ s, w.cell? ⟨b, j * 8, none⟩ = some (.string s)) ∧ (∃ x, 0 ≤ x ∧ x < 18446744073709551616 ∧ w.cell? ⟨b, j * 8 + 6, none⟩ = some (.int .u64 x)) ∧ w.frozen? ⟨b, j * 8, none⟩ = false ∧ w.frozen? ⟨b, j * 8 + 6, none⟩ = false
theorem SlotsAny.set0 {w : World} {b n : Nat} (h : SlotsAny w b n) (i : Nat) (hi : i < n) (s : ByteArray) : SlotsAny (w.setCell ⟨b, i * 8, none⟩ (.string s)) b n := by
  intro j hj
  obtain ⟨⟨s0, h0⟩, ⟨x, hx0, hx1, h6⟩, f0, f6⟩ := h j hj
  refine ⟨?_, ⟨x, hx0, hx1, ?_⟩, by rw [World.frozen?_setCell]; exact f0, by rw [World.frozen?_setCell]; exact f6⟩
  · by_cases e : j = i
    · subst e; exact ⟨s, World.cell?_setCell_same _ _ _ h0⟩
    · exact ⟨s0, by rw [World.cell?_setCell_other]; exact h0; intro q; simp at q; try omega⟩
  · rw [World.cell?_setCell_other]; exact h6; intro q; simp at q; try omega
theorem SlotsAny.set6 {w : World} {b n : Nat} (h : SlotsAny w b n) (i : Nat) (hi : i < n) (y : Int) (hy0 : 0 ≤ y) (hy1 : y < 18446744073709551616) : SlotsAny (w.setCell ⟨b, i * 8 + 6, none⟩ (.int .u64 y)) b n := by
  intro j hj
  obtain ⟨⟨s0, h0⟩, ⟨x, hx0, hx1, h6⟩, f0, f6⟩ := h j hj
  refine ⟨⟨s0, ?_⟩, ?_, by rw [World.frozen?_setCell]; exact f0, by rw [World.frozen?_setCell]; exact f6⟩
  · rw [World.cell?_setCell_other]; exact h0; intro q; simp at q; try omega
  · by_cases e : j = i
    · subst e; exact ⟨y, hy0, hy1, World.cell?_setCell_same _ _ _ h6⟩
    · exact ⟨x, hx0, hx1, by rw [World.cell?_setCell_other]; exact h6; intro q; simp at q; try omega⟩
theorem slots_block {base : Nat} {w : World} {a : Option Addr} {n c : Nat} {l : List Slot} (h : SlotSlice base w (.slice a n c) l) (hs : ∀ s ∈ l, SlotOk s) (hb : base ≤ w.heap.size) :
    ∃ b, (l ≠ [] → a = some ⟨b, 0, none⟩ ∧ b < w.heap.size) ∧ base ≤ b ∧ b ≤ w.heap.size ∧ SlotsAny w b l.length := by
  by_cases hl : l = []
  · exact ⟨w.heap.size, fun q => absurd hl q, hb, Nat.le_refl _, fun j hj => by rw [hl] at hj; simp at hj⟩
  · obtain ⟨⟨a', c', hv, hf⟩, -⟩ := h
    cases hv
    obtain ⟨b, h1, h2, h3, h4⟩ := hf hl
    have hp : 0 < l.length := List.length_pos_iff.2 hl
    have c0 : w.cell? ⟨b, 0 * 8 + 0, none⟩ = some (.string l[0].key) := h3 0 hp 0 (by omega)
    have hlt := cell_lt c0
    refine ⟨b, fun _ => ⟨h1, hlt⟩, h2, Nat.le_of_lt hlt, fun j hj => ?_⟩
    have hso := hs l[j] (List.getElem_mem _)
    exact ⟨⟨_, h3 j hj 0 (by omega)⟩, ⟨_, hso.sa0, hso.sa1, h3 j hj 6 (by omega)⟩, h4 _ (by omega), h4 _ (by omega)⟩
theorem slots_first {base : Nat} {w w' : World} {a : Option Addr} {n c : Nat} {l : List Slot} (h : SlotSlice base w (.slice a n c) l) (e : Ext w w') (hl : l ≠ []) : ∃ b, a = some ⟨b, 0, none⟩ ∧ ∃ s ∈ l, w'.cell? ⟨b, 0, none⟩ = some (.string s.key) := by
  have hp : 0 < l.length := List.length_pos_iff.2 hl
  obtain ⟨b, h1, -, -, h2, -, -⟩ := slot_cells h e 0 hp
  exact ⟨b, h1, l[0], List.getElem_mem _, by simpa using h2⟩
end Go.Proofs.Ytnlmbmbalmkiiaa

/- Walks: a table that is none: Tick, Clock, the iterator, Slots, Active, Entries, Move, MoveAll. -/
namespace Go.Proofs.Ytnlmbmbalmkiiaa
open Go.RowKit
attribute [local go_sem] Oper.semAt_some
set_option linter.unusedVariables false
set_option linter.unusedSimpArgs false

set_option maxHeartbeats 400000 in
set_option maxRecDepth 100000 in
theorem table_TickN (now : Int) (w : World) : Calls Try.prog 14 #[.pointer none, .int .u64 now] w fun x w' => x = .returned (.int .u64 0) ∧ w' = w := by
  go_enter Try.func14, Try.ntmps14
  go_wp2
  go_ret
  exact ⟨rfl, rfl⟩
set_option maxHeartbeats 400000 in
set_option maxRecDepth 100000 in
theorem table_ClockN (w : World) : Calls Try.prog 15 #[.pointer none] w fun x w' => x = .returned (.int .u64 0) ∧ w' = w := by
  go_enter Try.func15, Try.ntmps15
  go_wp2_with fail
  refine (table_TickN 0 _).mono ?_
  rintro x w' ⟨rfl, rfl⟩
  go_wp2
  go_ret
  exact ⟨rfl, rfl⟩

theorem active_nil (bx n₀ n : Nat) (w : World) (hb : w.cell? ⟨bx, 0, none⟩ = some (.pointer none)) :
    SeqStopsK (α := Empty) Fence.wide n Try.prog 62 #[.pointer (some ⟨bx, 0, none⟩)] (fun _ => #[undef]) (KpT n₀) (fun _ => True) (fun _ => True) 0 w :=
  fun L J Jx W hW hJ hJx hY h0 => by
    have hc := Ext.keep hW hb
    refine callsIn_of_wp Try.func62 rfl trivial ?_ rfl
    simp only [Try.ntmps62, List.size_toArray, List.length_cons, List.length_nil, Nat.reduceAdd, Nat.reduceSub, Array.replicate_succ, Array.replicate_zero, List.push_toArray, List.append_toArray, List.nil_append, List.cons_append]
    clear hY hJ hJx hW hb
    gi_wp2
    exact bodyPost_ret (results_none rfl _ _ _) rfl ⟨⟨_, rfl⟩, .inl ⟨[], trivial, h0⟩⟩

theorem nil_active (w : World) : Calls Try.prog 39 #[.pointer none] w fun x w' =>
    x = .returned (.func (.func 62) #[] #[.pointer (some ⟨w.heap.size, 0, none⟩)]) ∧ w' = w.alloc (.cells #[.pointer none] 32) := by
  go_enter Try.func39, Try.ntmps39
  go_wp2
  go_ret
  exact ⟨rfl, rfl⟩

set_option maxHeartbeats 4000000 in
set_option maxRecDepth 100000 in
theorem append_nil (bx : Nat) (w : World) (hb : w.cell? ⟨bx, 0, none⟩ = some (.pointer none)) :
    Calls Try.prog 85 #[.slice none 0 0, .func (.func 62) #[] #[.pointer (some ⟨bx, 0, none⟩)]] w fun e W' => e = .returned (.slice none 0 0) ∧ Ext w W' := by
  refine (callsIn_wide (n := 9)).1 ?_
  have hbl := cell_lt hb
  refine callsIn_of_wp_marks Try.func85 rfl trivial ?_ rfl
  simp only [Try.ntmps85, List.size_toArray, List.length_cons, List.length_nil, Nat.reduceAdd, Nat.reduceSub, Array.replicate_succ, Array.replicate_zero, List.push_toArray, List.append_toArray, List.nil_append, List.cons_append]
  have hxw : Ext w (w.alloc (.cells #[.slice none 0 0] 47)) := (Ext.refl w).alloc _
  have bO := Blk.new w #[.slice none 0 0] 47
  have hlw : w.heap.size < (w.alloc (.cells #[.slice none 0 0] 47)).heap.size := by simp
  gi_wp2
  generalize w.alloc (.cells #[.slice none 0 0] 47) = w1 at *
  refine wpIn_rangeFunc_ownH rfl (by omega) (gf := 62) (lb := #[.pointer (some ⟨bx, 0, none⟩)]) rfl trivial (enters_of Try.func62 (by kernel_rfl) rfl)
    (active_nil bx w1.heap.size (9 - 1) w1 (hxw.keep hb)) (fun h k => ⟨belowK_t h.1 k.1, walksK_t h.2 k.2⟩) (fun W l o o' a1 a2 a3 a4 => ⟨belowK_b (Nat.le_refl _) W l o o' a1 a2 a3 a4, walksK_b W l o o' a1 a2 a3 a4⟩) (Below.refl _ _) (fun _ => rfl)
    (fun _ W => Ext w1 W) (fun _ _ _ => False)
    (fun pre X Y row h hg hr => ext_from h hg (fun r e => (hr r e).1))
    (fun _ _ _ _ _ hs _ _ => hs)
    (Ext.refl _)
    (fun x _ _ => x.elim) ?hAx ?assign ?body ?done ?stop
  case hAx =>
    rintro x
    exact x.elim
  case assign =>
    rintro L pre x
    exact x.elim
  case body =>
    rintro L pre x
    exact x.elim
  case done =>
    rintro D ys W hD hperm hB hK
    have bW := bO.ext hB
    have hc := bW.cell
    gi_wp2
    refine ⟨by simp, .inl ⟨_, _, rfl, run_takeDeferred hK, ?_⟩⟩
    have hg := grownBy_putObj' W D (.deferred none)
    exact ⟨_, results_tmp rfl _ _ _, rfl, ext_from (hxw.trans hB) hg (fun r e => by cases e; omega)⟩
  case stop =>
    rintro D c pre W _ _ h _
    exact h.elim

set_option maxHeartbeats 1000000 in
set_option maxRecDepth 100000 in
theorem slots_nil (w : World) : Calls Try.prog 18 #[.pointer none] w fun e W' => e = .returned (.slice none 0 0) ∧ Ext w W' := by
  have hx0 : Ext w (w.alloc (.cells #[.pointer none] 32)) := (Ext.refl w).alloc _
  have hc0 : (w.alloc (.cells #[.pointer none] 32)).cell? ⟨w.heap.size, 0, none⟩ = some (.pointer none) := (Blk.new w #[.pointer none] 32).cell 0
  have HS : Hid (Calls Try.prog 38 #[.func (.func 62) #[] #[.pointer (some ⟨w.heap.size, 0, none⟩)], .func (.func 40) #[] #[]] (w.alloc (.cells #[.pointer none] 32)) fun e W' => e = .returned (.slice none 0 0) ∧ Ext w W') := by
    refine Lib.hid ?_
    generalize w.alloc (.cells #[.pointer none] 32) = w0 at *
    have HC : Hid (Calls Try.prog 60 #[.func (.func 62) #[] #[.pointer (some ⟨w.heap.size, 0, none⟩)]] w0 fun e W' => e = .returned (.slice none 0 0) ∧ Ext w0 W') := by
      refine Lib.hid ?_
      have HA := Lib.hid (append_nil w.heap.size w0 hc0)
      go_enter Try.func60, Try.ntmps60
      go_wp2_with fail
      refine HA.out.mono ?_
      rintro x w' ⟨rfl, hx⟩
      go_wp2
      go_ret
      exact ⟨rfl, hx⟩
    go_enter Try.func38, Try.ntmps38
    go_wp2_with fail
    refine HC.out.mono ?_
    rintro x w1 ⟨rfl, hx⟩
    go_wp2_with fail
    refine (show Calls Try.prog 61 #[.slice none 0 0, .func (.func 40) #[] #[]] w1 _ from AnyF.slices_SortFunc_none Try.sortSlots none 0 _ w1).mono ?_
    rintro x w2 ⟨rfl, rfl⟩
    go_wp2
    go_ret
    exact ⟨rfl, hx0.trans hx⟩
  clear hx0 hc0
  go_enter Try.func18, Try.ntmps18
  go_wp2_with (first
    | (go_at_call 38; (with_reducible refine HS.out.mono ?_); rintro x w2 ⟨rfl, hx⟩)
    | go_in)
  go_ret
  exact ⟨rfl, hx⟩

set_option maxHeartbeats 1000000 in
set_option maxRecDepth 100000 in
theorem table_ActiveN (w : World) : Calls Try.prog 19 #[.pointer none] w fun e W' => e = .returned (.int .i64 0) ∧ Ext w W' := by
  go_enter Try.func19, Try.ntmps19
  go_wp2_with fail
  refine (slots_nil _).mono ?_
  rintro x w1 ⟨rfl, hx⟩
  go_wp2
  go_ret
  exact ⟨rfl, hx⟩

set_option maxHeartbeats 1000000 in
set_option maxRecDepth 100000 in
theorem table_EntriesN (w : World) : Calls Try.prog 25 #[.pointer none] w fun e W' => e = .returned (.slice none 0 0) ∧ Ext w W' := by
  have hx0 : Ext w (w.alloc (.cells #[.pointer none] 32)) := (Ext.refl w).alloc _
  go_enter Try.func25, Try.ntmps25
  go_wp2_with fail
  refine (slots_nil _).mono ?_
  rintro x w1 ⟨rfl, hx⟩
  have HT : Hid (∀ f : Value, Calls Try.prog 44 #[.slice none 0 0, f] w1 fun e W' => e = .returned (.slice none 0 0) ∧ W' = w1) := by
    refine Lib.hid fun f => ?_
    go_enter Try.func44, Try.ntmps44
    go_wp2
    go_loop [5, 10] (fun o i => o = .slice none 0 0 ∧ i = .int .i64 0) (fun _ _ => 0)
    case atStart => exact ⟨rfl, rfl⟩
    case round =>
      obtain ⟨rfl, rfl⟩ := hrel
      go_wp2
      go_ret
      exact ⟨rfl, rfl⟩
  go_wp2_with fail
  refine (HT.out _).mono ?_
  rintro x w2 ⟨rfl, rfl⟩
  go_wp2
  go_ret
  exact ⟨rfl, hx0.trans hx⟩

set_option maxHeartbeats 1000000 in
set_option maxRecDepth 100000 in
theorem table_MoveAllNil (kind : Int) (w : World) (hq : rightKind kind = true) : Calls Try.prog 22 #[.pointer none, .int .u8 kind] w fun x w' => x = .returned (.tuple #[.int .i64 0, .int .u16 0]) ∧ Ext w w' := by
  have HQ := Lib.hid hq
  clear hq
  go_enter Try.func22, Try.ntmps22
  go_wp2_with fail
  refine (kernel_Right kind _).mono ?_
  rw [HQ.out]
  rintro x w1 ⟨rfl, hx1⟩
  go_wp2_with fail
  refine (slots_nil _).mono ?_
  rintro x w2 ⟨rfl, hx2⟩
  go_wp2
  go_loop [16] (fun i => i = .int .i64 0) (fun _ => 0)
  case atStart => rfl
  case round =>
    obtain rfl := hrel
    go_wp2
    go_ret2
    exact ⟨rfl, hx1.trans hx2⟩

set_option maxHeartbeats 4000000 in
set_option maxRecDepth 100000 in
theorem table_MoveNil (kind : Int) (k : ByteArray) (w : World) (hq : rightKind kind = true) :
    Calls Try.prog 21 #[.pointer none, .string k, .int .u8 kind] w fun x w' => x = .returned (.int .u16 52) ∧ Ext w w' := by
  refine (callsIn_wide (n := 9)).1 ?_
  have HK := Lib.hid hq
  clear hq
  refine callsIn_of_wp_marks Try.func21 rfl trivial ?_ rfl
  simp only [Try.ntmps21, List.size_toArray, List.length_cons, List.length_nil, Nat.reduceAdd, Nat.reduceSub, Array.replicate_succ, Array.replicate_zero, List.push_toArray, List.append_toArray, List.nil_append, List.cons_append]
  gi_wp2_with fail
  refine ⟨trivial, (callsIn_wide.2 (kernel_Right kind _)).mono ?_⟩
  rw [HK.out]
  rintro x w1 ⟨rfl, hx1⟩
  have bT : Blk w1 w.heap.size #[.pointer none] 32 := ((((Blk.new w #[.pointer none] 32).alloc _).alloc _).alloc _).ext hx1
  have bR : Blk w1 (w.heap.size + 1 + 1 + 1) #[.int .u16 0] 34 := (Blk.new' (((w.alloc (.cells #[.pointer none] 32)).alloc (.cells #[.string k] 9)).alloc (.cells #[.int .u8 kind] 5)) #[.int .u16 0] 34 (b := w.heap.size + 1 + 1 + 1) (by simp)).ext hx1
  have hxw : Ext w w1 := ((((((Ext.refl w).alloc (.cells #[.pointer none] 32)).alloc (.cells #[.string k] 9)).alloc (.cells #[.int .u8 kind] 5)).alloc (.cells #[.int .u16 0] 34))).trans hx1
  have HBR := Lib.hid bR
  have c3 : w1.cell? ⟨w.heap.size, 0, none⟩ = some (.pointer none) := bT.cell 0
  have hR1 := bR.lt
  clear bT bR hx1
  gi_wp2_with fail
  refine ⟨trivial, (callsIn_wide.2 (nil_active _)).mono ?_⟩
  rintro x w2 ⟨rfl, rfl⟩
  have bb := Blk.new w1 #[.pointer none] 32
  have hx12 : Ext w1 (w1.alloc (.cells #[.pointer none] 32)) := (Ext.refl w1).alloc _
  have hbx : w1.heap.size < (w1.alloc (.cells #[.pointer none] 32)).heap.size := by simp
  generalize w1.alloc (.cells #[.pointer none] 32) = w2 at *
  gi_wp2_with fail
  have hxx := hxw.trans hx12
  refine wpIn_rangeFunc_ownH rfl (by omega) (gf := 62) (lb := #[.pointer (some ⟨w1.heap.size, 0, none⟩)]) rfl trivial (enters_of Try.func62 (by kernel_rfl) rfl)
    (active_nil w1.heap.size w2.heap.size (9 - 1) w2 (bb.cell 0)) (fun h k => ⟨belowK_t h.1 k.1, walksK_t h.2 k.2⟩) (fun W l o o' a1 a2 a3 a4 => ⟨belowK_b (Nat.le_refl _) W l o o' a1 a2 a3 a4, walksK_b W l o o' a1 a2 a3 a4⟩) (Below.refl _ _) (fun _ => rfl)
    (fun _ W => Ext w2 W) (fun _ _ _ => False)
    (fun pre X Y row h hg hr => ext_from h hg (fun r e => (hr r e).1))
    (fun _ _ _ _ _ hs _ _ => hs)
    (Ext.refl _)
    (fun x _ _ => x.elim) ?hAx ?assign ?body ?done ?stop
  case hAx =>
    rintro x
    exact x.elim
  case assign =>
    rintro L pre x
    exact x.elim
  case body =>
    rintro L pre x
    exact x.elim
  case done =>
    rintro D ys W hD hperm hB hK
    have bR := HBR.out.ext (hx12.trans hB)
    have hsz := hxx.sz
    have hcR := bR.cell
    have hfR := bR.free
    gi_wp2
    have hK' := (KeepsOthers.setCell W ⟨w.heap.size + 1 + 1 + 1, 0, none⟩ (.int .u16 52)).same D _ hK rfl
    refine ⟨by simp, .inl ⟨_, _, rfl, run_takeDeferred hK', ?_⟩⟩
    have hg := grownBy_putObj' (W.setCell ⟨w.heap.size + 1 + 1 + 1, 0, none⟩ (.int .u16 52)) D (.deferred none)
    have bR2 := blk_from (bR.set 0 (.int .u16 52)) hg (fun r e => by cases e; omega)
    have hx2 : Ext w (W.setCell ⟨w.heap.size + 1 + 1 + 1, 0, none⟩ (.int .u16 52)) := (hxx.trans hB).setCell (by dsimp only; omega) _
    have hx3 := ext_from hx2 hg (fun r e => by cases e; omega)
    have hc5 := bR2.cell 0
    refine ⟨.int .u16 52, ?_, rfl, hx3⟩
    simp [results, Try.results21, go_sem] at hc5 ⊢
    simp [hc5]
  case stop =>
    rintro D cd pre W hD _ h _
    exact h.elim
end Go.Proofs.Ytnlmbmbalmkiiaa
