/- Walks: package key: Less, Sorted. Slices of a rule's numbers: what they read as. -/
import Derived.Test.YtknlojlcahgnoaaGreatEb17
import Derived.Test.YtknlojlcahgnoaaGreatEb7
import Derived.Test.YtknlojlcahgnoaaGreatEb5
import Derived.Test.YtknlojlcahgnoaaGreatEb11

namespace Go.Proofs.YtknlojlcahgnoaaGreat
open Go.RowKit
attribute [local go_sem] Oper.semAt_some
set_option linter.unusedVariables false
set_option linter.unusedSimpArgs false

theorem both_stops (b1 b2 n₀ n : Nat) (a b : ByteArray) (ha : a.size ≤ maxLen) (hb : b.size ≤ maxLen) (w : World) (hc1 : w.cell? ⟨b1, 0, none⟩ = some (.string a)) (hc2 : w.cell? ⟨b2, 0, none⟩ = some (.string b)) (l1 : b1 < n₀) (l2 : b2 < n₀) (l4 : n₀ ≤ w.heap.size) :
    SeqStopsK Fence.wide n Tryz.prog 212 #[.pointer (some ⟨b1, 0, none⟩), .pointer (some ⟨b2, 0, none⟩)] encB (Below n₀) (fun xs => xs = zipB a b) (fun pre => ∃ rest, pre ++ rest = zipB a b) (zipB a b).length w :=
  fun L J Jx W hW hJ hJx hY h0 => by
    refine (both_1 n L b1 b2 n₀ a b ha hb J Jx hY W hJ (Ext.keep hW hc1) (Ext.keep hW hc2) l1 l2 (Nat.le_trans l4 (Ext.sz hW)) h0).mono ?_
    rintro e W' ⟨hv, h | ⟨pre, hp, h⟩⟩
    · exact ⟨hv, .inl ⟨_, rfl, h⟩⟩
    · exact ⟨hv, .inr ⟨pre, hp, h⟩⟩

set_option maxHeartbeats 400000 in
set_option maxRecDepth 100000 in
theorem key_both (a b : ByteArray) (w : World) : Calls Tryz.prog 181 #[.string a, .string b] w fun x w' =>
    x = .returned (.func (.func 212) #[] #[.pointer (some ⟨w.heap.size, 0, none⟩), .pointer (some ⟨w.heap.size + 1, 0, none⟩)]) ∧ w' = (w.alloc (.cells #[.string a] 9)).alloc (.cells #[.string b] 9) := by
  go_enter Tryz.func181, Tryz.ntmps181
  go_wp2
  go_ret
  exact ⟨rfl, rfl⟩

theorem comm_of_split : ∀ (pre : List (UInt8 × UInt8)) (a b : List UInt8) (x : UInt8 × UInt8) (rest : List (UInt8 × UInt8)), a.zip b = pre ++ x :: rest → (∀ p ∈ pre, p.1 = p.2) → x.1 ≠ x.2 →
    comm a b = pre.length ∧ (a < b ↔ x.1.toNat < x.2.toNat)
  | [], a, b, x, rest, h, _, hx => by
    cases a with
    | nil => simp at h
    | cons u us =>
      cases b with
      | nil => simp at h
      | cons v vs =>
        simp at h
        obtain ⟨h1, -⟩ := h
        subst h1
        simp only at hx
        rw [List.cons_lt_cons_iff]
        refine ⟨by simp [comm, hx], ?_⟩
        simp only [hx, false_and, or_false]
        exact UInt8.lt_iff_toNat_lt
  | p :: pre, a, b, x, rest, h, hp, hx => by
    cases a with
    | nil => simp at h
    | cons u us =>
      cases b with
      | nil => simp at h
      | cons v vs =>
        simp at h
        obtain ⟨h1, h2⟩ := h
        have he := hp p List.mem_cons_self
        subst h1
        simp only at he
        subst he
        have ih := comm_of_split pre us vs x rest h2 (fun q hq => hp q (List.mem_cons_of_mem _ hq)) hx
        rw [List.cons_lt_cons_iff]
        refine ⟨by simp [comm, ih.1], ?_⟩
        simp only [UInt8.lt_irrefl, false_or, true_and]
        exact ih.2
theorem comm_of_same : ∀ (a b : List UInt8), (∀ p ∈ a.zip b, p.1 = p.2) → comm a b = min a.length b.length
  | [], b, _ => by simp [comm]
  | _ :: _, [], _ => by simp [comm]
  | u :: us, v :: vs, h => by
    have he : u = v := h (u, v) (by simp)
    have ih := comm_of_same us vs (fun p hp => h p (by simp [hp]))
    simp [comm, he, ih]

theorem keyLt_iff (a b : ByteArray) : (a.toList < b.toList) ↔ (a.data.toList < b.data.toList) := by rw [ByteArray.toList_eq, ByteArray.toList_eq]
/-- no place has come where they differ -/
def LessI (w : World) (g : Nat) (pre : List (UInt8 × UInt8)) (W : World) : Prop := (∀ p ∈ pre, p.1 = p.2) ∧ Blk W g #[.bool false] 4 ∧ Ext w W
def LessX (w : World) (g : Nat) (cd : Code) (pre : List (UInt8 × UInt8)) (W : World) : Prop :=
  cd = .ret ∧ ∃ pre0 x, pre = pre0 ++ [x] ∧ (∀ p ∈ pre0, p.1 = p.2) ∧ x.1 ≠ x.2 ∧ Blk W g #[.bool (decide (x.1.toNat < x.2.toNat))] 4 ∧ Ext w W

set_option maxHeartbeats 1000000 in
set_option maxRecDepth 100000 in
theorem key_Less (a b : ByteArray) (w : World) (ha : a.size ≤ maxLen) (hb : b.size ≤ maxLen) :
    Calls Tryz.prog 128 #[.string a, .string b] w fun x w' => x = .returned (.bool (keyLt a b)) ∧ Ext w w' := by
  refine (callsIn_wide (n := 9)).1 ?_
  have HA := Lib.hid ha
  have HB := Lib.hid hb
  refine callsIn_of_wp_marks Tryz.func128 rfl trivial ?_ rfl
  simp only [Tryz.ntmps128, List.size_toArray, List.length_cons, List.length_nil, Nat.reduceAdd, Nat.reduceSub, Array.replicate_succ, Array.replicate_zero, List.push_toArray, List.append_toArray, List.nil_append, List.cons_append]
  gi_wp2_with fail
  refine ⟨trivial, (callsIn_wide.2 (key_both a b _)).mono ?_⟩
  rintro x w1 ⟨rfl, rfl⟩
  have bR : Blk (((w.alloc (.cells #[.bool false] 4)).alloc (.cells #[.string a] 9)).alloc (.cells #[.string b] 9)) w.heap.size #[.bool false] 4 := ((Blk.new w _ _).alloc _).alloc _
  have bA : Blk (((w.alloc (.cells #[.bool false] 4)).alloc (.cells #[.string a] 9)).alloc (.cells #[.string b] 9)) (w.heap.size + 1) #[.string a] 9 := (Blk.new' _ _ _ (by simp)).alloc _
  have bB : Blk (((w.alloc (.cells #[.bool false] 4)).alloc (.cells #[.string a] 9)).alloc (.cells #[.string b] 9)) (w.heap.size + 1 + 1) #[.string b] 9 := Blk.new' _ _ _ (by simp)
  have hx1 : Ext w (((w.alloc (.cells #[.bool false] 4)).alloc (.cells #[.string a] 9)).alloc (.cells #[.string b] 9)) := (((Ext.refl w).alloc _).alloc _).alloc _
  have hl := bB.lt
  gi_wp2_with fail
  generalize ((w.alloc (.cells #[.bool false] 4)).alloc (.cells #[.string a] 9)).alloc (.cells #[.string b] 9) = w1 at *
  refine wpIn_rangeFunc_ownF rfl (by omega) (gf := 212) (lb := #[.pointer (some ⟨w.heap.size + 1, 0, none⟩), .pointer (some ⟨w.heap.size + 1 + 1, 0, none⟩)]) rfl trivial (enters_of Tryz.func212 (by kernel_rfl) rfl)
    (both_stops (w.heap.size + 1) (w.heap.size + 1 + 1) w1.heap.size (9 - 1) a b HA.out HB.out w1 (bA.cell 0) (bB.cell 0) (by omega) hl (Nat.le_refl _)) belowK_t (belowK_b (Nat.le_refl _)) (Below.refl _ _) (fun _ => rfl)
    (LessI w w.heap.size) (LessX w w.heap.size)
    (fun pre X Y row h hg hr => ⟨h.1, kblk_from h.2.1 hg (fun r e => by have := (hr r e).1; omega), kext_from h.2.2 hg (fun r e => by have := (hr r e).1; omega)⟩)
    (fun cd pre X Y row h hg hr => by
      obtain ⟨h0, pre0, x, h1, h2, h3, h4, h5⟩ := h
      exact ⟨h0, pre0, x, h1, h2, h3, kblk_from h4 hg (fun r e => by have := (hr r e).1; omega), kext_from h5 hg (fun r e => by have := (hr r e).1; omega)⟩)
    ⟨fun x h => (by cases h), bR, hx1⟩
    (fun x => { tmps := #[.string a, .string b, undef, undef, .pointer (some ⟨w.heap.size, 0, none⟩), .int .u8 (x.1.toNat : Int), .int .u8 (x.2.toNat : Int), .string a, .string b, .func (.func 212) #[] #[.pointer (some ⟨w.heap.size + 1, 0, none⟩), .pointer (some ⟨w.heap.size + 1 + 1, 0, none⟩)], .int .u8 (x.1.toNat : Int), .int .u8 (x.2.toNat : Int), undef, undef, undef, undef, undef, undef, undef, undef, undef, undef, undef], defers := [] }) ?assign ?body ?done ?stop
  case assign =>
    intro L x W K hK
    simp only [encB]
    gi_wp2
    exact hK
  case body =>
    rintro L pre ⟨x, y⟩ W ⟨hne, bR, hxw⟩ hlt
    have hcR := bR.cell
    have hfR := bR.free
    cases hxy : decide (x = y) with
    | true =>
      have he := of_decide_eq_true hxy
      have h4 : ((x.toNat : Int) == (y.toNat : Int)) = true := by rw [he]; simp
      have h5 : ((x.toNat : Int) != (y.toNat : Int)) = false := by rw [he]; simp
      gi_wp2
      refine ⟨KeepsOthers.refl _, Below.refl _ _, fun p hp => ?_, bR, hxw⟩
      rcases List.mem_append.1 hp with hp | hp
      · exact hne p hp
      · obtain rfl := List.mem_singleton.1 hp
        exact he
    | false =>
      have he := of_decide_eq_false hxy
      have h4 : ((x.toNat : Int) == (y.toNat : Int)) = false := by
        rw [beq_eq_false_iff_ne]
        intro e
        exact he (UInt8.toNat_inj.1 (by omega))
      have h5 : ((x.toNat : Int) != (y.toNat : Int)) = true := by simp [bne, h4]
      gi_wp2
      refine ⟨KeepsOthers.setCell _ _ _, rfl, pre, (x, y), rfl, hne, he, ?_, hxw.setCell (Nat.le_refl _) _⟩
      have := bR.set 0 (.bool (decide (x.toNat < y.toNat)))
      simpa using this
  case done =>
    rintro D ys W hD rfl ⟨hne, bR, hxw⟩ hK
    have hcR := bR.cell
    have hfR := bR.free
    gi_wp2
    have hv := (keyLt_iff a b).trans (comm_end _ _ (Or.imp (fun q => q) (fun q => q) (by
      have := comm_of_same _ _ hne
      rw [this]
      omega)))
    rw [data_len, data_len] at hv
    have hK' := (KeepsOthers.setCell W ⟨w.heap.size, 0, none⟩ (.bool (decide (a.size < b.size)))).same D _ hK rfl
    refine ⟨by simp, .inl ⟨_, _, rfl, run_takeDeferred hK', ?_⟩⟩
    have hg := grownBy_putObj' (W.setCell ⟨w.heap.size, 0, none⟩ (.bool (decide (a.size < b.size)))) D (.deferred none)
    have bR2 := kblk_from (bR.set 0 (.bool (decide (a.size < b.size)))) hg (fun r e => by cases e; omega)
    have hx2 : Ext w (W.setCell ⟨w.heap.size, 0, none⟩ (.bool (decide (a.size < b.size)))) := hxw.setCell (Nat.le_refl _) _
    have hx3 := kext_from hx2 hg (fun r e => by cases e; omega)
    have hc5 := bR2.cell 0
    refine ⟨.bool (decide (a.size < b.size)), ?_, ret_bool (decide_eq_decide.2 hv).symm, hx3⟩
    simp [results, Tryz.results128, go_sem] at hc5 ⊢
    simp [hc5]
  case stop =>
    rintro D cd pre W hD ⟨rest, hsp⟩ ⟨rfl, pre0, x, rfl, h1, h2, bR, hxw⟩ hK
    gi_wp2
    have hv := (keyLt_iff a b).trans (comm_of_split pre0 a.data.toList b.data.toList x rest (by
      show zipB a b = _
      rw [← hsp]
      simp) h1 h2).2
    refine ⟨by simp, .inl ⟨_, _, rfl, run_takeDeferred hK, ?_⟩⟩
    have hg := grownBy_putObj' W D (.deferred none)
    have bR2 := kblk_from bR hg (fun r e => by cases e; omega)
    have hc5 := bR2.cell 0
    refine ⟨.bool (decide (x.1.toNat < x.2.toNat)), ?_, ret_bool (decide_eq_decide.2 hv).symm, kext_from hxw hg (fun r e => by cases e; omega)⟩
    simp [results, Tryz.results128, go_sem] at hc5 ⊢
    simp [hc5]

/-- the first k rise -/
def Up (l : List ByteArray) (k : Nat) : Prop := ∀ i (h : i + 1 < l.length), i + 1 < k → keyLt (l[i]'(by omega)) l[i + 1] = true
def sortedB : List ByteArray → Bool
  | a :: b :: t => keyLt a b && sortedB (b :: t)
  | _ => true
theorem sortedB_iff : ∀ l : List ByteArray, sortedB l = true ↔ Up l l.length
  | [] => ⟨fun _ i h => by simp at h, fun _ => rfl⟩
  | [a] => ⟨fun _ i h => by simp at h, fun _ => rfl⟩
  | a :: b :: t => by
    have ih := sortedB_iff (b :: t)
    simp only [sortedB, Bool.and_eq_true]
    rw [ih]
    constructor
    · rintro ⟨h1, h2⟩ i hi hk
      cases i with
      | zero => exact h1
      | succ i => exact h2 i (by simpa using hi) (by simpa using hi)
    · intro h
      exact ⟨h 0 (by simp) (by simp), fun i hi hk => h (i + 1) (by simpa using hi) (by simpa using hi)⟩
theorem Up.step {l : List ByteArray} {k : Nat} (h : Up l k) (hk : k < l.length) (h1 : 1 ≤ k) (e : keyLt (l[k - 1]'(by omega)) l[k] = true) : Up l (k + 1) := by
  intro i hi hik
  by_cases hq : i + 1 = k
  · subst hq
    exact e
  · exact h i hi (by omega)
theorem Up.stop {l : List ByteArray} {k : Nat} (hk : k < l.length) (h1 : 1 ≤ k) (e : keyLt (l[k - 1]'(by omega)) l[k] = false) : sortedB l = false := by
  cases hq : sortedB l with
  | false => rfl
  | true =>
  have h := (sortedB_iff l).1 hq
  have := h (k - 1) (by omega) (by omega)
  simp only [show k - 1 + 1 = k by omega] at this
  rw [this] at e
  cases e

set_option maxHeartbeats 1000000 in
set_option maxRecDepth 100000 in
theorem key_Sorted (v : Value) (l : List ByteArray) (w : World) (hv : StrSlice w v l) (hlen : l.length ≤ 1000000) :
    Calls Tryz.prog 71 #[v] w fun x w' => x = .returned (.bool (sortedB l)) ∧ Ext w w' := by
  obtain ⟨⟨a, c, rfl, hl⟩, -, heach⟩ := hv
  have HL := Lib.hid hl
  have HE := Lib.hid heach
  clear hl heach
  go_enter Tryz.func71, Tryz.ntmps71
  go_wp2
  go_loopw [3] (fun i wr => ∃ k : Nat, 1 ≤ k ∧ (k ≤ l.length ∨ k = 1) ∧ i = .int .i64 k ∧ Up l k ∧ Ext w wr) (fun i _ => l.length - (intOf i).toNat)
  case atStart => exact ⟨1, by omega, Or.inr rfl, rfl, fun i h1 h2 => by omega, Ext.refl _⟩
  case round =>
    obtain ⟨k, hk1, hk2, rfl, hup, hx⟩ := hrel
    have HUP := Lib.hid hup
    have HX := Lib.hid hx
    clear hup
    by_cases hlt : k < l.length
    · obtain ⟨b, o, rfl, hc⟩ := HL.out (by intro e; rw [e] at hlt; simp at hlt)
      obtain ⟨j, rfl⟩ : ∃ j : Nat, k = j + 1 := ⟨k - 1, by omega⟩
      have c0 := hx.keep (hc j (by omega))
      have c1 := hx.keep (hc (j + 1) hlt)
      have hs0 := HE.out l[j] (List.getElem_mem _)
      have hs1 := HE.out l[j + 1] (List.getElem_mem _)
      have HST := Lib.hid (fun e => Up.step HUP.out hlt hk1 e)
      have HSP := Lib.hid (fun e => Up.stop (l := l) hlt hk1 e)
      simp only [Nat.add_sub_cancel] at HST HSP
      have HLS := Lib.hid (fun W : World => key_Less l[j] l[j + 1] W hs0 hs1)
      generalize hV : keyLt l[j] l[j + 1] = V at *
      generalize l[j] = s0 at *
      generalize l[j + 1] = s1 at *
      clear hc hV hs0 hs1
      have hw : IntKind.i64.wrap ((j : Int) + 1 - 1) = j := by simp [IntKind.wrap, IntKind.signed, IntKind.bits]; omega
      have g0 : ∀ s, (grown wr s).cell? ⟨b, o + j, none⟩ = some (.string s0) := grown_cell c0
      have g1 : ∀ s, (grown wr s).cell? ⟨b, o + (j + 1), none⟩ = some (.string s1) := grown_cell c1
      have i0 : (0 : Int) ≤ (j : Int) := by omega
      have i1 : (j : Int) < (l.length : Int) := by omega
      have i2 : (0 : Int) ≤ ((j + 1 : Nat) : Int) := by omega
      have i3 : ((j + 1 : Nat) : Int) < (l.length : Int) := by omega
      clear HL c0 c1 hx
      go_upto_region 4 with fail
      refine wp_region_grow (by kernel_rfl) (by kernel_rfl) ?_
      repeat (go_big_quiet_step ((go_at_call 128; exact grow_call (HLS.out _))))
      refine wpQuiet_nil ?_
      rintro _ ⟨sg, rfl⟩
      have hxg := HX.out.trans (grown_ext wr sg)
      cases V with
      | true =>
        go_wp2
        go_roundw
        case rel => exact ⟨j + 1 + 1, by omega, by omega, by go_num, HST.out (by trivial), hxg⟩
        case measure => simp [intOf]; omega
      | false =>
        go_wp2
        go_ret
        exact ⟨ret_bool (HSP.out (by trivial)).symm, hxg⟩
    · have hs : sortedB l = true := by
        rw [sortedB_iff]
        intro i h1 h2
        exact HUP.out i h1 (by omega)
      have HS := Lib.hid hs
      clear hs
      go_wp2
      go_ret
      exact ⟨ret_bool HS.out.symm, HX.out⟩
end Go.Proofs.YtknlojlcahgnoaaGreat

namespace Go.Proofs.YtknlojlcahgnoaaGreat
open Go.RowKit
set_option linter.unusedVariables false
set_option linter.unusedSimpArgs false

structure Nms where
  prev : Value
  pre : List UInt8
  every : Int
  burst : Int
  kind : Int
def Nms.cells (d : Nms) : Array Value := #[d.prev, .int .u32 d.every, .int .u16 d.burst, .int .u8 d.kind]
structure NmsOk (w : World) (d : Nms) : Prop where
  pre : ByteSlice w d.prev d.pre
  e0 : 0 ≤ d.every
  e1 : d.every < 4294967296
  b0 : 0 ≤ d.burst
  b1 : d.burst < 65536
  k0 : 0 ≤ d.kind
  k1 : d.kind < 256
theorem NmsOk.ext {w w' : World} {d : Nms} (h : NmsOk w d) (e : Ext w w') : NmsOk w' d := ⟨h.pre.ext e, h.e0, h.e1, h.b0, h.b1, h.k0, h.k1⟩
/-- a slice whose elements are these numbers -/
structure NmsSlice (w : World) (v : Value) (l : List Nms) : Prop where
  form : ∃ a c, v = .slice a l.length c ∧ (l ≠ [] → ∃ b o, a = some ⟨b, o, none⟩ ∧ ∀ j (h : j < l.length) i, i < 4 → w.cell? ⟨b, o + j * 4 + i, none⟩ = (l[j].cells)[i]?)
  len : l.length ≤ maxLen
  each : ∀ d ∈ l, NmsOk w d
theorem NmsSlice.ext {w w' : World} {v : Value} {l : List Nms} (h : NmsSlice w v l) (e : Ext w w') : NmsSlice w' v l := by
  obtain ⟨a, c, hv, hl⟩ := h.form
  refine ⟨⟨a, c, hv, fun hne => ?_⟩, h.len, fun d hd => (h.each d hd).ext e⟩
  obtain ⟨b, o, ha, hc⟩ := hl hne
  refine ⟨b, o, ha, fun j hj i hi => keep_opt e ?_ (hc j hj i hi)⟩
  simp [Nms.cells, hi]
theorem nms_cells {w w' : World} {b o : Nat} {l : List Nms} (hc : ∀ j (h : j < l.length) i, i < 4 → w.cell? ⟨b, o + j * 4 + i, none⟩ = (l[j].cells)[i]?) (e : Ext w w') (k : Nat) (hk : k < l.length) :
    w'.cell? ⟨b, o + k * 4, none⟩ = some l[k].prev ∧ w'.cell? ⟨b, o + k * 4 + 1, none⟩ = some (.int .u32 l[k].every) ∧ w'.cell? ⟨b, o + k * 4 + 2, none⟩ = some (.int .u16 l[k].burst) ∧ w'.cell? ⟨b, o + k * 4 + 3, none⟩ = some (.int .u8 l[k].kind) :=
  ⟨e.keep (hc k hk 0 (by omega)), e.keep (hc k hk 1 (by omega)), e.keep (hc k hk 2 (by omega)), e.keep (hc k hk 3 (by omega))⟩
end Go.Proofs.YtknlojlcahgnoaaGreat
