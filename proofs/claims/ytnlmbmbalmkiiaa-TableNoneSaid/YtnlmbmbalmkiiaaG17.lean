/- Walks: Entries$1, told, Entries, tollerref14.Entry. Walks: a table's Move (a range over its iterator, whose body writes the table's map and leaves). Plain laws: tables that differ in the kernels of their slots alone: whoever goes over to whatever kernel, all is told the same. Walks: a table's MoveAll. Plain laws: two tables that look alike, whose slots go over to whatever kernel. Walks: a table's Move and MoveAll to no kernel; what they do to a table that looks like another one. -/
import Derived.OwnWalk
import Derived.Laws.AppendOwn
import Derived.Test.YtnlmbmbalmkiiaaG15
import Derived.Test.YtnlmbmbalmkiiaaG16
import Derived.Test.YtnlmbmbalmkiiaaG13

/- Walks: Entries$1, told, Entries, tollerref14.Entry. -/
namespace Go.Proofs.Ytnlmbmbalmkiiaa
open Go.RowKit
set_option linter.unusedVariables false
set_option linter.unusedSimpArgs false

set_option maxHeartbeats 1000000 in
set_option maxRecDepth 100000 in
theorem entries_1 (bx t mb c : Nat) (most clock : Int) (l : SMap) (s : Slot) (w : World) (hb : w.cell? ⟨bx, 0, none⟩ = some (.pointer (some ⟨t, 0, none⟩))) (ht : TabAt w t mb most clock l c) (hs : SlotOk s) (hn0 : 0 ≤ clock) (hn1 : clock < 18446744073709551616) :
    Calls Try.prog 45 #[s.val, .pointer (some ⟨bx, 0, none⟩)] w fun x w' => x = .returned (.agg (entOf clock s).cells) ∧ Ext w w' := by
  obtain ⟨k, sp, se, sbu, srk, sk, sa, sb⟩ := s
  obtain ⟨m1, m2, v1, v2, v3, v4, v5, v6, v7, v8, v9, v10, v11, v12⟩ := hs
  simp only at m1 m2 v1 v2 v3 v4 v5 v6 v7 v8 v9 v10 v11 v12
  have hc := ruleCap_u sp se sbu srk v1 v3
  have hF := kFill_u sk sa sb clock (ruleCap sp se sbu srk) v9 v10 v11 hn0 hn1 hc.1 (by omega)
  have hE : entOf clock ⟨k, sp, se, sbu, srk, sk, sa, sb⟩ = ⟨k, kUntil (kFill sk sa sb clock (ruleCap sp se sbu srk)) clock⟩ := rfl
  rw [hE]
  have hcp := fun W : World => rule_Cap sp se sbu srk W m2 v1 v2 v3 v4
  generalize hcap : ruleCap sp se sbu srk = cap at *
  have HC := Lib.hid hcp
  obtain ⟨hc0, hc1⟩ := hc
  have HU := Lib.hid (fun W : World => kernel_Until sk sa sb clock cap W v9 v10 v11 v12 hn0 hn1 hc0 (by omega))
  generalize kUntil (kFill sk sa sb clock cap) clock = U at *
  clear hcap hF hE hcp
  simp only [Slot.val, Slot.cells, Ent.cells]
  have bq := (Blk.new w #[.string k, .string sp, .int .u64 se, .int .u64 sbu, .int .u8 srk, .int .u8 sk, .int .u64 sa, .int .u64 sb] 52).alloc (.cells #[.string ⟨#[]⟩, .int .u64 0] 93)
  have br := Blk.new' (w.alloc (.cells #[.string k, .string sp, .int .u64 se, .int .u64 sbu, .int .u8 srk, .int .u8 sk, .int .u64 sa, .int .u64 sb] 52)) #[.string ⟨#[]⟩, .int .u64 0] 93 (b := w.heap.size + 1) (by simp)
  have hx0 : Ext w ((w.alloc (.cells #[.string k, .string sp, .int .u64 se, .int .u64 sbu, .int .u8 srk, .int .u8 sk, .int .u64 sa, .int .u64 sb] 52)).alloc (.cells #[.string ⟨#[]⟩, .int .u64 0] 93)) := ((Ext.refl w).alloc _).alloc _
  go_enter Try.func45, Try.ntmps45
  go_upto_region 1 with fail
  generalize (w.alloc (.cells #[.string k, .string sp, .int .u64 se, .int .u64 sbu, .int .u8 srk, .int .u8 sk, .int .u64 sa, .int .u64 sb] 52)).alloc (.cells #[.string ⟨#[]⟩, .int .u64 0] 93) = w0 at *
  have q0 : ∀ s, (grown w0 s).cell? ⟨w.heap.size, 0, none⟩ = some (.string k) := grown_cell (bq.cell 0)
  have q1 : ∀ s, (grown w0 s).cell? ⟨w.heap.size, 1, none⟩ = some (.string sp) := grown_cell (bq.cell 1)
  have q2 : ∀ s, (grown w0 s).cell? ⟨w.heap.size, 2, none⟩ = some (.int .u64 se) := grown_cell (bq.cell 2)
  have q3 : ∀ s, (grown w0 s).cell? ⟨w.heap.size, 3, none⟩ = some (.int .u64 sbu) := grown_cell (bq.cell 3)
  have q4 : ∀ s, (grown w0 s).cell? ⟨w.heap.size, 4, none⟩ = some (.int .u8 srk) := grown_cell (bq.cell 4)
  have q5 : ∀ s, (grown w0 s).cell? ⟨w.heap.size, 5, none⟩ = some (.int .u8 sk) := grown_cell (bq.cell 5)
  have q6 : ∀ s, (grown w0 s).cell? ⟨w.heap.size, 6, none⟩ = some (.int .u64 sa) := grown_cell (bq.cell 6)
  have q7 : ∀ s, (grown w0 s).cell? ⟨w.heap.size, 7, none⟩ = some (.int .u64 sb) := grown_cell (bq.cell 7)
  have g0 : ∀ s, (grown w0 s).cell? ⟨bx, 0, none⟩ = some (.pointer (some ⟨t, 0, none⟩)) := grown_cell (hx0.keep hb)
  have g1 : ∀ s, (grown w0 s).cell? ⟨t, 1, none⟩ = some (.int .u64 clock) := grown_cell (hx0.keep (ht.blk.cell 1))
  have HBR := Lib.hid br
  have HX0 := Lib.hid hx0
  clear bq br hx0 ht hb
  refine wp_region_grow_tail 13 (by kernel_rfl) (by kernel_rfl) ?_
  simp only [List.take_succ_cons, List.take_zero, List.drop_succ_cons, List.drop_zero]
  repeat (go_big_quiet_step (first
    | (go_at_call 30; exact grow_call (HC.out _))
    | (go_at_call 46; exact grow_call (HU.out _))))
  refine wpQuiet_nil ?_
  rintro _ ⟨sg, rfl⟩
  have hR := HBR.out.ext (grown_ext w0 sg)
  have hfr := hR.free
  have hcr := hR.cell
  have hw := HX0.out.sz
  have hxg := HX0.out.trans (grown_ext w0 sg)
  go_wp2
  have hS := (hR.set 0 (.string k)).set 1 (.int .u64 U)
  refine ret_cell Try.results45 rfl hS Try.underlying93 rfl (by kernel_rfl) ⟨rfl, ?_⟩
  exact (hxg.set (by omega) _ _).set (by omega) _ _

theorem ent_size (x : Ent) : x.cells.size = 2 := rfl
theorem entry_info : (Try.prog.info? 93).map (fun i => (i.zero, i.size, i.bytes)) = some (some (.agg #[.string ⟨#[]⟩, .int .u64 0]), 2, 24) := by kernel_rfl
/-- a slice of entries, in memory of its own -/
abbrev EntSlice (base : Nat) (w : World) (v : Value) (l : List Ent) : Prop := RowOf Ent.cells 2 93 base w v l

/-- a slot's cells, all of them -/
theorem slot_all {base : Nat} {w w' : World} {a : Option Addr} {n c : Nat} {l : List Slot} (h : SlotSlice base w (.slice a n c) l) (e : Ext w w') (k : Nat) (hk : k < l.length) : ∃ b, a = some ⟨b, 0, none⟩ ∧ b < w.heap.size ∧ base ≤ b ∧
    w'.cell? ⟨b, k * 8, none⟩ = some (.string l[k].key) ∧ w'.cell? ⟨b, k * 8 + 1, none⟩ = some (.string l[k].p) ∧ w'.cell? ⟨b, k * 8 + 2, none⟩ = some (.int .u64 l[k].e) ∧ w'.cell? ⟨b, k * 8 + 3, none⟩ = some (.int .u64 l[k].b) ∧
    w'.cell? ⟨b, k * 8 + 4, none⟩ = some (.int .u8 l[k].rk) ∧ w'.cell? ⟨b, k * 8 + 5, none⟩ = some (.int .u8 l[k].sk) ∧ w'.cell? ⟨b, k * 8 + 6, none⟩ = some (.int .u64 l[k].sa) ∧ w'.cell? ⟨b, k * 8 + 7, none⟩ = some (.int .u64 l[k].sb) := by
  obtain ⟨a', c', hv, hf⟩ := h.form
  cases hv
  obtain ⟨b, h1, h2, h3, -⟩ := hf (fun q => by rw [q] at hk; simp at hk)
  have c0 : w.cell? ⟨b, k * 8, none⟩ = some (.string l[k].key) := h3 k hk 0 (by omega)
  exact ⟨b, h1, cell_lt c0, h2, e.keep c0, e.keep (h3 k hk 1 (by omega)), e.keep (h3 k hk 2 (by omega)), e.keep (h3 k hk 3 (by omega)), e.keep (h3 k hk 4 (by omega)), e.keep (h3 k hk 5 (by omega)), e.keep (h3 k hk 6 (by omega)), e.keep (h3 k hk 7 (by omega))⟩

set_option maxHeartbeats 4000000 in
set_option maxRecDepth 100000 in
theorem table_told (bx t mb c base : Nat) (most clock : Int) (m : SMap) (v : Value) (l : List Slot) (w : World) (hb : w.cell? ⟨bx, 0, none⟩ = some (.pointer (some ⟨t, 0, none⟩))) (ht : TabAt w t mb most clock m c) (hv : SlotSlice base w v l) (hs : ∀ s ∈ l, SlotOk s) (hn0 : 0 ≤ clock) (hn1 : clock < 18446744073709551616) (hlen : l.length ≤ 1000000) :
    Calls Try.prog 44 #[v, .func (.func 45) #[] #[.pointer (some ⟨bx, 0, none⟩)]] w fun x w' => ∃ v', x = .returned v' ∧ EntSlice w.heap.size w' v' (l.map (entOf clock)) ∧ Ext w w' := by
  obtain ⟨a, cp, rfl⟩ := hv.size
  have HV := Lib.hid hv
  have HT := Lib.hid ht
  have HS := Lib.hid hs
  obtain ⟨i0, hi, hz0, hz1, hz2⟩ := info_parts entry_info
  have HI := Lib.hid (And.intro hi (And.intro hz0 (And.intro hz1 hz2)))
  have hml : (1000000 : Nat) + 1 ≤ maxLen := by decide
  clear hv ht hs hi hz0 hz1 hz2
  go_enter Try.func44, Try.ntmps44
  go_wp2
  go_loopw [5, 10] (fun o i wr => ∃ (k : Nat), k ≤ l.length ∧ i = .int .i64 k ∧ EntSlice w.heap.size wr o ((l.take k).map (entOf clock)) ∧ Ext w wr) (fun _ i _ => l.length - (intOf i).toNat)
  case atStart => exact ⟨0, by omega, rfl, RowOf.empty _ _ _ _ _, Ext.refl _⟩
  case round =>
    obtain ⟨k, hk, rfl, hrow, hx⟩ := hrel
    by_cases hlt : k < l.length
    · obtain ⟨b, rfl, hbl, -, e0, e1, e2, e3, e4, e5, e6, e7⟩ := slot_all HV.out hx k hlt
      have hso := HS.out l[k] (List.getElem_mem _)
      have htk : (l.take (k + 1)).map (entOf clock) = (l.take k).map (entOf clock) ++ [entOf clock l[k]] := by
        rw [List.take_succ_eq_append_getElem hlt, List.map_append]; rfl
      have htl : ((l.take k).map (entOf clock)).length = k := by simp; omega
      have HE := Lib.hid (fun W hb ht => entries_1 bx t mb c most clock m l[k] W hb ht hso hn0 hn1)
      have HROW := Lib.hid hrow
      have HTK := Lib.hid htk
      have HTL := Lib.hid htl
      have htx := HT.out.ext hx
      have hbx := hx.keep hb
      have hwx := hx.sz
      generalize hent : entOf clock l[k] = en at *
      have HEN := Lib.hid hent
      clear hrow htk htl hso hent
      obtain ⟨ek, et⟩ := en
      generalize l[k] = s at *
      obtain ⟨s1, s2, s3, s4, s5, s6, s7, s8⟩ := s
      simp only [Slot.val, Slot.cells, Ent.cells] at e0 e1 e2 e3 e4 e5 e6 e7 HE
      have hx1 : Ext wr (wr.alloc (.cells #[.string s1, .string s2, .int .u64 s3, .int .u64 s4, .int .u8 s5, .int .u8 s6, .int .u64 s7, .int .u64 s8] 52)) := (Ext.refl wr).alloc _
      have HC := Lib.hid (HE.out _ (hx1.keep hbx) (htx.ext hx1))
      clear HE
      go_wp2_with (first
        | (go_at_call 45; (with_reducible refine HC.out.mono ?_); rintro x w2 ⟨rfl, hx2⟩)
        | (at_builtin; refine wpList_append_own _ rfl (.tmp 14) (.tmp 18) 62 rfl w.heap.size 93 i0 (.agg #[.string ⟨#[]⟩, .int .u64 0]) 2 24 Try.underlying62 HI.out.1 HI.out.2.1 HI.out.2.2.1 HI.out.2.2.2 rfl (by decide) _ _ _ rfl ((own_ext (own_ext HROW.out.own hx1) hx2).alloc _) ⟨w2.heap.size, 0, none⟩ 1 1 [.string ek, .int .u64 et] rfl rfl (blk_news (C := #[.string ek, .int .u64 et]) (Blk.new _ _ _)) (by simp [Value.oneCell']) (by rw [HTL.out]; omega) (by rw [HTL.out]; omega) (by have := hx1.sz; have := hx2.sz; simp; omega) ?_; rintro v' w3 hown hgrow -)
        | fail)
      have hx3 : Ext w w3 := Ext.grownAt (((hx.trans hx1).trans hx2).alloc _) ((own_ext (own_ext HROW.out.own hx1) hx2).alloc _) (Nat.le_refl _) hgrow
      have hrow3 : EntSlice w.heap.size w3 v' ((l.take (k + 1)).map (entOf clock)) := by
        refine RowOf.mk' hown ?_ ?_ ?_
        · rw [HTK.out, List.length_append]; rfl
        · rw [HTK.out, flatE_snoc]; rfl
        · obtain ⟨g, cap, rfl⟩ := ownsRow_succ hown
          rw [HTK.out]
          simp
      go_roundw
      case rel => exact ⟨k + 1, by omega, by go_num, hrow3, hx3⟩
      case measure => simp [intOf]; omega
    · rw [List.take_of_length_le (by omega)] at hrow
      have HROW := Lib.hid hrow
      clear hrow
      go_wp2
      go_ret
      exact ⟨_, rfl, HROW.out, hx⟩

set_option maxHeartbeats 1000000 in
set_option maxRecDepth 100000 in
theorem table_Entries (t mb c : Nat) (most clock : Int) (l : SMap) (w : World) (ht : TabAt w t mb most clock l c) (hok : TabOk l c) (hn0 : 0 ≤ clock) (hn1 : clock < 18446744073709551616) (hlen : l.length ≤ 1000000) :
    Calls Try.prog 25 #[.pointer (some ⟨t, 0, none⟩)] w fun x w' => ∃ v, x = .returned v ∧ EntSlice w.heap.size w' v (entsOf clock l) ∧ Ext w w' := by
  have HOK := Lib.hid hok
  have hx0 : Ext w (w.alloc (.cells #[.pointer (some ⟨t, 0, none⟩)] 32)) := (Ext.refl w).alloc _
  have bq := Blk.new w #[.pointer (some ⟨t, 0, none⟩)] 32
  have hc0 : (w.alloc (.cells #[.pointer (some ⟨t, 0, none⟩)] 32)).cell? ⟨w.heap.size, 0, none⟩ = some (.pointer (some ⟨t, 0, none⟩)) := bq.cell 0
  have HT := Lib.hid (ht.ext hx0)
  have hlw : w.heap.size ≤ (w.alloc (.cells #[.pointer (some ⟨t, 0, none⟩)] 32)).heap.size := hx0.sz
  clear ht hok bq
  go_enter Try.func25, Try.ntmps25
  go_upto_region 1 with fail
  generalize w.alloc (.cells #[.pointer (some ⟨t, 0, none⟩)] 32) = w0 at *
  go_wp2_with fail
  refine (table_Slots t mb c most clock l _ HT.out HOK.out hn0 hn1 hlen).mono ?_
  rintro x w1 ⟨v1, rfl, hs1, hx1⟩
  have hsl : (slotsOf clock l).length ≤ 1000000 := Nat.le_trans (by rw [slotsOf_len]; exact actives_len clock l) hlen
  have HS1 := Lib.hid hs1
  have hc1 := hx1.keep hc0
  have HTT := Lib.hid (table_told w.heap.size t mb c _ most clock l v1 (slotsOf clock l) w1 hc1 (HT.out.ext hx1) hs1 (fun s hs => by obtain ⟨n, hn⟩ := actives_mem ((slotsOf_perm clock l).mem_iff.1 hs); exact HOK.out.ok _ hn) hn0 hn1 hsl)
  clear hs1
  go_wp2_with fail
  refine HTT.out.mono ?_
  rintro x w2 ⟨v2, rfl, hr2, hx2⟩
  have HR2 := Lib.hid hr2
  clear hr2
  go_wp2
  go_ret
  exact ⟨_, rfl, HR2.out.low (by have := hx1.sz; omega), (hx0.trans hx1).trans hx2⟩
end Go.Proofs.Ytnlmbmbalmkiiaa

/- Walks: a table's Move (a range over its iterator, whose body writes the table's map and leaves). -/
namespace Go.Proofs.Ytnlmbmbalmkiiaa
open Go.RowKit
attribute [local go_sem] Oper.semAt_some
set_option linter.unusedVariables false
set_option linter.unusedSimpArgs false

abbrev ActS (clock : Int) (l : SMap) := {s : Slot // s ∈ actives clock l}

theorem active_stops_in (bx t mb c n₀ n : Nat) (most clock : Int) (l : SMap) (w : World) (hb : w.cell? ⟨bx, 0, none⟩ = some (.pointer (some ⟨t, 0, none⟩))) (ht : TabAt w t mb most clock l c) (hok : TabOk l c) (hn0 : 0 ≤ clock) (hn1 : clock < 18446744073709551616)
    (l1 : bx < n₀) (l2 : t < n₀) (l3 : mb < n₀) (l4 : n₀ ≤ w.heap.size) :
    SeqStopsK Fence.wide n Try.prog 62 #[.pointer (some ⟨bx, 0, none⟩)] (fun s : ActS clock l => #[s.1.val]) (KpT n₀) (fun xs => (xs.map (·.1)).Perm (actives clock l)) (fun pre => ∃ rest, (pre.map (·.1) ++ rest).Perm (actives clock l)) (actives clock l).length w :=
  fun L J Jx W hW hJ hJx hY h0 => by
    refine (active_1 n L bx t mb c n₀ most clock l (fun xs W => ∃ ys : List (ActS clock l), ys.map (·.1) = xs ∧ J ys W) (fun xs W => ∃ ys : List (ActS clock l), ys.map (·.1) = xs ∧ Jx ys W) ?_ W ?_ (Ext.keep hW hb) (ht.ext hW) hok hn0 hn1 l1 l2 l3 (Nat.le_trans l4 (Ext.sz hW)) ⟨[], rfl, h0⟩).mono ?_
    · rintro pre x W1 hx ⟨ys, rfl, hj⟩ hlen
      refine (hY ys ⟨x, hx⟩ W1 hj (by simpa using hlen)).mono ?_
      rintro e W' (⟨rfl, h1, h2⟩ | ⟨rfl, h1⟩)
      · exact Or.inl ⟨rfl, ⟨_, by simp, h1⟩, h2⟩
      · exact Or.inr ⟨rfl, ⟨_, by simp, h1⟩⟩
    · rintro s X Y row ⟨ys, rfl, hj⟩ hg hr
      exact ⟨ys, rfl, hJ ys X Y row hj hg hr⟩
    · rintro e W' ⟨hv, ⟨xs, hp, ys, rfl, hj⟩ | ⟨pre, hp, ys, rfl, hj⟩⟩
      · exact ⟨hv, Or.inl ⟨ys, hp, hj⟩⟩
      · exact ⟨hv, Or.inr ⟨ys, hp, hj⟩⟩

/-- an active slot's kernel is right -/
theorem actives_right {clock : Int} {l : SMap} {s : Slot} (h : s ∈ actives clock l) : rightKind s.sk = true := by
  unfold actives at h
  obtain ⟨⟨a, b⟩, h1, rfl⟩ := List.mem_map.1 h
  have h2 := (List.mem_filter.1 h1).2
  unfold drained Slot.fill kFill at h2
  unfold rightKind
  by_cases q1 : a.sk = 1
  · rw [q1]; rfl
  by_cases q2 : a.sk = 2
  · rw [q2]; rfl
  by_cases q3 : a.sk = 3
  · rw [q3]; rfl
  simp [q1, q2, q3] at h2

set_option maxHeartbeats 400000 in
set_option maxRecDepth 100000 in
theorem table_active (t : Nat) (w : World) : Calls Try.prog 39 #[.pointer (some ⟨t, 0, none⟩)] w fun x w' =>
    x = .returned (.func (.func 62) #[] #[.pointer (some ⟨w.heap.size, 0, none⟩)]) ∧ w' = w.alloc (.cells #[.pointer (some ⟨t, 0, none⟩)] 32) := by
  go_enter Try.func39, Try.ntmps39
  go_wp2
  go_ret
  exact ⟨rfl, rfl⟩

/-- the loop is not yet over -/
def MoveI (W0 : World) (clock : Int) (l : SMap) (k : ByteArray) (pre : List (ActS clock l)) (W : World) : Prop := (∀ x ∈ pre, x.1.key ≠ k) ∧ Ext W0 W
/-- the key has come, and gone over -/
def MoveX (w : World) (t mb c : Nat) (most clock kind : Int) (l : SMap) (k : ByteArray) (B : Nat) (cd : Code) (pre : List (ActS clock l)) (W : World) : Prop :=
  cd = .ret ∧ ∃ s : ActS clock l, s ∈ pre ∧ s.1.key = k ∧ TabAt W t mb most clock (l.put (movedS clock s.1 kind) c) (l.putC (movedS clock s.1 kind) c) ∧ Blk W B #[.int .u16 0] 34 ∧ ExtB mb w W

/-- the round's frame -/
def MoveA (w w1 w2 : World) (t : Nat) (k : ByteArray) (kind : Int) (x : Slot) (a' : Act) (W : World) : Prop :=
  ∃ Bx, w2.heap.size ≤ Bx ∧ Blk W Bx x.cells 52 ∧ a' = { tmps := #[.pointer (some ⟨t, 0, none⟩), .string k, .int .u8 kind, .pointer (some ⟨w.heap.size, 0, none⟩), .pointer (some ⟨w.heap.size + 1, 0, none⟩), .pointer (some ⟨w.heap.size + 1 + 1, 0, none⟩), .pointer (some ⟨w.heap.size + 1 + 1 + 1, 0, none⟩), .pointer (some ⟨Bx, 0, none⟩), .int .u8 kind, .bool true, .bool false, .pointer (some ⟨t, 0, none⟩), .func (.func 62) #[] #[.pointer (some ⟨w1.heap.size, 0, none⟩)], x.val, undef, undef, undef, undef, undef, undef, undef, undef], defers := [] }

theorem extB_from {mb : Nat} {w X Y : World} {row : Option Nat} (h : ExtB mb w X) (hg : X.grownBy Y row) (hr : ∀ r, row = some r → w.heap.size ≤ r) : ExtB mb w Y :=
  ⟨hg.os.trans h.os, hg.tape.trans h.tape, hg.output.trans h.output, Nat.le_trans h.size hg.size, fun i hi hb => (hg.block i (Nat.lt_of_lt_of_le hi h.size) (fun e => by have := hr i e.symm; omega)).trans (h.block i hi hb)⟩
theorem ext_from {w X Y : World} {row : Option Nat} (h : Ext w X) (hg : X.grownBy Y row) (hr : ∀ r, row = some r → w.heap.size ≤ r) : Ext w Y := Below.grown h hg (Ext.sz h) hr
theorem blk_from {b : Nat} {C : Array Value} {ty : TypeId} {X Y : World} {row : Option Nat} (h : Blk X b C ty) (hg : X.grownBy Y row) (hr : ∀ r, row = some r → b < r) : Blk Y b C ty :=
  (hg.block b h.lt (fun e => by have := hr b e.symm; omega)).trans h
theorem map_from {b c : Nat} {l : SMap} {X Y : World} {row : Option Nat} (h : MapIs X b l c) (hg : X.grownBy Y row) (hr : ∀ r, row = some r → b < r) : MapIs Y b l c :=
  (hg.block b h.lt (fun e => by have := hr b e.symm; omega)).trans h

set_option maxHeartbeats 4000000 in
set_option maxRecDepth 100000 in
theorem table_MoveY (t mb c : Nat) (most clock kind : Int) (k : ByteArray) (l : SMap) (w : World) (ht : TabAt w t mb most clock l c) (hok : TabOk l c) (hn0 : 0 ≤ clock) (hn1 : clock < 18446744073709551616) (hq : rightKind kind = true) :
    Calls Try.prog 21 #[.pointer (some ⟨t, 0, none⟩), .string k, .int .u8 kind] w fun x w' =>
      ((∃ s ∈ actives clock l, s.key = k ∧ x = .returned (.int .u16 0) ∧ TabAt w' t mb most clock (l.put (movedS clock s kind) c) (l.putC (movedS clock s kind) c)) ∨ ((∀ s ∈ actives clock l, s.key ≠ k) ∧ x = .returned (.int .u16 52) ∧ TabAt w' t mb most clock l c)) ∧ ExtB mb w w' := by
  refine (callsIn_wide (n := 9)).1 ?_
  have HK := Lib.hid hq
  have HT := Lib.hid ht
  have HOK := Lib.hid hok
  have htl := ht.blk.lt
  have hml := ht.map.lt
  clear ht hok hq
  refine callsIn_of_wp_marks Try.func21 rfl trivial ?_ rfl
  simp only [Try.ntmps21, List.size_toArray, List.length_cons, List.length_nil, Nat.reduceAdd, Nat.reduceSub, Array.replicate_succ, Array.replicate_zero, List.push_toArray, List.append_toArray, List.nil_append, List.cons_append]
  gi_wp2_with fail
  refine ⟨trivial, (callsIn_wide.2 (kernel_Right kind _)).mono ?_⟩
  rw [HK.out]
  rintro x w1 ⟨rfl, hx1⟩
  have bT : Blk w1 w.heap.size #[.pointer (some ⟨t, 0, none⟩)] 32 := ((((Blk.new w #[.pointer (some ⟨t, 0, none⟩)] 32).alloc _).alloc _).alloc _).ext hx1
  have bK : Blk w1 (w.heap.size + 1) #[.string k] 9 := (((Blk.new' (w.alloc (.cells #[.pointer (some ⟨t, 0, none⟩)] 32)) #[.string k] 9 (b := w.heap.size + 1) (by simp)).alloc _).alloc _).ext hx1
  have bQ : Blk w1 (w.heap.size + 1 + 1) #[.int .u8 kind] 5 := ((Blk.new' ((w.alloc (.cells #[.pointer (some ⟨t, 0, none⟩)] 32)).alloc (.cells #[.string k] 9)) #[.int .u8 kind] 5 (b := w.heap.size + 1 + 1) (by simp)).alloc _).ext hx1
  have bR : Blk w1 (w.heap.size + 1 + 1 + 1) #[.int .u16 0] 34 := (Blk.new' (((w.alloc (.cells #[.pointer (some ⟨t, 0, none⟩)] 32)).alloc (.cells #[.string k] 9)).alloc (.cells #[.int .u8 kind] 5)) #[.int .u16 0] 34 (b := w.heap.size + 1 + 1 + 1) (by simp)).ext hx1
  have hxw : Ext w w1 := ((((((Ext.refl w).alloc (.cells #[.pointer (some ⟨t, 0, none⟩)] 32)).alloc (.cells #[.string k] 9)).alloc (.cells #[.int .u8 kind] 5)).alloc (.cells #[.int .u16 0] 34))).trans hx1
  have HBT := Lib.hid bT
  have HBK := Lib.hid bK
  have HBQ := Lib.hid bQ
  have HBR := Lib.hid bR
  have c3 : w1.cell? ⟨w.heap.size, 0, none⟩ = some (.pointer (some ⟨t, 0, none⟩)) := bT.cell 0
  have hR1 := bR.lt
  clear bT bK bQ bR hx1
  gi_wp2_with fail
  refine ⟨trivial, (callsIn_wide.2 (table_active t _)).mono ?_⟩
  rintro x w2 ⟨rfl, rfl⟩
  have bb := Blk.new w1 #[.pointer (some ⟨t, 0, none⟩)] 32
  have hx12 : Ext w1 (w1.alloc (.cells #[.pointer (some ⟨t, 0, none⟩)] 32)) := (Ext.refl w1).alloc _
  have hbx : w1.heap.size < (w1.alloc (.cells #[.pointer (some ⟨t, 0, none⟩)] 32)).heap.size := by simp
  generalize w1.alloc (.cells #[.pointer (some ⟨t, 0, none⟩)] 32) = w2 at *
  gi_wp2_with fail
  have hxx := hxw.trans hx12
  refine wpIn_rangeFunc_ownH rfl (by omega) (gf := 62) (lb := #[.pointer (some ⟨w1.heap.size, 0, none⟩)]) rfl trivial (enters_of Try.func62 (by kernel_rfl) rfl)
    (active_stops_in w1.heap.size t mb c w2.heap.size (9 - 1) most clock l w2 (bb.cell 0) (HT.out.ext hxx) HOK.out hn0 hn1 hbx (by omega) (by omega) (Nat.le_refl _)) (fun h k => ⟨belowK_t h.1 k.1, walksK_t h.2 k.2⟩) (fun W l o o' a1 a2 a3 a4 => ⟨belowK_b (Nat.le_refl _) W l o o' a1 a2 a3 a4, walksK_b W l o o' a1 a2 a3 a4⟩) (Below.refl _ _) (fun _ => rfl)
    (MoveI w2 clock l k) (MoveX w t mb c most clock kind l k (w.heap.size + 1 + 1 + 1))
    (fun pre X Y row h hg hr => ⟨h.1, ext_from h.2 hg (fun r e => (hr r e).1)⟩)
    (fun cd pre X Y row h hg hr => by
      have hsz := hxx.sz
      obtain ⟨h0, s, h1, h2, h3, h4, h5⟩ := h
      exact ⟨h0, s, h1, h2, ⟨blk_from h3.blk hg (fun r e => by have := (hr r e).1; omega), map_from h3.map hg (fun r e => by have := (hr r e).1; omega)⟩, blk_from h4 hg (fun r e => by have := (hr r e).1; omega), extB_from h5 hg (fun r e => by have := (hr r e).1; omega)⟩)
    ⟨fun x h => (by cases h), Ext.refl _⟩
    (fun x => MoveA w w1 w2 t k kind x.1) ?hAx ?assign ?body ?done ?stop
  case hAx =>
    rintro x a' s X Y row ⟨Bx, h1, h2, h3⟩ hg hr
    exact ⟨Bx, h1, (hg.block Bx h2.lt (fun e => by obtain ⟨_, o, ho, hc⟩ := hr Bx e.symm; rw [show X.heap[Bx]? = _ from h2] at ho; cases ho; cases hc)).trans h2, h3⟩
  case assign =>
    rintro L pre ⟨x, hx⟩ W K ⟨hne, hB⟩ hK
    have hsz := Ext.sz hB
    obtain ⟨k', sp, se, sbu, srk, sk, sa, sb⟩ := x
    simp only [Slot.val, Slot.cells]
    gi_wp2
    exact hK _ _ ((KeepsOthers.alloc _ _).from _) ⟨(Below.refl _ W).alloc hsz _, (KeepsOthers.alloc _ _).walks⟩ ⟨hne, Ext.alloc hB _⟩ ⟨W.heap.size, hsz, Blk.new W _ _, rfl⟩
  case body =>
    rintro L pre ⟨x, hx⟩ a' W hl ⟨r, hr⟩ ⟨hne, hB⟩ ⟨Bx, hBx, bX, rfl⟩ hlt
    have hsz := Ext.sz hB
    have hsx := hxx.sz
    have hok := HOK.out.ok _ (actives_mem hx).choose_spec
    have hrt := actives_right hx
    have hxW : Ext w1 W := hx12.trans hB
    have e3 : W.cell? ⟨w.heap.size, 0, none⟩ = some (.pointer (some ⟨t, 0, none⟩)) := (HBT.out.ext hxW).cell 0
    have e4 : W.cell? ⟨w.heap.size + 1, 0, none⟩ = some (.string k) := (HBK.out.ext hxW).cell 0
    have e5 : W.cell? ⟨w.heap.size + 1 + 1, 0, none⟩ = some (.int .u8 kind) := (HBQ.out.ext hxW).cell 0
    have bR := HBR.out.ext hxW
    have heq := toList_beq x.key k
    have HTW := Lib.hid (HT.out.ext ((hxx.trans hB)))
    have HMV := Lib.hid (fun W' (hW : Ext W W') => table_move t mb c most clock kind x l W' (HTW.out.ext hW) HOK.out hok hn0 hn1 hrt HK.out)
    have hkey : x.key = x.key := rfl
    have HXX := Lib.hid (hxx.trans hB)
    generalize hms : movedS clock x kind = ms at *
    have HMS := Lib.hid hms
    clear hms hkey
    have hcx := bX.cell
    obtain ⟨k', sp, se, sbu, srk, sk, sa, sb⟩ := x
    simp only [Slot.val, Slot.cells] at bX hcx HMV heq ⊢
    by_cases hk : k' = k
    · rw [decide_eq_true hk] at heq
      subst hk
      gi_wp2_with fail
      refine ⟨trivial, (CallsIn.inRound L (callsIn_wide.2 (HMV.out _ (Ext.refl _)))).mono ?_⟩
      rintro e W1 ⟨⟨v, rfl⟩, htab, htok, hxm⟩
      have bR1 := bR.extB hxm (by omega)
      have hcR := bR1.cell
      have hfR := bR1.free
      gi_wp2
      refine ⟨(KeepsFrom.of_grownBy (extB_grown hxm) (fun j e => by cases e; omega)).trans ((KeepsOthers.setCell _ _ _).from _), rfl, ⟨_, hx⟩, by simp, rfl, ?_, bR1.set 0 (.int .u16 0), ?_⟩
      · rw [HMS.out]
        exact ⟨htab.blk.other (by dsimp only; omega) _, htab.map.other (by dsimp only; omega) _⟩
      · exact (((HXX.out).toB mb).trans hxm).setNew (by dsimp only; omega) _
    · rw [decide_eq_false hk] at heq
      gi_wp2
      refine ⟨KeepsFrom.refl _ _, ⟨Below.refl _ _, KeepsOthers.walks (KeepsOthers.refl _)⟩, fun y hy => ?_, hB⟩
      rcases List.mem_append.1 hy with hy | hy
      · exact hne y hy
      · obtain rfl := List.mem_singleton.1 hy
        exact hk
  case done =>
    rintro D ys W hD hperm ⟨hne, hB⟩ hK
    have hxW : Ext w1 W := hx12.trans hB
    have bR := HBR.out.ext hxW
    have hsz := hxx.sz
    have hcR := bR.cell
    have hfR := bR.free
    gi_wp2
    have hK' := (KeepsOthers.setCell W ⟨w.heap.size + 1 + 1 + 1, 0, none⟩ (.int .u16 52)).same D _ hK rfl
    refine ⟨by simp, .inl ⟨_, _, rfl, run_takeDeferred hK', ?_⟩⟩
    have hg := grownBy_putObj' (W.setCell ⟨w.heap.size + 1 + 1 + 1, 0, none⟩ (.int .u16 52)) D (.deferred none)
    have bR2 := blk_from (bR.set 0 (.int .u16 52)) hg (fun r e => by cases e; omega)
    have hx2 : Ext w (W.setCell ⟨w.heap.size + 1 + 1 + 1, 0, none⟩ (.int .u16 52)) := (hxx.trans hB).setCell (by dsimp only; omega) _
    have hx3 := ext_from hx2 hg (fun r e => by cases e; omega)
    have hc5 := bR2.cell 0
    refine ⟨.int .u16 52, ?_, Or.inr ⟨fun s hs => ?_, rfl, HT.out.ext hx3⟩, hx3.toB mb⟩
    · simp [results, Try.results21, go_sem] at hc5 ⊢
      simp [hc5]
    · have hm := hperm.mem_iff.2 hs
      obtain ⟨y, hy, rfl⟩ := List.mem_map.1 hm
      exact hne y hy
  case stop =>
    rintro D cd pre W hD ⟨rest, hsp⟩ ⟨rfl, s, hs, hkey, htab, bR, hxB⟩ hK
    have hsz := hxx.sz
    gi_wp2
    refine ⟨by simp, .inl ⟨_, _, rfl, run_takeDeferred hK, ?_⟩⟩
    have hg := grownBy_putObj' W D (.deferred none)
    have bR2 := blk_from bR hg (fun r e => by cases e; omega)
    have hc5 := bR2.cell 0
    refine ⟨.int .u16 0, ?_, Or.inl ⟨s.1, s.2, hkey, rfl, ⟨blk_from htab.blk hg (fun r e => by cases e; omega), map_from htab.map hg (fun r e => by cases e; omega)⟩⟩, extB_from hxB hg (fun r e => by cases e; omega)⟩
    simp [results, Try.results21, go_sem] at hc5 ⊢
    simp [hc5]
end Go.Proofs.Ytnlmbmbalmkiiaa

/- Plain laws: tables that differ in the kernels of their slots alone: whoever goes over to whatever kernel, all is told the same. -/
namespace Go.Proofs.Ytnlmbmbalmkiiaa
set_option linter.unusedVariables false
set_option linter.unusedSimpArgs false

/-- what is seen of a slot -/
abbrev Sig := ByteArray × Int × Int × Int
def sg (clock : Int) (s : Slot) : Sig := (s.key, s.e, s.b, kFill s.sk s.sa s.sb clock (s.e * s.b))
def sgs (clock : Int) (l : SMap) : List Sig := l.map fun x => sg clock x.1
/-- a slot that came of a right rule -/
structure Good (clock : Int) (s : Slot) : Prop where
  rule : ruleErr s.p s.e s.b s.rk = 0
  sane : Sane s.sk s.sa s.sb clock (s.e * s.b)
theorem Good.cap {clock : Int} {s : Slot} (h : Good clock s) : s.cap = s.e * s.b ∧ 0 ≤ s.e * s.b ∧ s.e * s.b ≤ 4611686018427387904 := by
  obtain ⟨-, he, hb, hc, -⟩ := ruleErr_zero h.rule
  refine ⟨by unfold Slot.cap ruleCap; rw [if_pos h.rule], Int.mul_nonneg (by omega) (by omega), capOk_lt hc⟩
theorem Good.fill {clock : Int} {s : Slot} (h : Good clock s) : s.fill clock = (sg clock s).2.2.2 := by
  unfold Slot.fill sg; rw [h.cap.1]
theorem Good.drained {clock : Int} {s : Slot} (h : Good clock s) : drained clock s = ((sg clock s).2.2.2 == 0) := by
  unfold Go.Proofs.Ytnlmbmbalmkiiaa.drained; rw [h.fill]
theorem Good.later {clock now : Int} {s : Slot} (h : Good clock s) (hn : clock ≤ now) : Good now s := ⟨h.rule, h.sane.later hn⟩
def sgLater (d : Int) (y : Sig) : Sig := (y.1, y.2.1, y.2.2.1, satSub y.2.2.2 d)
theorem Good.sgl {clock now : Int} {s : Slot} (h : Good clock s) (hn0 : 0 ≤ clock) (hn : clock ≤ now) (hn1 : now < 18446744073709551616) : sg now s = sgLater (now - clock) (sg clock s) := by
  unfold sg sgLater
  rw [h.sane.fill_later h.cap.2.1 h.cap.2.2 hn0 hn hn1]
def Goods (clock : Int) (l : SMap) : Prop := ∀ x ∈ l, Good clock x.1
theorem Goods.later {clock now : Int} {l : SMap} (h : Goods clock l) (hn : clock ≤ now) : Goods now l := fun x hx => (h x hx).later hn
theorem Goods.sgs {clock now : Int} {l : SMap} (h : Goods clock l) (hn0 : 0 ≤ clock) (hn : clock ≤ now) (hn1 : now < 18446744073709551616) : sgs now l = (sgs clock l).map (sgLater (now - clock)) := by
  unfold Go.Proofs.Ytnlmbmbalmkiiaa.sgs
  rw [List.map_map]
  exact List.map_congr_left fun x hx => (h x hx).sgl hn0 hn hn1

theorem look_sg (clock : Int) (l : SMap) (k : ByteArray) : (l.look k).map (sg clock) = (sgs clock l).find? fun y => decide (y.1 = k) := by
  unfold SMap.look sgs
  rw [List.find?_map, Option.map_map]
  rfl
theorem del_sg (clock : Int) (l : SMap) (k : ByteArray) : sgs clock (l.del k) = (sgs clock l).filter fun y => decide (y.1 ≠ k) := by
  unfold SMap.del sgs
  rw [List.filter_map]
  rfl
theorem rep_sg (clock : Int) (l : SMap) (s : Slot) : sgs clock (l.rep s) = (sgs clock l).map fun y => if y.1 = s.key then sg clock s else y := by
  unfold SMap.rep sgs
  rw [List.map_map, List.map_map]
  refine List.map_congr_left fun x _ => ?_
  show sg clock (if x.1.key = s.key then (s, x.2) else x).1 = if x.1.key = s.key then sg clock s else sg clock x.1
  split <;> rfl
theorem put_sg (clock : Int) (l : SMap) (s : Slot) (c : Nat) : sgs clock (l.put s c) =
    if ((sgs clock l).find? fun y => decide (y.1 = s.key)).isSome then (sgs clock l).map fun y => if y.1 = s.key then sg clock s else y else sgs clock l ++ [sg clock s] := by
  rw [← look_sg]
  unfold SMap.put
  rw [Option.isSome_map]
  split
  · rw [rep_sg]
  · unfold sgs; rw [List.map_append]; rfl
theorem swept_sg {clock : Int} {l : SMap} (h : Goods clock l) : sgs clock (l.filter fun x => !drained clock x.1) = (sgs clock l).filter fun y => !(y.2.2.2 == 0) := by
  unfold sgs
  rw [List.filter_map]
  congr 1
  refine List.filter_congr fun x hx => ?_
  rw [(h x hx).drained]
  rfl
theorem sgs_len (clock : Int) (l : SMap) : (sgs clock l).length = l.length := by unfold sgs; rw [List.length_map]

/-- two tables that look alike -/
structure Al (clock : Int) (l l' : SMap) : Prop where
  sig : sgs clock l = sgs clock l'
  a : Goods clock l
  b : Goods clock l'
theorem Al.nil (clock : Int) : Al clock [] [] := ⟨rfl, fun x h => (by cases h), fun x h => (by cases h)⟩
theorem Al.later {clock now : Int} {l l' : SMap} (h : Al clock l l') (hn0 : 0 ≤ clock) (hn : clock ≤ now) (hn1 : now < 18446744073709551616) : Al now l l' :=
  ⟨by rw [h.a.sgs hn0 hn hn1, h.b.sgs hn0 hn hn1, h.sig], h.a.later hn, h.b.later hn⟩
theorem Al.len {clock : Int} {l l' : SMap} (h : Al clock l l') : l.length = l'.length := by rw [← sgs_len clock l, h.sig, sgs_len]

/-- of a slot that is hit -/
theorem hit_sg {clock : Int} {l : SMap} (h : Goods clock l) (k : ByteArray) (e b : Int) : (slotHit l k e b clock).map (sg clock) = ((sgs clock l).find? fun y => decide (y.1 = k)).filter fun y => y.2.1 == e && y.2.2.1 == b && !(y.2.2.2 == 0) := by
  rw [← look_sg]
  unfold slotHit
  cases hl : l.look k with
  | none => rfl
  | some s =>
    obtain ⟨n, hn⟩ := look_mem hl
    have hg := h _ hn
    have e1 : (s.e == e && s.b == b && !(s.fill clock == 0)) = ((sg clock s).2.1 == e && (sg clock s).2.2.1 == b && !((sg clock s).2.2.2 == 0)) := by
      rw [hg.fill]; rfl
    show Option.map (sg clock) (if (s.e == e && s.b == b && !(s.fill clock == 0)) = true then some s else none) = if ((sg clock s).2.1 == e && (sg clock s).2.2.1 == b && !((sg clock s).2.2.2 == 0)) = true then some (sg clock s) else none
    by_cases q : (s.e == e && s.b == b && !(s.fill clock == 0)) = true
    · rw [if_pos q, if_pos (e1.symm.trans q)]; rfl
    · rw [if_neg q, if_neg (fun r => q (e1.trans r))]; rfl
theorem Al.hit {clock : Int} {l l' : SMap} (h : Al clock l l') (k : ByteArray) (e b : Int) : (slotHit l k e b clock).map (sg clock) = (slotHit l' k e b clock).map (sg clock) := by
  rw [hit_sg h.a, hit_sg h.b, h.sig]
theorem Al.some {clock : Int} {l l' : SMap} (h : Al clock l l') (k : ByteArray) (e b : Int) : (slotHit l k e b clock).isSome = (slotHit l' k e b clock).isSome := by
  have := congrArg Option.isSome (h.hit k e b)
  rwa [Option.isSome_map, Option.isSome_map] at this
theorem Goods.sub {clock : Int} {l m : SMap} (h : Goods clock l) (hs : ∀ x ∈ m, x ∈ l) : Goods clock m := fun x hx => h x (hs x hx)
theorem slotLeft_sub (l : SMap) (k : ByteArray) (e b clock : Int) : ∀ x ∈ slotLeft l k e b clock, x ∈ l := by
  unfold slotLeft
  split
  · exact fun x hx => hx
  · exact fun x hx => (List.mem_filter.1 hx).1
theorem Al.left {clock : Int} {l l' : SMap} (h : Al clock l l') (k : ByteArray) (e b : Int) : Al clock (slotLeft l k e b clock) (slotLeft l' k e b clock) := by
  refine ⟨?_, h.a.sub (slotLeft_sub l k e b clock), h.b.sub (slotLeft_sub l' k e b clock)⟩
  unfold slotLeft
  rw [h.some k e b]
  split
  · exact h.sig
  · rw [del_sg, del_sg, h.sig]
theorem Al.roomed {clock : Int} {l l' : SMap} (h : Al clock l l') (is : Bool) (most : Int) : Al clock (roomed clock l is most) (roomed clock l' is most) := by
  unfold Go.Proofs.Ytnlmbmbalmkiiaa.roomed
  rw [h.len]
  split
  · exact ⟨by rw [swept_sg h.a, swept_sg h.b, h.sig], h.a.sub fun x hx => (List.mem_filter.1 hx).1, h.b.sub fun x hx => (List.mem_filter.1 hx).1⟩
  · exact h
theorem Al.room {clock : Int} {l l' : SMap} (h : Al clock l l') (most : Int) (k : ByteArray) (e b : Int) : Al clock (chRoom most clock l k e b) (chRoom most clock l' k e b) := by
  unfold chRoom
  rw [h.some k e b]
  exact (h.left k e b).roomed _ _
theorem Al.full {clock : Int} {l l' : SMap} (h : Al clock l l') (most : Int) (k : ByteArray) (e b : Int) : chFull most clock l k e b = chFull most clock l' k e b := by
  unfold chFull Go.Proofs.Ytnlmbmbalmkiiaa.full
  rw [h.some k e b, ((h.left k e b).roomed _ _).len]
theorem Al.put {clock : Int} {l l' : SMap} (h : Al clock l l') {s s' : Slot} (hs : sg clock s = sg clock s') (g : Good clock s) (g' : Good clock s') (c c' : Nat) : Al clock (l.put s c) (l'.put s' c') := by
  have hk : s.key = s'.key := congrArg (·.1) hs
  refine ⟨by rw [put_sg, put_sg, h.sig, hs, hk], fun x hx => ?_, fun x hx => ?_⟩
  · rcases put_mem hx with q | q
    · exact h.a x q
    · rw [q]; exact g
  · rcases put_mem hx with q | q
    · exact h.b x q
    · rw [q]; exact g'

/-- what is told of a state, by how full it is -/
def ansF (f cap W burst e : Int) : Value :=
  ansV (chCode (decide (f + W ≤ cap))) 0 burst (divS (satSub cap (if f + W ≤ cap then f + W else f)) e) (ceilS (if f + W ≤ cap then f + W else f) 1000000000) (ceilS (kWait f cap W) 1000000000) (kWait f cap W) (kRetry f cap W)
theorem ans_of {k a x clock cap W burst e : Int} (h : Sane k a x clock cap) (hc : 0 ≤ cap) (hn0 : 0 ≤ clock) (hW : 0 ≤ W) (hb : clock + cap < 18446744073709551616) : chAns k a x clock cap W burst e = ansF (kFill k a x clock cap) cap W burst e := by
  unfold chAns ansF
  rw [(h.next hc hn0 hW hb).2, h.ok hc hn0 hW]
  simp only [decide_eq_true_eq]
/-- how full a key is that is charged -/
def hitF (clock : Int) (h : Option Slot) : Int := match h with | some s => (sg clock s).2.2.2 | none => 0
theorem hit_sane {clock : Int} {l : SMap} (h : Goods clock l) {k p : ByteArray} {e b rk : Int} (hr : ruleErr p e b rk = 0) (hn0 : 0 ≤ clock) (hb : clock + e * b < 18446744073709551616) :
    let H := slotHit l k e b clock
    Sane (chK H rk) (chA H rk clock (e * b)) (chB H rk clock) clock (e * b) ∧ kFill (chK H rk) (chA H rk clock (e * b)) (chB H rk clock) clock (e * b) = hitF clock H := by
  obtain ⟨-, he, hbb, -, hrk⟩ := ruleErr_zero hr
  have hc : 0 ≤ e * b := Int.mul_nonneg (by omega) (by omega)
  have hk : rk = 1 ∨ rk = 2 ∨ rk = 3 := by unfold rightKind at hrk; simp at hrk; omega
  cases hh : slotHit l k e b clock with
  | none => exact Sane.of hk hc hn0 hb
  | some s =>
    obtain ⟨m, hm⟩ := slotHit_mem hh
    obtain ⟨-, h1, h2, -⟩ := hit_look hh
    have hs := (h _ hm).sane
    rw [h1, h2] at hs
    exact ⟨hs, by show _ = kFill s.sk s.sa s.sb clock (s.e * s.b); rw [h1, h2]; rfl⟩
theorem hitF_of {clock : Int} {x y : Option Slot} (h : x.map (sg clock) = y.map (sg clock)) : hitF clock x = hitF clock y := by
  cases x with
  | none =>
    cases y with
    | none => rfl
    | some _ => cases h
  | some s =>
    cases y with
    | none => cases h
    | some s' =>
      have : sg clock s = sg clock s' := by simpa using h
      show (sg clock s).2.2.2 = (sg clock s').2.2.2
      rw [this]
/-- a charge of two tables that look alike, by rules that differ in their kernel -/
theorem Al.charge {clock most : Int} {l l' : SMap} (h : Al clock l l') (c c' : Nat) {k p : ByteArray} {e b rk rk' n : Int} (hr : ruleErr p e b rk = 0) (hr' : ruleErr p e b rk' = 0) (hn0 : 0 ≤ clock) (hb : clock + e * b < 18446744073709551616) (hn : 0 ≤ n) :
    cgV most clock l k p e b rk n = cgV most clock l' k p e b rk' n ∧ Al clock (cgL most clock l c k p e b rk n) (cgL most clock l' c' k p e b rk' n) := by
  obtain ⟨-, he, hbb, -, -⟩ := ruleErr_zero hr
  have hc : 0 ≤ e * b := Int.mul_nonneg (by omega) (by omega)
  have hW := satMul_u n e hn (by omega)
  obtain ⟨hs, hf⟩ := hit_sane h.a (k := k) hr hn0 hb
  obtain ⟨hs', hf'⟩ := hit_sane h.b (k := k) hr' hn0 hb
  have hF := hitF_of (h.hit k e b)
  have hok : chgOk clock (slotHit l k e b clock) e b rk n = chgOk clock (slotHit l' k e b clock) e b rk' n := by
    unfold chgOk
    rw [hs.ok hc hn0 hW.1, hs'.ok hc hn0 hW.1, hf, hf', hF]
  unfold cgV cgL
  by_cases hk : keyOk k = false
  · rw [if_pos hk, if_pos hk, if_pos hk, if_pos hk]; exact ⟨rfl, h⟩
  · rw [if_neg hk, if_neg hk, if_neg hk, if_neg hk, if_neg (not_not_intro hr), if_neg (not_not_intro hr'), if_neg (not_not_intro hr), if_neg (not_not_intro hr')]
    unfold chargeV chargeL
    rw [h.full most k e b, hok]
    split
    · exact ⟨rfl, h.room most k e b⟩
    · constructor
      · unfold chgV
        rw [ans_of hs hc hn0 hW.1 hb, ans_of hs' hc hn0 hW.1 hb, hf, hf', hF]
      · unfold chL
        split
        · have hn1 := hs.next (W := satMul n e) hc hn0 hW.1 hb
          have hn2 := hs'.next (W := satMul n e) hc hn0 hW.1 hb
          have hok' : kOk (chK (slotHit l k e b clock) rk) (chA (slotHit l k e b clock) rk clock (e * b)) (chB (slotHit l k e b clock) rk clock) clock (e * b) (satMul n e) = kOk (chK (slotHit l' k e b clock) rk') (chA (slotHit l' k e b clock) rk' clock (e * b)) (chB (slotHit l' k e b clock) rk' clock) clock (e * b) (satMul n e) := hok
          refine (h.room most k e b).put ?_ ⟨hr, hn1.1⟩ ⟨hr', hn2.1⟩ c c'
          have e12 := (hn1.2.trans (by rw [hf, hF, hok', ← hf'])).trans hn2.2.symm
          exact congrArg (fun f : Int => ((k, e, b, f) : Sig)) e12
        · exact h.room most k e b

/-- a slot that goes over is as full as it was -/
theorem Sane.ofF {k clock cap F : Int} (hk : k = 1 ∨ k = 2 ∨ k = 3) (hF0 : 0 ≤ F) (hF : F ≤ cap) (hn0 : 0 ≤ clock) (hb : clock + cap < 18446744073709551616) : Sane k (kOfA k clock cap F) (kOfB k clock) clock cap ∧ kFill k (kOfA k clock cap F) (kOfB k clock) clock cap = F := by
  unfold Sane kFill kOfA kOfB satSub satAdd
  rcases hk with rfl | rfl | rfl
  · simp only [if_true]
    refine ⟨⟨?_, ?_, Or.inl ⟨trivial, ?_⟩⟩, ?_⟩ <;> repeat' split
    all_goals omega
  · simp only [show ¬ ((2 : Int) = 1) by decide, if_false, if_true]
    refine ⟨⟨?_, ?_, Or.inr ⟨Or.inl trivial, ?_, ?_⟩⟩, ?_⟩ <;> repeat' split
    all_goals omega
  · simp only [show ¬ ((3 : Int) = 1) by decide, show ¬ ((3 : Int) = 2) by decide, if_false, if_true]
    refine ⟨⟨?_, ?_, Or.inr ⟨Or.inr trivial, ?_, ?_⟩⟩, ?_⟩ <;> repeat' split
    all_goals omega
theorem moved_sg {clock kind : Int} {s : Slot} (g : Good clock s) (hk : rightKind kind = true) (hn0 : 0 ≤ clock) (hn1 : clock < 9223372036854775808) : sg clock (movedS clock s kind) = sg clock s ∧ Good clock (movedS clock s kind) := by
  obtain ⟨c1, c2, c3⟩ := g.cap
  have hf := g.sane.fill_le c2 hn0
  have hfe : s.fill clock = kFill s.sk s.sa s.sb clock (s.e * s.b) := g.fill
  have hkk : kind = 1 ∨ kind = 2 ∨ kind = 3 := by unfold rightKind at hk; simp at hk; omega
  have := Sane.ofF (clock := clock) hkk hf.1 hf.2 hn0 (by omega)
  refine ⟨?_, g.rule, ?_⟩
  · unfold sg movedS
    simp only
    rw [c1, hfe, this.2]
  · show Sane kind (kOfA kind clock s.cap (s.fill clock)) (kOfB kind clock) clock (s.e * s.b)
    rw [c1, hfe]
    exact this.1
theorem put_same {clock : Int} {l : SMap} (hk : l.keys.Nodup) {s : Slot} (hm : sg clock s ∈ sgs clock l) (c : Nat) : sgs clock (l.put s c) = sgs clock l := by
  obtain ⟨⟨y, m⟩, hy, hys⟩ := List.mem_map.1 hm
  have hyk : y.key = s.key := congrArg (·.1) hys
  have hl : (l.look s.key).isSome = true := by rw [← hyk, mem_look hk hy]; rfl
  unfold SMap.put
  rw [if_pos hl, rep_sg]
  unfold sgs
  rw [List.map_map]
  refine List.map_congr_left fun x hx => ?_
  show (if x.1.key = s.key then sg clock s else sg clock x.1) = sg clock x.1
  split
  · rename_i h
    have := key_eq hk (show (x.1, x.2) ∈ l from hx) hy (h.trans hyk.symm)
    have e1 : x.1 = y := congrArg (·.1) this
    rw [e1]
    exact hys.symm
  · rfl
theorem Al.moved {clock kind : Int} {l l' : SMap} (h : Al clock l l') (hk : l.keys.Nodup) {s : Slot} (hm : sg clock s ∈ sgs clock l) (g : Good clock s) (hq : rightKind kind = true) (hn0 : 0 ≤ clock) (hn1 : clock < 9223372036854775808) (c : Nat) : Al clock (l.put (movedS clock s kind) c) l' := by
  have hmv := moved_sg g hq hn0 hn1
  refine ⟨by rw [put_same hk (by rw [hmv.1]; exact hm), h.sig], fun x hx => ?_, h.b⟩
  rcases put_mem hx with q | q
  · exact h.a x q
  · rw [q]; exact hmv.2

/-- what is told of who is active -/
def entSig (clock : Int) (y : Sig) : Ent := ⟨y.1, kUntil y.2.2.2 clock⟩
theorem ents_sg {clock : Int} {l : SMap} (h : Goods clock l) : entsOf clock l = (((sgs clock l).filter fun y => !(y.2.2.2 == 0)).mergeSort fun x y => decide (x.1.toList ≤ y.1.toList)).map (entSig clock) := by
  have h1 : (actives clock l).map (sg clock) = (sgs clock l).filter fun y => !(y.2.2.2 == 0) := by
    rw [← swept_sg h]
    unfold actives sgs
    rw [List.map_map]
    rfl
  rw [← h1]
  have h2 : ((actives clock l).mergeSort fun x y => decide (x.key.toList ≤ y.key.toList)).map (sg clock) = ((actives clock l).map (sg clock)).mergeSort fun x y => decide (x.1.toList ≤ y.1.toList) :=
    List.map_mergeSort fun a _ b _ => rfl
  rw [← h2, List.map_map]
  unfold entsOf slotsOf
  refine List.map_congr_left fun x hx => ?_
  have hm : x ∈ actives clock l := (List.mergeSort_perm _ _).mem_iff.1 hx
  obtain ⟨n, hn⟩ := actives_mem hm
  unfold entOf
  show _ = entSig clock (sg clock x)
  unfold entSig
  rw [(h _ hn).fill]
  rfl
theorem Al.ents {clock : Int} {l l' : SMap} (h : Al clock l l') : entsOf clock l = entsOf clock l' := by rw [ents_sg h.a, ents_sg h.b, h.sig]
end Go.Proofs.Ytnlmbmbalmkiiaa

/- Walks: a table's MoveAll. -/
namespace Go.Proofs.Ytnlmbmbalmkiiaa
open Go.RowKit
set_option linter.unusedVariables false
set_option linter.unusedSimpArgs false

/-- slots that go over, one behind another -/
def mvStep (clock kind : Int) (p : SMap × Nat) (s : Slot) : SMap × Nat := (p.1.put (movedS clock s kind) p.2, p.1.putC (movedS clock s kind) p.2)
def mvTo (clock kind : Int) (l : SMap) (c k : Nat) : SMap × Nat := ((slotsOf clock l).take k).foldl (mvStep clock kind) (l, c)
theorem mvTo_zero (clock kind : Int) (l : SMap) (c : Nat) : mvTo clock kind l c 0 = (l, c) := rfl
theorem mvTo_succ (clock kind : Int) (l : SMap) (c k : Nat) (h : k < (slotsOf clock l).length) : mvTo clock kind l c (k + 1) = mvStep clock kind (mvTo clock kind l c k) (slotsOf clock l)[k] := by
  unfold mvTo
  rw [List.take_succ_eq_append_getElem h, List.foldl_append]
  rfl

set_option maxHeartbeats 1000000 in
set_option maxRecDepth 100000 in
theorem table_MoveAllN (t : Nat) (kind : Int) (w : World) (hq : rightKind kind = false) :
    Calls Try.prog 22 #[.pointer (some ⟨t, 0, none⟩), .int .u8 kind] w fun x w' => x = .returned (.tuple #[.int .i64 0, .int .u16 27]) ∧ Ext w w' := by
  have HQ := Lib.hid hq
  clear hq
  go_enter Try.func22, Try.ntmps22
  go_wp2_with fail
  refine (kernel_Right kind _).mono ?_
  rw [HQ.out]
  rintro x w1 ⟨rfl, hx1⟩
  go_wp2
  go_ret2
  exact ⟨rfl, hx1⟩

set_option maxHeartbeats 4000000 in
set_option maxRecDepth 100000 in
theorem table_MoveAllY (t mb c : Nat) (most clock kind : Int) (l : SMap) (w : World) (ht : TabAt w t mb most clock l c) (hok : TabOk l c) (hn0 : 0 ≤ clock) (hn1 : clock < 18446744073709551616) (hlen : l.length ≤ 1000000) (hq : rightKind kind = true) :
    Calls Try.prog 22 #[.pointer (some ⟨t, 0, none⟩), .int .u8 kind] w fun x w' => x = .returned (.tuple #[.int .i64 ((slotsOf clock l).length : Int), .int .u16 0]) ∧
      TabAt w' t mb most clock (mvTo clock kind l c (slotsOf clock l).length).1 (mvTo clock kind l c (slotsOf clock l).length).2 ∧ TabOk (mvTo clock kind l c (slotsOf clock l).length).1 (mvTo clock kind l c (slotsOf clock l).length).2 ∧ ExtB mb w w' := by
  have HQ := Lib.hid hq
  have HT := Lib.hid ht
  have HOK := Lib.hid hok
  have hmb := ht.map.lt
  clear hq ht hok
  go_enter Try.func22, Try.ntmps22
  go_wp2_with fail
  refine (kernel_Right kind _).mono ?_
  rw [HQ.out]
  rintro x w1 ⟨rfl, hx1⟩
  go_wp2_with fail
  refine (table_Slots t mb c most clock l _ (HT.out.ext hx1) HOK.out hn0 hn1 hlen).mono ?_
  rintro x w2 ⟨v2, rfl, hs2, hx2⟩
  obtain ⟨a, cp, rfl⟩ := hs2.size
  have hsl : (slotsOf clock l).length ≤ 1000000 := Nat.le_trans (by rw [slotsOf_len]; exact actives_len clock l) hlen
  have HS2 := Lib.hid hs2
  have h12 := hx1.sz
  have HEACH := Lib.hid (fun s (hs : s ∈ slotsOf clock l) => (⟨by obtain ⟨n, hn⟩ := actives_mem ((slotsOf_perm clock l).mem_iff.1 hs); exact HOK.out.ok _ hn, actives_right ((slotsOf_perm clock l).mem_iff.1 hs)⟩ : SlotOk s ∧ rightKind s.sk = true))
  have HSUCC := Lib.hid (fun k h => mvTo_succ clock kind l c k h)
  have HZ := Lib.hid (mvTo_zero clock kind l c)
  generalize hgs : slotsOf clock l = sl at *
  generalize hgm : mvTo clock kind l c = MV at *
  have HGS := Lib.hid hgs
  have HGM := Lib.hid hgm
  clear hgs hgm
  have H02 := Lib.hid (hx1.trans hx2)
  clear hs2 hx1 hx2
  go_wp2
  go_loopw [16] (fun i wr => ∃ (k : Nat), k ≤ sl.length ∧ i = .int .i64 k ∧ TabAt wr t mb most clock (MV k).1 (MV k).2 ∧ TabOk (MV k).1 (MV k).2 ∧ ExtB mb w2 wr) (fun i _ => sl.length - (intOf i).toNat)
  case atStart => exact ⟨0, by omega, rfl, by rw [HZ.out]; exact HT.out.ext H02.out, by rw [HZ.out]; exact HOK.out, ExtB.refl _ _⟩
  case round =>
    obtain ⟨k, hk, rfl, htk, hokk, hx⟩ := hrel
    by_cases hlt : k < sl.length
    · obtain ⟨b, rfl, hbl, -, e0, e1, e2, e3, e4, e5, e6, e7⟩ := slot_all (HS2.out.extB hx (by omega)) (Ext.refl _) k hlt
      have hso := HEACH.out sl[k] (List.getElem_mem _)
      have hsu := HSUCC.out k hlt
      generalize sl[k] = s at *
      generalize hM : MV k = M at *
      generalize hM1 : MV (k + 1) = M1 at *
      have HSU := Lib.hid hsu
      have HM1 := Lib.hid hM1
      have HTK := Lib.hid htk
      have HOKK := Lib.hid hokk
      have HMV := Lib.hid (fun W (hx : Ext wr W) => table_move t mb M.2 most clock kind s M.1 W (HTK.out.ext hx) HOKK.out hso.1 hn0 hn1 hso.2 HQ.out)
      clear hsu htk hokk hso hM1 hM
      obtain ⟨s1, s2, s3, s4, s5, s6, s7, s8⟩ := s
      simp only [Slot.val, Slot.cells] at e0 e1 e2 e3 e4 e5 e6 e7 HMV
      have hx1 : Ext wr (wr.alloc (.cells #[.string s1, .string s2, .int .u64 s3, .int .u64 s4, .int .u8 s5, .int .u8 s6, .int .u64 s7, .int .u64 s8] 52)) := (Ext.refl wr).alloc _
      have HC := Lib.hid (HMV.out _ hx1)
      clear HMV
      go_wp2_with fail
      (with_reducible refine HC.out.mono ?_)
      rintro x w3 ⟨⟨v3, rfl⟩, ht3, hok3, hx3⟩
      go_wp2
      go_roundw
      case rel => exact ⟨k + 1, by omega, by go_num, by rw [HM1.out, HSU.out]; exact ht3, by rw [HM1.out, HSU.out]; exact hok3, (hx.trans (hx1.toB mb)).trans hx3⟩
      case measure => simp [intOf]; omega
    · obtain rfl : k = sl.length := by omega
      have HTK := Lib.hid htk
      have HOKK := Lib.hid hokk
      clear htk hokk
      go_wp2
      go_ret2
      rw [HGS.out, HGM.out]
      exact ⟨rfl, HTK.out, HOKK.out, (H02.out.toB mb).trans hx⟩
end Go.Proofs.Ytnlmbmbalmkiiaa

/- Plain laws: two tables that look alike, whose slots go over to whatever kernel. -/
namespace Go.Proofs.Ytnlmbmbalmkiiaa
set_option linter.unusedVariables false
set_option linter.unusedSimpArgs false

theorem cgL_most {n : Nat} {clock : Int} {l : SMap} (c : Nat) (k p : ByteArray) (e b rk w : Int) (hlen : l.length ≤ n) : (cgL n clock l c k p e b rk w).length ≤ n := by
  have hsub := chRoom_sub (most := n) (clock := clock) (l := l) (k := k) (e := e) (b := b)
  unfold cgL
  split
  · exact hlen
  · split
    · exact hlen
    · unfold chargeL
      split
      · omega
      · rename_i hnf
        unfold chL
        split
        · exact room_put hlen rfl hnf
        · omega
theorem moved_ok {clock kind : Int} {s : Slot} (hso : SlotOk s) (hg : Good clock s) (hq : rightKind kind = true) (hn0 : 0 ≤ clock) (hn1 : clock < 9223372036854775808) : SlotOk (movedS clock s kind) := by
  have hkind : 0 ≤ kind ∧ kind < 256 := by unfold rightKind at hq; simp at hq; omega
  have hcap := hg.cap
  have hfl := hg.sane.fill_le hcap.2.1 hn0
  have hfe : s.fill clock = kFill s.sk s.sa s.sb clock (s.e * s.b) := hg.fill
  have hnum := kOf_u kind clock s.cap (s.fill clock) hn0 (by omega) (by rw [hcap.1]; omega) (by rw [hcap.1]; omega) (by rw [hfe]; omega) (by rw [hfe]; omega)
  exact ⟨hso.key, hso.p, hso.e0, hso.e1, hso.b0, hso.b1, hso.rk0, hso.rk1, hkind.1, hkind.2, hnum.1, hnum.2.1, hnum.2.2.1, hnum.2.2.2⟩
theorem Al.movedOne {clock kind : Int} {l l' : SMap} {c : Nat} (h : Al clock l l') (hok : TabOk l c) {s : Slot} (hs : s ∈ actives clock l) (hq : rightKind kind = true) (hn0 : 0 ≤ clock) (hn1 : clock < 9223372036854775808) :
    TabOk (l.put (movedS clock s kind) c) (l.putC (movedS clock s kind) c) ∧ Al clock (l.put (movedS clock s kind) c) l' := by
  obtain ⟨n, hn⟩ := actives_mem hs
  have hg : Good clock s := h.a _ hn
  exact ⟨hok.put (moved_ok (hok.ok _ hn) hg hq hn0 hn1), h.moved hok.keys (List.mem_map.2 ⟨_, hn, rfl⟩) hg hq hn0 hn1 c⟩
theorem ruleErr_kind {p : ByteArray} {e b rk rk' : Int} (h : ruleErr p e b rk = 0) (hk : rightKind rk' = true) : ruleErr p e b rk' = 0 := by
  have hz := ruleErr_zero h
  unfold ruleErr at h ⊢
  rw [hk]
  rw [hz.2.2.2.2] at h
  exact h
/-- slots that go over look as they did -/
theorem Al.movedAll {clock kind : Int} {l l' : SMap} {c : Nat} (h : Al clock l l') (hok : TabOk l c) (hq : rightKind kind = true) (hn0 : 0 ≤ clock) (hn1 : clock < 9223372036854775808) :
    ∀ k, k ≤ (slotsOf clock l).length → TabOk (mvTo clock kind l c k).1 (mvTo clock kind l c k).2 ∧ Al clock (mvTo clock kind l c k).1 l' := by
  intro k
  induction k with
  | zero => intro _; exact ⟨hok, h⟩
  | succ k ih =>
    intro hk
    obtain ⟨i1, i2⟩ := ih (by omega)
    rw [mvTo_succ clock kind l c k (by omega)]
    have hm : (slotsOf clock l)[k] ∈ slotsOf clock l := List.getElem_mem _
    generalize (slotsOf clock l)[k] = s at *
    obtain ⟨n, hn⟩ := actives_mem ((slotsOf_perm clock l).mem_iff.1 hm)
    have hg : Good clock s := h.a _ hn
    have hso : SlotOk s := hok.ok _ hn
    have hso' := moved_ok hso hg hq hn0 hn1
    unfold mvStep
    refine ⟨i1.put hso', i2.moved i1.keys ?_ hg hq hn0 hn1 _⟩
    rw [i2.sig, ← h.sig]
    exact List.mem_map.2 ⟨_, hn, rfl⟩
end Go.Proofs.Ytnlmbmbalmkiiaa

/- Walks: a table's Move and MoveAll to no kernel; what they do to a table that looks like another one. -/
namespace Go.Proofs.Ytnlmbmbalmkiiaa
open Go.RowKit
set_option linter.unusedVariables false
set_option linter.unusedSimpArgs false

set_option maxHeartbeats 1000000 in
set_option maxRecDepth 100000 in
theorem table_MoveN (t : Nat) (kind : Int) (k : ByteArray) (w : World) (hq : rightKind kind = false) :
    Calls Try.prog 21 #[.pointer (some ⟨t, 0, none⟩), .string k, .int .u8 kind] w fun x w' => x = .returned (.int .u16 27) ∧ Ext w w' := by
  have HQ := Lib.hid hq
  clear hq
  have hx0 : Ext w ((((w.alloc (.cells #[.pointer (some ⟨t, 0, none⟩)] 32)).alloc (.cells #[.string k] 9)).alloc (.cells #[.int .u8 kind] 5)).alloc (.cells #[.int .u16 0] 34)) := ((((Ext.refl w).alloc _).alloc _).alloc _).alloc _
  have br := Blk.new' (((w.alloc (.cells #[.pointer (some ⟨t, 0, none⟩)] 32)).alloc (.cells #[.string k] 9)).alloc (.cells #[.int .u8 kind] 5)) #[.int .u16 0] 34 (b := w.heap.size + 1 + 1 + 1) (by simp)
  go_enter Try.func21, Try.ntmps21
  go_wp2_with fail
  refine (kernel_Right kind _).mono ?_
  rw [HQ.out]
  rintro x w1 ⟨rfl, hx1⟩
  have hR := br.ext hx1
  have hfr := hR.free
  have hcr := hR.cell
  have hxx := hx0.trans hx1
  go_wp2
  have hc5 := (hR.set 0 (.int .u16 27)).cell 0
  refine bodyPost_ret (v := .int .u16 27) (by simp [results, Try.results21, go_sem] at hc5 ⊢; simp [hc5]) rfl ⟨rfl, hxx.setCell (by dsimp only; omega) _⟩

theorem move_al (t mb c : Nat) (most clock kind : Int) (k : ByteArray) (l l' : SMap) (w : World) (ht : TabAt w t mb most clock l c) (hok : TabOk l c) (hal : Al clock l l') (hn0 : 0 ≤ clock) (hn1 : clock < 9223372036854775808) :
    Calls Try.prog 21 #[.pointer (some ⟨t, 0, none⟩), .string k, .int .u8 kind] w fun x w' => ∃ v l2 c2, x = .returned v ∧ TabAt w' t mb most clock l2 c2 ∧ TabOk l2 c2 ∧ Al clock l2 l' ∧ ExtB mb w w' := by
  cases hq : rightKind kind with
  | false =>
    refine (table_MoveN t kind k w hq).mono ?_
    rintro x w' ⟨rfl, hx⟩
    exact ⟨_, l, c, rfl, ht.ext hx, hok, hal, hx.toB mb⟩
  | true =>
    refine (table_MoveY t mb c most clock kind k l w ht hok hn0 (by omega) hq).mono ?_
    rintro x w' ⟨⟨s, hs, -, rfl, htb⟩ | ⟨-, rfl, htb⟩, hx⟩
    · have hm := Al.movedOne hal hok hs hq hn0 hn1
      exact ⟨_, _, _, rfl, htb, hm.1, hm.2, hx⟩
    · exact ⟨_, l, c, rfl, htb, hok, hal, hx⟩

theorem moveAll_al (t mb c : Nat) (most clock kind : Int) (l l' : SMap) (w : World) (ht : TabAt w t mb most clock l c) (hok : TabOk l c) (hal : Al clock l l') (hn0 : 0 ≤ clock) (hn1 : clock < 9223372036854775808) (hlen : l.length ≤ 1000000) :
    Calls Try.prog 22 #[.pointer (some ⟨t, 0, none⟩), .int .u8 kind] w fun x w' => ∃ v l2 c2, x = .returned v ∧ TabAt w' t mb most clock l2 c2 ∧ TabOk l2 c2 ∧ Al clock l2 l' ∧ ExtB mb w w' := by
  cases hq : rightKind kind with
  | false =>
    refine (table_MoveAllN t kind w hq).mono ?_
    rintro x w' ⟨rfl, hx⟩
    exact ⟨_, l, c, rfl, ht.ext hx, hok, hal, hx.toB mb⟩
  | true =>
    refine (table_MoveAllY t mb c most clock kind l w ht hok hn0 (by omega) hlen hq).mono ?_
    rintro x w' ⟨rfl, htb, htk, hx⟩
    have hm := hal.movedAll hok hq hn0 hn1 _ (Nat.le_refl _)
    exact ⟨_, _, _, rfl, htb, htk, hm.2, hx⟩
end Go.Proofs.Ytnlmbmbalmkiiaa
