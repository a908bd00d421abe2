/- Walks: keep.Keep, keep.Lost. The contract of keep.judge.stays, proved; keep.Keep and keep.Lost by it. Walks: what is told of a table whose slots are known, and of it by other rules. -/
import Derived.Test.YtfglpejbgfmojaaGreatG44
import Derived.Test.YtfglpejbgfmojaaGreatG45
import Derived.Test.YtfglpejbgfmojaaGreatG46
import Derived.Test.YtfglpejbgfmojaaGreatG37
import Derived.Test.YtfglpejbgfmojaaGreatG40

/- Walks: keep.Keep, keep.Lost. -/
namespace Go.Proofs.YtfglpejbgfmojaaGreat
open Go.RowKit
set_option linter.unusedVariables false
set_option linter.unusedSimpArgs false

/-- what Keep tells -/
def KeepEnd (w : World) (most clock : Int) (kept gone : List Slot) (x : Ending) (w' : World) : Prop :=
  ∃ p, Ext w w' ∧ ((ofErr most clock kept = 0 ∧ ∃ t m, p = some ⟨t, 0, none⟩ ∧ w.heap.size ≤ t ∧ w.heap.size ≤ m ∧ TabAt w' t m most clock (putTo kept).1 (putTo kept).2 ∧ x = .returned (.tuple #[.pointer p, .int .i64 (gone.length : Int), .int .u16 0])) ∨
    (ofErr most clock kept ≠ 0 ∧ p = none ∧ x = .returned (.tuple #[.pointer p, .int .i64 0, .int .u16 (ofErr most clock kept)])))

theorem keptL_ok {clock : Int} {rs : List Rl} {l : List Slot} (hro : ∀ r ∈ rs, RlOk r) (hs : ∀ s ∈ l, SlotOk s ∧ rightKind s.sk = true) (hn0 : 0 ≤ clock) (hn1 : clock < 18446744073709551616) : ∀ s ∈ keptL clock rs l, SlotOk s ∧ rightKind s.sk = true := by
  intro q hq
  unfold keptL at hq
  rw [List.mem_filterMap] at hq
  obtain ⟨s, hs', hm⟩ := hq
  cases hr : staysR rs s with
  | none => rw [hr] at hm; cases hm
  | some r =>
    rw [hr] at hm
    simp at hm
    subst hm
    exact keptS_ok (hro r (staysR_mem hr)) (hs s hs').1 (staysR_some hr).2.2.2 hn0 hn1

set_option maxHeartbeats 2000000 in
set_option maxRecDepth 100000 in
theorem keep_Keep (hst : StaysLaw) (t mb c : Nat) (most clock most' : Int) (m : SMap) (rv : Value) (rs : List Rl) (w : World) (ht : TabAt w t mb most clock m c) (hok : TabOk m c) (hsk : ∀ s ∈ slotsOf clock m, SlotOk s ∧ rightKind s.sk = true)
    (hr : RulesAt w rv rs) (hro : ∀ r ∈ rs, RlOk r) (hrl : rs.length ≤ maxLen) (hn0 : 0 ≤ clock) (hn1 : clock < 18446744073709551616) (hm0 : -9223372036854775808 ≤ most') (hm1 : most' ≤ 9223372036854775807) (hlen : m.length ≤ 1000000) :
    Calls Tryz.prog 20 #[.pointer (some ⟨t, 0, none⟩), .agg #[.int .i64 most', rv]] w (KeepEnd w most' clock (keptL clock rs (slotsOf clock m)) (goneL rs (slotsOf clock m))) := by
  obtain ⟨ra, rc, rfl⟩ := hr.size
  have hsl : (slotsOf clock m).length ≤ 1000000 := Nat.le_trans (by rw [slotsOf_len]; exact actives_len clock m) hlen
  have HCK := Lib.hid (fun W (hx : Ext w W) => table_ClockX t mb c most clock m W (ht.ext hx) hn0 hn1)
  have hx0 : Ext w (w.alloc (.cells #[.int .i64 most', .slice ra rs.length rc] 25)) := (Ext.refl w).alloc _
  have bp := Blk.new w #[.int .i64 most', .slice ra rs.length rc] 25
  have HB := (keep_both hst t mb c most clock most' m (.slice ra rs.length rc) rs (w.alloc (.cells #[.int .i64 most', .slice ra rs.length rc] 25)) (ht.ext hx0) hok hsk (hr.ext Rl.size4 hx0) hro hrl hn0 hn1 hlen)
  have hkl := keptL_len clock rs (slotsOf clock m)
  have hgl := goneL_len rs (slotsOf clock m)
  have hks := keptL_ok (clock := clock) (l := slotsOf clock m) hro hsk hn0 hn1
  clear ht hok hsk hr hro hrl hlen
  unfold PartEnd at HB
  generalize keptL clock rs (slotsOf clock m) = kept at *
  generalize goneL rs (slotsOf clock m) = gone at *
  have HB := Lib.hid HB
  have HOF := Lib.hid (fun (v : Value) (W : World) (hv : SlotsAt W v kept) => table_Of most' clock v kept W hv (fun s hs => (hks s hs).1) (by omega) hn0 hn1 hm0 hm1)
  clear hks hn0 hn1 hm0 hm1
  go_enter Tryz.func20, Tryz.ntmps20
  have hpc := bp.cell
  go_wp2_with fail
  generalize w.alloc (.cells #[.int .i64 most', .slice ra rs.length rc] 25) = w0 at *
  refine HB.out.mono ?_
  rintro x w1 ⟨yes, no, rfl, hy, hn, hx1⟩
  obtain ⟨ya, yc, rfl⟩ := hy.size
  obtain ⟨na, nc, rfl⟩ := hn.size
  have HY := Lib.hid hy.slots
  have hx01 := hx0.trans hx1
  have p0 : w1.cell? ⟨w.heap.size, 0, none⟩ = some (.int .i64 most') := (bp.ext hx1).cell 0
  clear hy hn hpc bp HB
  go_upto_region 2 with fail
  have hgl2 : gone.length ≤ 9223372036854775807 := by omega
  go_region_held3 (fun w' => w'.cell? ⟨w.heap.size, 0, none⟩ = some (.int .i64 most'))
    (first | exact p0 | exact hx2.keep p0 | exact hx3.keep p0)
    (first
      | (go_at_call 23; (with_reducible refine (HCK.out _ (Ext.trans hx01 (Ext.refl _).drew)).mono ?_); rintro x w2 ⟨rfl, hx2'⟩; have hx2 : Ext w1 w2 := Ext.trans (Ext.refl _).drew hx2')
      | (go_at_call 43; (with_reducible refine (HOF.out _ _ (HY.out.ext hx2)).mono ?_); rintro x w3 ⟨p, rfl, hx3', hcase⟩; have hx3 := Ext.trans hx2 hx3'; have HCS := Lib.hid hcase; clear hcase))
  all_goals
    rcases HCS.out with ⟨hE, tt, tm, rfl, h1, h2, hT⟩ | ⟨hE, rfl⟩
    · have hsz := Ext.sz (Ext.trans hx01 hx2)
      have HT := Lib.hid hT
      have HE := Lib.hid hE
      have hz : (ofErr most' clock kept != 0) = false := by rw [hE]; rfl
      clear hT HCS
      rw [hE]
      clear hE
      go_wp2
      go_ret3
      exact ⟨_, Ext.trans hx01 hx3, Or.inl ⟨HE.out, tt, tm, rfl, Nat.le_trans hsz h1, Nat.le_trans hsz h2, HT.out, rfl⟩⟩
    · have hz : (ofErr most' clock kept != 0) = true := by simpa using hE
      have HE := Lib.hid hE
      clear hE HCS
      obtain ⟨E, hEE⟩ : ∃ E, ofErr most' clock kept = E := ⟨_, rfl⟩
      rw [hEE] at hz ⊢
      have HEE := Lib.hid hEE
      clear hEE
      go_wp2
      go_ret3
      exact ⟨_, Ext.trans hx01 hx3, Or.inr ⟨HE.out, rfl, by rw [HEE.out]; rfl⟩⟩

/-- a slice of strings, of its own -/
abbrev KeyRow (base : Nat) (w : World) (v : Value) (l : List ByteArray) : Prop := RowOf (fun k => #[.string k]) 1 9 base w v l
theorem keyrow_more {base : Nat} {w : World} {v : Value} {l l' : List ByteArray} {s : ByteArray} (h : w.ownsRow base 9 1 v (l.length + 1) (flatE (fun k => #[Value.string k]) l ++ [.string s])) (e : l' = l ++ [s]) : KeyRow base w v l' := by
  subst e
  refine RowOf.mk' h (by simp) (flatE_snoc _ _ _).symm ?_
  obtain ⟨g, cap, rfl⟩ := ownsRow_succ h
  simp

set_option maxHeartbeats 2000000 in
set_option maxRecDepth 100000 in
theorem keep_Lost (hst : StaysLaw) (t mb c : Nat) (most clock most' : Int) (m : SMap) (rv : Value) (rs : List Rl) (w : World) (ht : TabAt w t mb most clock m c) (hok : TabOk m c) (hsk : ∀ s ∈ slotsOf clock m, SlotOk s ∧ rightKind s.sk = true)
    (hr : RulesAt w rv rs) (hro : ∀ r ∈ rs, RlOk r) (hrl : rs.length ≤ maxLen) (hn0 : 0 ≤ clock) (hn1 : clock < 18446744073709551616) (hlen : m.length ≤ 1000000) :
    Calls Tryz.prog 19 #[.pointer (some ⟨t, 0, none⟩), .agg #[.int .i64 most', rv]] w fun x w' => ∃ v, x = .returned v ∧ KeyRow w.heap.size w' v ((goneL rs (slotsOf clock m)).map (·.key)) ∧ Ext w w' := by
  obtain ⟨ra, rc, rfl⟩ := hr.size
  have hsl : (slotsOf clock m).length ≤ 1000000 := Nat.le_trans (by rw [slotsOf_len]; exact actives_len clock m) hlen
  have hx0 : Ext w (w.alloc (.cells #[.int .i64 most', .slice ra rs.length rc] 25)) := (Ext.refl w).alloc _
  have bp := Blk.new w #[.int .i64 most', .slice ra rs.length rc] 25
  have HB := keep_both hst t mb c most clock most' m (.slice ra rs.length rc) rs (w.alloc (.cells #[.int .i64 most', .slice ra rs.length rc] 25)) (ht.ext hx0) hok hsk (hr.ext Rl.size4 hx0) hro hrl hn0 hn1 hlen
  have hgl := goneL_len rs (slotsOf clock m)
  clear ht hok hsk hr hro hrl hlen hst
  unfold PartEnd at HB
  generalize keptL clock rs (slotsOf clock m) = kept at *
  generalize goneL rs (slotsOf clock m) = gone at *
  have HB := Lib.hid HB
  have hgl2 : gone.length ≤ 1000000 := by omega
  have hml : (1000000 : Nat) + 1 ≤ maxLen := by decide
  obtain ⟨i0, hi, hz0, hz1, hz2⟩ := info_parts str_infoO
  have HI := Lib.hid (And.intro hi (And.intro hz0 (And.intro hz1 hz2)))
  clear hi hz0 hz1 hz2 hgl hsl
  go_enter Tryz.func19, Tryz.ntmps19
  have hpc := bp.cell
  go_wp2_with fail
  generalize w.alloc (.cells #[.int .i64 most', .slice ra rs.length rc] 25) = w0 at *
  refine HB.out.mono ?_
  rintro x w1 ⟨yes, no, rfl, hy, hn, hx1⟩
  obtain ⟨na, nc, rfl⟩ := hn.size
  have HN := Lib.hid hn.slots
  have HX := Lib.hid (hx0.trans hx1)
  clear hy hn hpc bp HB hx1
  go_wp2
  go_loopw [7, 18] (fun o i wr => ∃ (k : Nat), k ≤ gone.length ∧ i = .int .i64 k ∧ KeyRow w1.heap.size wr o ((gone.take k).map (·.key)) ∧ Ext w1 wr) (fun _ i _ => gone.length - (intOf i).toNat)
  case atStart => exact ⟨0, by omega, rfl, RowOf.empty _ _ _ _ _, Ext.refl _⟩
  case round =>
    obtain ⟨k, hk, rfl, hrow, hx⟩ := hrel
    have HROW := Lib.hid hrow
    have hxs := Ext.sz hx
    have hxw := Ext.sz HX.out
    have HXR := Lib.hid hx
    clear hrow
    by_cases hlt : k < gone.length
    · obtain ⟨b, oo, rfl, hbl, e0, e1, e2, e3, e4, e5, e6, e7⟩ := (HN.out.ext hx).cells k hlt
      have htk : (gone.take (k + 1)).map (·.key) = (gone.take k).map (·.key) ++ [gone[k].key] := by rw [List.take_succ_eq_append_getElem hlt, List.map_append]; rfl
      have htl : ((gone.take k).map (·.key)).length ≤ k := by rw [List.length_map, List.length_take]; omega
      have HTL := Lib.hid htl
      clear htl hx
      obtain ⟨s, hsg⟩ : ∃ s, gone[k] = s := ⟨_, rfl⟩
      rw [hsg] at e0 e1 e2 e3 e4 e5 e6 e7 htk
      have HTK := Lib.hid htk
      clear htk hsg
      obtain ⟨s1, s2, s3, s4, s5, s6, s7, s8⟩ := s
      simp only at e0 e1 e2 e3 e4 e5 e6 e7 HTK
      have bz := Blk.new wr #[.string s1, .string s2, .int .u64 s3, .int .u64 s4, .int .u8 s5, .int .u8 s6, .int .u64 s7, .int .u64 s8] 65
      have hxa : Ext wr (wr.alloc (.cells #[.string s1, .string s2, .int .u64 s3, .int .u64 s4, .int .u8 s5, .int .u8 s6, .int .u64 s7, .int .u64 s8] 65)) := (Ext.refl wr).alloc _
      go_upto_region 6 with fail
      generalize wr.alloc (.cells #[.string s1, .string s2, .int .u64 s3, .int .u64 s4, .int .u8 s5, .int .u8 s6, .int .u64 s7, .int .u64 s8] 65) = wa at *
      have q0 : wa.cell? ⟨wr.heap.size, 0, none⟩ = some (.string s1) := bz.cell 0
      have HXA := Lib.hid hxa
      have hsa := Ext.sz hxa
      clear bz hxa e0 e1 e2 e3 e4 e5 e6 e7
      go_wp2_with (first
        | (at_builtin; refine wpList_append_own _ rfl (.tmp 22) (.tmp 25) 46 rfl w1.heap.size 9 i0 (.string ⟨#[]⟩) 1 16 Tryz.underlying46 HI.out.1 HI.out.2.1 HI.out.2.2.1 HI.out.2.2.2 rfl (by decide) _ _ _ rfl ((own_ext HROW.out.own HXA.out).alloc _) ⟨wa.heap.size, 0, none⟩ 1 1 [.string s1] rfl rfl (blk_news (C := #[.string s1]) (Blk.new _ _ _)) (by simp [Value.oneCell']) (by have := HTL.out; omega) (by have := HTL.out; omega) (by simp; omega) ?_; rintro v' w4 hown hgrow -)
        | fail)
      have hx4 : Ext w1 w4 := Ext.grownAt ((HXR.out.trans HXA.out).alloc _) ((own_ext HROW.out.own HXA.out).alloc _) (Nat.le_refl _) hgrow
      have hrow4 : KeyRow w1.heap.size w4 v' ((gone.take (k + 1)).map (·.key)) := keyrow_more hown HTK.out
      clear hown hgrow
      go_wp2
      go_roundw
      case rel => exact ⟨k + 1, by omega, by go_num, hrow4, hx4⟩
      case measure => simp [intOf]; omega
    · have hkl : k = gone.length := by omega
      subst hkl
      go_wp2
      go_ret
      exact ⟨_, rfl, by have := HROW.out; rw [List.take_length] at this; exact this.low hxw, HX.out.trans HXR.out⟩
end Go.Proofs.YtfglpejbgfmojaaGreat

/- The contract of keep.judge.stays, proved; keep.Keep and keep.Lost by it. -/
namespace Go.Proofs.YtfglpejbgfmojaaGreat
open Go.RowKit
set_option linter.unusedVariables false

theorem staysLaw : StaysLaw := by
  intro lo root many clock ns rs s w hT hh hok hs hk hn0 hn1
  cases hr : staysR rs s with
  | none =>
    rw [staysV_none hr]
    exact keep_stays_no lo root many clock ns rs s w hT hh hok hs hr
  | some r =>
    rw [staysV_some hr]
    obtain ⟨h1, h2, h3, h4⟩ := staysR_some hr
    exact keep_stays_yes lo root many clock ns rs s r w hT hh (hok r (firstAt_mem ((bestR_char _ rs).2 r h1).first).1) hs hk h1 h2 h3 h4 hn0 hn1
end Go.Proofs.YtfglpejbgfmojaaGreat

/- Walks: what is told of a table whose slots are known, and of it by other rules. -/
namespace Go.Proofs.YtfglpejbgfmojaaGreat
open Go.RowKit
set_option linter.unusedVariables false
set_option linter.unusedSimpArgs false

/-- a table whose active slots are these -/
structure HasTab (w : World) (t m c : Nat) (most clock : Int) (l : SMap) (xs : List Slot) : Prop where
  tab : TabAt w t m most clock l c
  ok : TabOk l c
  slots : slotsOf clock l = xs
  act : Act clock xs
  len : l.length ≤ 1000000
  n0 : 0 ≤ clock
  n1 : clock < 4294967296
theorem HasTab.ext {w w' : World} {t m c : Nat} {most clock : Int} {l : SMap} {xs : List Slot} (h : HasTab w t m c most clock l xs) (e : Ext w w') : HasTab w' t m c most clock l xs :=
  ⟨h.tab.ext e, h.ok, h.slots, h.act, h.len, h.n0, h.n1⟩
theorem HasTab.lenX {w : World} {t m c : Nat} {most clock : Int} {l : SMap} {xs : List Slot} (h : HasTab w t m c most clock l xs) : xs.length ≤ l.length := by
  rw [← h.slots, slotsOf_len]; exact actives_len clock l
theorem RelAt.has {B : Nat} {w : World} {t m c : Nat} {most clock : Int} {l : SMap} {v : Value} {all : List Slot} (h : RelAt B w t m c most clock l v all 30) (g : Gd clock l) : HasTab w t m c most clock l (rSlots clock all) := by
  have := h.lenL
  have e := h.rel.slots h.ok h.n0 h.n1
  have ha := Act.of g h.rel h.ok h.n0 h.n1
  rw [e] at ha
  exact ⟨h.tab, h.ok, e, ha, by omega, h.n0, g.low⟩
theorem table_ActiveA {t m c : Nat} {most clock : Int} {l : SMap} {xs : List Slot} (w : World) (h : HasTab w t m c most clock l xs) :
    Calls Tryz.prog 18 #[.pointer (some ⟨t, 0, none⟩)] w fun e w' => e = .returned (.int .i64 (xs.length : Int)) ∧ Ext w w' := by
  have := h.n1
  have q := table_Active t m c most clock l w h.tab h.ok h.n0 (by omega) h.len
  rw [h.slots] at q
  exact q
theorem table_SlotsA {t m c : Nat} {most clock : Int} {l : SMap} {xs : List Slot} (w : World) (h : HasTab w t m c most clock l xs) :
    Calls Tryz.prog 22 #[.pointer (some ⟨t, 0, none⟩)] w fun e w' => ∃ v, e = .returned v ∧ SlotsAt w' v xs ∧ Ext w w' := by
  have := h.n1
  have q := table_Slots t m c most clock l w h.tab h.ok h.n0 (by omega) h.len
  rw [h.slots] at q
  refine q.mono ?_
  rintro x w' ⟨v, rfl, hs, hx⟩
  exact ⟨v, rfl, hs.at, hx⟩
theorem table_EntriesA {t m c : Nat} {most clock : Int} {l : SMap} {xs : List Slot} (w : World) (h : HasTab w t m c most clock l xs) :
    Calls Tryz.prog 24 #[.pointer (some ⟨t, 0, none⟩)] w fun e w' => ∃ v, e = .returned v ∧ EntSlice w.heap.size w' v (xs.map (entOf clock)) ∧ Ext w w' := by
  have := h.n1
  have q := table_Entries t m c most clock l w h.tab h.ok h.n0 (by omega) h.len
  unfold entsOf at q
  rw [h.slots] at q
  exact q
theorem table_ClockA {t m c : Nat} {most clock : Int} {l : SMap} {xs : List Slot} (w : World) (h : HasTab w t m c most clock l xs) :
    Calls Tryz.prog 23 #[.pointer (some ⟨t, 0, none⟩)] w fun e w' => e = .returned (.int .u64 clock) ∧ Ext w w' := by
  have := h.n1
  exact table_ClockX t m c most clock l w h.tab h.n0 (by omega)
def keepErr (most : Int) (n : Nat) : Int := if most < 1 ∨ 1000000 < most then 29 else if most < n then 50 else 0
/-- what Keep tells -/
def KeptA (w : World) (most clock : Int) (kept gone : List Slot) (x : Ending) (w' : World) : Prop := Ext w w' ∧
  ((keepErr most kept.length = 0 ∧ ∃ t m c l, x = .returned (.tuple #[.pointer (some ⟨t, 0, none⟩), .int .i64 (gone.length : Int), .int .u16 0]) ∧ HasTab w' t m c most clock l kept) ∨
   (keepErr most kept.length ≠ 0 ∧ x = .returned (.tuple #[.pointer none, .int .i64 0, .int .u16 (keepErr most kept.length)])))
theorem keep_KeepA {t m c : Nat} {most clock : Int} {l : SMap} {xs : List Slot} (w : World) (h : HasTab w t m c most clock l xs) (most' : Int) (rv : Value) (rs : List Rl) (hr : RulesAt w rv rs) (hro : ∀ r ∈ rs, RlOk r) (hrl : rs.length ≤ maxLen)
    (hm0 : -9223372036854775808 ≤ most') (hm1 : most' ≤ 9223372036854775807) :
    Calls Tryz.prog 20 #[.pointer (some ⟨t, 0, none⟩), .agg #[.int .i64 most', rv]] w (KeptA w most' clock (keptL clock rs xs) (goneL rs xs)) := by
  have h1 := h.n1
  have hq := keep_Keep staysLaw t m c most clock most' l rv rs w h.tab h.ok (by rw [h.slots]; exact h.act.kind) hr hro hrl h.n0 (by omega) hm0 hm1 h.len
  rw [h.slots] at hq
  have hk := h.act.kept hro h.n0 (by omega)
  have he := hk.ofErr h.n0 most'
  have hl := keptL_len clock rs xs
  have hl2 := h.lenX
  have hl3 := h.len
  refine hq.mono ?_
  rintro x w' ⟨p, hx, hc⟩
  refine ⟨hx, ?_⟩
  have e2 : ofErr most' clock (keptL clock rs xs) = keepErr most' (keptL clock rs xs).length := he
  rcases hc with ⟨e, tt, mm, rfl, h4, h5, hT, rfl⟩ | ⟨e, rfl, rfl⟩
  · refine Or.inl ⟨e2.symm.trans e, tt, mm, _, _, rfl, ⟨hT, putTo_ok _ hk.ok, hk.put e h.n0 (by omega), hk, ?_, h.n0, h1⟩⟩
    have := putTo_len (keptL clock rs xs)
    omega
  · exact Or.inr ⟨fun q => e (e2.trans q), by rw [e2]⟩
theorem keep_LostA {t m c : Nat} {most clock : Int} {l : SMap} {xs : List Slot} (w : World) (h : HasTab w t m c most clock l xs) (most' : Int) (rv : Value) (rs : List Rl) (hr : RulesAt w rv rs) (hro : ∀ r ∈ rs, RlOk r) (hrl : rs.length ≤ maxLen) :
    Calls Tryz.prog 19 #[.pointer (some ⟨t, 0, none⟩), .agg #[.int .i64 most', rv]] w fun x w' => ∃ v, x = .returned v ∧ KeyRow w.heap.size w' v ((goneL rs xs).map (·.key)) ∧ Ext w w' := by
  have h1 := h.n1
  have hq := keep_Lost staysLaw t m c most clock most' l rv rs w h.tab h.ok (by rw [h.slots]; exact h.act.kind) hr hro hrl h.n0 (by omega) h.len
  rw [h.slots] at hq
  exact hq
end Go.Proofs.YtfglpejbgfmojaaGreat
