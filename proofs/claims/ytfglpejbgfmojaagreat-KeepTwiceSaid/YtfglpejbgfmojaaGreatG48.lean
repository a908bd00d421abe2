/- Walks: keep.Keep, keep.Lost. -/
import Derived.Test.YtfglpejbgfmojaaGreatG44
import Derived.Test.YtfglpejbgfmojaaGreatG45

/- Walks: keep.Keep, keep.Lost. -/
namespace Go.Proofs.YtfglpejbgfmojaaGreat
open Go.RowKit
set_option linter.unusedVariables false
set_option linter.unusedSimpArgs false

/-- what Keep tells -/
def KeepEnd (w : World) (most clock : Int) (kept gone : List Slot) (x : Ending) (w' : World) : Prop :=
  ∃ p, Ext w w' ∧ ((ofErr most clock kept = 0 ∧ ∃ t m, p = some ⟨t, 0, none⟩ ∧ w.heap.size ≤ t ∧ w.heap.size ≤ m ∧ TabAt w' t m most clock (putTo kept).1 (putTo kept).2 ∧ x = .returned (.tuple #[.pointer p, .int .i64 (gone.length : Int), .int .u16 0])) ∨
    (ofErr most clock kept ≠ 0 ∧ p = none ∧ x = .returned (.tuple #[.pointer p, .int .i64 0, .int .u16 (ofErr most clock kept)])))

theorem keptL_ok {clock : Int} {rs : List Rl} {l : List Slot} (hro : ∀ r ∈ rs, RlOk r) (hs : ∀ s ∈ l, SlotOk s ∧ rightKind s.sk = true) (hn0 : 0 ≤ clock) (hn1 : clock < 18446744073709551616) : ∀ s ∈ keptL clock rs l, SlotOk s ∧ rightKind s.sk = true := by
  intro q hq
  unfold keptL at hq
  rw [List.mem_filterMap] at hq
  obtain ⟨s, hs', hm⟩ := hq
  cases hr : staysR rs s with
  | none => rw [hr] at hm; cases hm
  | some r =>
    rw [hr] at hm
    simp at hm
    subst hm
    exact keptS_ok (hro r (staysR_mem hr)) (hs s hs').1 (staysR_some hr).2.2.2 hn0 hn1

set_option maxHeartbeats 2000000 in
set_option maxRecDepth 100000 in
theorem keep_Keep (hst : StaysLaw) (t mb c : Nat) (most clock most' : Int) (m : SMap) (rv : Value) (rs : List Rl) (w : World) (ht : TabAt w t mb most clock m c) (hok : TabOk m c) (hsk : ∀ s ∈ slotsOf clock m, SlotOk s ∧ rightKind s.sk = true)
    (hr : RulesAt w rv rs) (hro : ∀ r ∈ rs, RlOk r) (hrl : rs.length ≤ maxLen) (hn0 : 0 ≤ clock) (hn1 : clock < 18446744073709551616) (hm0 : -9223372036854775808 ≤ most') (hm1 : most' ≤ 9223372036854775807) (hlen : m.length ≤ 1000000) :
    Calls Tryz.prog 20 #[.pointer (some ⟨t, 0, none⟩), .agg #[.int .i64 most', rv]] w (KeepEnd w most' clock (keptL clock rs (slotsOf clock m)) (goneL rs (slotsOf clock m))) := by
  obtain ⟨ra, rc, rfl⟩ := hr.size
  have hsl : (slotsOf clock m).length ≤ 1000000 := Nat.le_trans (by rw [slotsOf_len]; exact actives_len clock m) hlen
  have HCK := Lib.hid (fun W (hx : Ext w W) => table_ClockX t mb c most clock m W (ht.ext hx) hn0 hn1)
  have hx0 : Ext w (w.alloc (.cells #[.int .i64 most', .slice ra rs.length rc] 25)) := (Ext.refl w).alloc _
  have bp := Blk.new w #[.int .i64 most', .slice ra rs.length rc] 25
  have HB := (keep_both hst t mb c most clock most' m (.slice ra rs.length rc) rs (w.alloc (.cells #[.int .i64 most', .slice ra rs.length rc] 25)) (ht.ext hx0) hok hsk (hr.ext Rl.size4 hx0) hro hrl hn0 hn1 hlen)
  have hkl := keptL_len clock rs (slotsOf clock m)
  have hgl := goneL_len rs (slotsOf clock m)
  have hks := keptL_ok (clock := clock) (l := slotsOf clock m) hro hsk hn0 hn1
  clear ht hok hsk hr hro hrl hlen
  unfold PartEnd at HB
  generalize keptL clock rs (slotsOf clock m) = kept at *
  generalize goneL rs (slotsOf clock m) = gone at *
  have HB := Lib.hid HB
  have HOF := Lib.hid (fun (v : Value) (W : World) (hv : SlotsAt W v kept) => table_Of most' clock v kept W hv (fun s hs => (hks s hs).1) (by omega) hn0 hn1 hm0 hm1)
  clear hks hn0 hn1 hm0 hm1
  go_enter Tryz.func20, Tryz.ntmps20
  have hpc := bp.cell
  go_wp2_with fail
  generalize w.alloc (.cells #[.int .i64 most', .slice ra rs.length rc] 25) = w0 at *
  refine HB.out.mono ?_
  rintro x w1 ⟨yes, no, rfl, hy, hn, hx1⟩
  obtain ⟨ya, yc, rfl⟩ := hy.size
  obtain ⟨na, nc, rfl⟩ := hn.size
  have HY := Lib.hid hy.slots
  have hx01 := hx0.trans hx1
  have p0 : w1.cell? ⟨w.heap.size, 0, none⟩ = some (.int .i64 most') := (bp.ext hx1).cell 0
  clear hy hn hpc bp HB
  go_upto_region 2 with fail
  have hgl2 : gone.length ≤ 9223372036854775807 := by omega
  go_region_held3 (fun w' => w'.cell? ⟨w.heap.size, 0, none⟩ = some (.int .i64 most'))
    (first | exact p0 | exact hx2.keep p0 | exact hx3.keep p0)
    (first
      | (go_at_call 23; (with_reducible refine (HCK.out _ (Ext.trans hx01 (Ext.refl _).drew)).mono ?_); rintro x w2 ⟨rfl, hx2'⟩; have hx2 : Ext w1 w2 := Ext.trans (Ext.refl _).drew hx2')
      | (go_at_call 43; (with_reducible refine (HOF.out _ _ (HY.out.ext hx2)).mono ?_); rintro x w3 ⟨p, rfl, hx3', hcase⟩; have hx3 := Ext.trans hx2 hx3'; have HCS := Lib.hid hcase; clear hcase))
  all_goals
    rcases HCS.out with ⟨hE, tt, tm, rfl, h1, h2, hT⟩ | ⟨hE, rfl⟩
    · have hsz := Ext.sz (Ext.trans hx01 hx2)
      have HT := Lib.hid hT
      have HE := Lib.hid hE
      have hz : (ofErr most' clock kept != 0) = false := by rw [hE]; rfl
      clear hT HCS
      rw [hE]
      clear hE
      go_wp2
      go_ret3
      exact ⟨_, Ext.trans hx01 hx3, Or.inl ⟨HE.out, tt, tm, rfl, Nat.le_trans hsz h1, Nat.le_trans hsz h2, HT.out, rfl⟩⟩
    · have hz : (ofErr most' clock kept != 0) = true := by simpa using hE
      have HE := Lib.hid hE
      clear hE HCS
      obtain ⟨E, hEE⟩ : ∃ E, ofErr most' clock kept = E := ⟨_, rfl⟩
      rw [hEE] at hz ⊢
      have HEE := Lib.hid hEE
      clear hEE
      go_wp2
      go_ret3
      exact ⟨_, Ext.trans hx01 hx3, Or.inr ⟨HE.out, rfl, by rw [HEE.out]; rfl⟩⟩

/-- a slice of strings, of its own -/
abbrev KeyRow (base : Nat) (w : World) (v : Value) (l : List ByteArray) : Prop := RowOf (fun k => #[.string k]) 1 9 base w v l
theorem keyrow_more {base : Nat} {w : World} {v : Value} {l l' : List ByteArray} {s : ByteArray} (h : w.ownsRow base 9 1 v (l.length + 1) (flatE (fun k => #[Value.string k]) l ++ [.string s])) (e : l' = l ++ [s]) : KeyRow base w v l' := by
  subst e
  refine RowOf.mk' h (by simp) (flatE_snoc _ _ _).symm ?_
  obtain ⟨g, cap, rfl⟩ := ownsRow_succ h
  simp

set_option maxHeartbeats 2000000 in
set_option maxRecDepth 100000 in
theorem keep_Lost (hst : StaysLaw) (t mb c : Nat) (most clock most' : Int) (m : SMap) (rv : Value) (rs : List Rl) (w : World) (ht : TabAt w t mb most clock m c) (hok : TabOk m c) (hsk : ∀ s ∈ slotsOf clock m, SlotOk s ∧ rightKind s.sk = true)
    (hr : RulesAt w rv rs) (hro : ∀ r ∈ rs, RlOk r) (hrl : rs.length ≤ maxLen) (hn0 : 0 ≤ clock) (hn1 : clock < 18446744073709551616) (hlen : m.length ≤ 1000000) :
    Calls Tryz.prog 19 #[.pointer (some ⟨t, 0, none⟩), .agg #[.int .i64 most', rv]] w fun x w' => ∃ v, x = .returned v ∧ KeyRow w.heap.size w' v ((goneL rs (slotsOf clock m)).map (·.key)) ∧ Ext w w' := by
  obtain ⟨ra, rc, rfl⟩ := hr.size
  have hsl : (slotsOf clock m).length ≤ 1000000 := Nat.le_trans (by rw [slotsOf_len]; exact actives_len clock m) hlen
  have hx0 : Ext w (w.alloc (.cells #[.int .i64 most', .slice ra rs.length rc] 25)) := (Ext.refl w).alloc _
  have bp := Blk.new w #[.int .i64 most', .slice ra rs.length rc] 25
  have HB := keep_both hst t mb c most clock most' m (.slice ra rs.length rc) rs (w.alloc (.cells #[.int .i64 most', .slice ra rs.length rc] 25)) (ht.ext hx0) hok hsk (hr.ext Rl.size4 hx0) hro hrl hn0 hn1 hlen
  have hgl := goneL_len rs (slotsOf clock m)
  clear ht hok hsk hr hro hrl hlen hst
  unfold PartEnd at HB
  generalize keptL clock rs (slotsOf clock m) = kept at *
  generalize goneL rs (slotsOf clock m) = gone at *
  have HB := Lib.hid HB
  have hgl2 : gone.length ≤ 1000000 := by omega
  have hml : (1000000 : Nat) + 1 ≤ maxLen := by decide
  obtain ⟨i0, hi, hz0, hz1, hz2⟩ := info_parts str_infoO
  have HI := Lib.hid (And.intro hi (And.intro hz0 (And.intro hz1 hz2)))
  clear hi hz0 hz1 hz2 hgl hsl
  go_enter Tryz.func19, Tryz.ntmps19
  have hpc := bp.cell
  go_wp2_with fail
  generalize w.alloc (.cells #[.int .i64 most', .slice ra rs.length rc] 25) = w0 at *
  refine HB.out.mono ?_
  rintro x w1 ⟨yes, no, rfl, hy, hn, hx1⟩
  obtain ⟨na, nc, rfl⟩ := hn.size
  have HN := Lib.hid hn.slots
  have HX := Lib.hid (hx0.trans hx1)
  clear hy hn hpc bp HB hx1
  go_wp2
  go_loopw [7, 18] (fun o i wr => ∃ (k : Nat), k ≤ gone.length ∧ i = .int .i64 k ∧ KeyRow w1.heap.size wr o ((gone.take k).map (·.key)) ∧ Ext w1 wr) (fun _ i _ => gone.length - (intOf i).toNat)
  case atStart => exact ⟨0, by omega, rfl, RowOf.empty _ _ _ _ _, Ext.refl _⟩
  case round =>
    obtain ⟨k, hk, rfl, hrow, hx⟩ := hrel
    have HROW := Lib.hid hrow
    have hxs := Ext.sz hx
    have hxw := Ext.sz HX.out
    have HXR := Lib.hid hx
    clear hrow
    by_cases hlt : k < gone.length
    · obtain ⟨b, oo, rfl, hbl, e0, e1, e2, e3, e4, e5, e6, e7⟩ := (HN.out.ext hx).cells k hlt
      have htk : (gone.take (k + 1)).map (·.key) = (gone.take k).map (·.key) ++ [gone[k].key] := by rw [List.take_succ_eq_append_getElem hlt, List.map_append]; rfl
      have htl : ((gone.take k).map (·.key)).length ≤ k := by rw [List.length_map, List.length_take]; omega
      have HTL := Lib.hid htl
      clear htl hx
      obtain ⟨s, hsg⟩ : ∃ s, gone[k] = s := ⟨_, rfl⟩
      rw [hsg] at e0 e1 e2 e3 e4 e5 e6 e7 htk
      have HTK := Lib.hid htk
      clear htk hsg
      obtain ⟨s1, s2, s3, s4, s5, s6, s7, s8⟩ := s
      simp only at e0 e1 e2 e3 e4 e5 e6 e7 HTK
      have bz := Blk.new wr #[.string s1, .string s2, .int .u64 s3, .int .u64 s4, .int .u8 s5, .int .u8 s6, .int .u64 s7, .int .u64 s8] 65
      have hxa : Ext wr (wr.alloc (.cells #[.string s1, .string s2, .int .u64 s3, .int .u64 s4, .int .u8 s5, .int .u8 s6, .int .u64 s7, .int .u64 s8] 65)) := (Ext.refl wr).alloc _
      go_upto_region 6 with fail
      generalize wr.alloc (.cells #[.string s1, .string s2, .int .u64 s3, .int .u64 s4, .int .u8 s5, .int .u8 s6, .int .u64 s7, .int .u64 s8] 65) = wa at *
      have q0 : wa.cell? ⟨wr.heap.size, 0, none⟩ = some (.string s1) := bz.cell 0
      have HXA := Lib.hid hxa
      have hsa := Ext.sz hxa
      clear bz hxa e0 e1 e2 e3 e4 e5 e6 e7
      go_wp2_with (first
        | (at_builtin; refine wpList_append_own _ rfl (.tmp 22) (.tmp 25) 46 rfl w1.heap.size 9 i0 (.string ⟨#[]⟩) 1 16 Tryz.underlying46 HI.out.1 HI.out.2.1 HI.out.2.2.1 HI.out.2.2.2 rfl (by decide) _ _ _ rfl ((own_ext HROW.out.own HXA.out).alloc _) ⟨wa.heap.size, 0, none⟩ 1 1 [.string s1] rfl rfl (blk_news (C := #[.string s1]) (Blk.new _ _ _)) (by simp [Value.oneCell']) (by have := HTL.out; omega) (by have := HTL.out; omega) (by simp; omega) ?_; rintro v' w4 hown hgrow -)
        | fail)
      have hx4 : Ext w1 w4 := Ext.grownAt ((HXR.out.trans HXA.out).alloc _) ((own_ext HROW.out.own HXA.out).alloc _) (Nat.le_refl _) hgrow
      have hrow4 : KeyRow w1.heap.size w4 v' ((gone.take (k + 1)).map (·.key)) := keyrow_more hown HTK.out
      clear hown hgrow
      go_wp2
      go_roundw
      case rel => exact ⟨k + 1, by omega, by go_num, hrow4, hx4⟩
      case measure => simp [intOf]; omega
    · have hkl : k = gone.length := by omega
      subst hkl
      go_wp2
      go_ret
      exact ⟨_, rfl, by have := HROW.out; rw [List.take_length] at this; exact this.low hxw, HX.out.trans HXR.out⟩
end Go.Proofs.YtfglpejbgfmojaaGreat
