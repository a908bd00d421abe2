/- Walks: tollerref09.Has, tollerref13.Find. Walks: tollerref15.Same, stays. Walks: tollerref15.Lost. Walks: tollerref11.Strings. Walks: tollerref15.Keep. -/
import Derived.Deep.DeepCutAuto
import Derived.Test.YtfglpejbgfmojaaGreatG28
import Derived.Test.YtfglpejbgfmojaaGreatG2
import Derived.Test.YtfglpejbgfmojaaGreatG6
import Derived.Test.YtfglpejbgfmojaaGreatG42
import Derived.Test.YtfglpejbgfmojaaGreatG13
import Derived.Test.YtfglpejbgfmojaaGreatG10
import Derived.Test.YtfglpejbgfmojaaGreatG34
import Derived.Test.YtfglpejbgfmojaaGreatG48
import Derived.Test.YtfglpejbgfmojaaGreatG37
import Derived.Test.YtfglpejbgfmojaaGreatG40
import Derived.Test.YtfglpejbgfmojaaGreatG45

/- Walks: tollerref09.Has, tollerref13.Find. -/
namespace Go.Proofs.YtfglpejbgfmojaaGreat
open Go.RowKit
set_option linter.unusedVariables false
set_option linter.unusedSimpArgs false

theorem comm_pre : ∀ (a b : List UInt8), comm a b = b.length ↔ b <+: a
  | [], [] => by simp [comm]
  | [], y :: ys => by simp [comm]
  | x :: xs, [] => by simp [comm]
  | x :: xs, y :: ys => by
    by_cases h : x = y
    · subst h
      simp only [comm, if_true, List.length_cons, Nat.add_right_cancel_iff, List.cons_prefix_cons, true_and]
      exact comm_pre xs ys
    · simp [comm, h, Ne.symm h]
theorem hasB_comm (k p : ByteArray) : ((comm k.data.toList p.data.toList : Int) == (p.size : Int)) = hasB k p := by
  unfold hasB
  rw [Bool.eq_iff_iff, beq_iff_eq, decide_eq_true_iff, ← comm_pre, data_len]
  omega
set_option maxHeartbeats 1000000 in
set_option maxRecDepth 100000 in
theorem ref09_Has (k p : ByteArray) (w : World) (hk : k.size ≤ maxLen) (hp : p.size ≤ maxLen) :
    Calls Tryz.prog 154 #[.string k, .string p] w fun e w' => e = .returned (.bool (hasB k p)) ∧ Ext w w' := by
  have H := Lib.hid (hasB_comm k p)
  have HK := Lib.hid hk
  have HP := Lib.hid hp
  clear hk hp
  go_enter Tryz.func154, Tryz.ntmps154
  go_wp2_with fail
  refine (ref09_Common k p _ HK.out HP.out).mono ?_
  rintro e w1 ⟨rfl, hx⟩
  have HX := Lib.hid hx
  clear hx
  go_wp2
  go_ret
  exact ⟨ret_bool H.out, HX.out⟩

theorem hasB_iff (k p : ByteArray) : hasB k p = true ↔ p.data.toList <+: k.data.toList := by unfold hasB; exact decide_eq_true_iff
theorem key_len (r : Rl) : r.key.length = r.p.size := data_len r.p
theorem best_no {rs : List Rl} {r : Rl} {k : ByteArray} (h : hasB k r.p = false) : bestR (rs ++ [r]) k.data.toList = bestR rs k.data.toList := by
  rw [bestR_snoc, if_neg]
  rintro ⟨h1, -⟩
  rw [(hasB_iff k r.p).2 h1] at h; cases h
theorem best_first {rs : List Rl} {r : Rl} {k : ByteArray} (h : hasB k r.p = true) (h0 : bestR rs k.data.toList = none) : bestR (rs ++ [r]) k.data.toList = some r := by
  rw [bestR_snoc, if_pos]
  exact ⟨(hasB_iff k r.p).1 h, fun x hx => by rw [h0] at hx; cases hx⟩
theorem best_more {rs : List Rl} {r x : Rl} {k : ByteArray} (h : hasB k r.p = true) (h0 : bestR rs k.data.toList = some x) (hl : x.p.size < r.p.size) : bestR (rs ++ [r]) k.data.toList = some r := by
  rw [bestR_snoc, if_pos]
  exact ⟨(hasB_iff k r.p).1 h, fun y hy => by rw [h0] at hy; cases hy; rw [key_len, key_len]; exact hl⟩
theorem best_less {rs : List Rl} {r x : Rl} {k : ByteArray} (h0 : bestR rs k.data.toList = some x) (hl : ¬ x.p.size < r.p.size) : bestR (rs ++ [r]) k.data.toList = some x := by
  rw [bestR_snoc, if_neg, h0]
  rintro ⟨-, h⟩
  have := h x h0
  rw [key_len, key_len] at this
  exact hl this
/-- where Find's loop stands -/
def BestAt (rs : List Rl) (k : ByteArray) (i : Nat) (v : Value) : Prop := (v = .int .i64 (-1) ∧ bestR (rs.take i) k.data.toList = none) ∨ ∃ j, ∃ h : j < rs.length, j < i ∧ v = .int .i64 j ∧ bestR (rs.take i) k.data.toList = some rs[j]

set_option maxHeartbeats 4000000 in
set_option maxRecDepth 100000 in
theorem ref13_Find (v : Value) (rs : List Rl) (k : ByteArray) (w : World) (hv : RulesAt w v rs) (hok : ∀ r ∈ rs, RlOk r) (hlen : rs.length ≤ maxLen) (hk : k.size ≤ maxLen) :
    Calls Tryz.prog 111 #[v, .string k] w fun x w' => x = .returned (findV (bestR rs k.data.toList)) ∧ Ext w w' := by
  obtain ⟨a, c, rfl⟩ := hv.size
  have HV := Lib.hid hv
  have HOK := Lib.hid hok
  have HK := Lib.hid hk
  unfold maxLen at hlen
  have bQ := Blk.new w rl0.cells 29
  have hx0 : Ext w (w.alloc (.cells rl0.cells 29)) := (Ext.refl w).alloc _
  simp only [rl0, Rl.cells] at bQ hx0
  clear hv hok hk
  go_enter Tryz.func111, Tryz.ntmps111
  go_wp2
  generalize w.alloc (.cells #[.string ⟨#[]⟩, .int .u64 0, .int .u64 0, .int .u8 0] 29) = w0 at *
  go_loopw [6, 7] (fun v6 v7 wr => ∃ i : Nat, i ≤ rs.length ∧ v7 = .int .i64 i ∧ BestAt rs k i v6 ∧ Ext w0 wr) (fun _ v7 _ => rs.length - (intOf v7).toNat)
  case atStart => exact ⟨0, Nat.zero_le _, rfl, Or.inl ⟨rfl, rfl⟩, Ext.refl _⟩
  case round =>
    obtain ⟨i, hi, rfl, hb, hx⟩ := hrel
    have HB := Lib.hid hb
    have HX := Lib.hid hx
    clear hb hx
    by_cases hlt : i < rs.length
    · obtain ⟨b, o, rfl, hbl, hc⟩ := (HV.out.ext Rl.size4 (hx0.trans HX.out)).cells Rl.size4 (by decide) i hlt
      have c0 : wr.cell? ⟨b, o + i * 4, none⟩ = some (.string rs[i].p) := hc 0 (by decide)
      have g0 : ∀ s, (grown wr s).cell? ⟨b, o + i * 4, none⟩ = some (.string rs[i].p) := grown_cell c0
      have hpi := (HOK.out rs[i] (List.getElem_mem hlt)).1
      have hpi2 : rs[i].p.size ≤ 9223372036854775807 := by unfold maxLen at hpi; omega
      have hz0 : (0 : Int) ≤ (i : Int) := by omega
      have hz1 : (i : Int) < (rs.length : Int) := by omega
      have HTK := Lib.hid (takeR_snoc rs i hlt)
      have HHas := Lib.hid (fun W : World => ref09_Has k rs[i].p W HK.out hpi)
      obtain ⟨r, hr⟩ : ∃ r, rs[i] = r := ⟨_, rfl⟩
      rw [hr] at g0 hpi2 HTK HHas
      have HR := Lib.hid hr
      obtain ⟨hs, hhs⟩ : ∃ hs, hasB k r.p = hs := ⟨_, rfl⟩
      have HHS := Lib.hid hhs
      rw [hhs] at HHas
      clear hc hr hhs hpi c0
      cases hs with
      | false =>
        have hvv : ∃ z : Int, ∃ _ : -1 ≤ z, u6 = .int .i64 z := by
          rcases HB.out with ⟨e, -⟩ | ⟨j, h, -, e, -⟩
          · exact ⟨-1, by omega, e⟩
          · exact ⟨j, by omega, e⟩
        obtain ⟨z, hz, rfl⟩ := hvv
        go_upto_region 5 with fail
        refine wp_region_grow (by kernel_rfl) (by kernel_rfl) ?_
        repeat (go_big_quiet_step ((go_at_call 154; exact grow_call (HHas.out _))))
        refine wpQuiet_nil ?_
        rintro _ ⟨sg, rfl⟩
        have hxg := HX.out.trans (grown_ext wr sg)
        go_wp2
        go_roundw
        case rel =>
          refine ⟨i + 1, by omega, by go_num, ?_, hxg⟩
          rcases HB.out with ⟨e, h⟩ | ⟨j, h1, h2, e, h⟩
          · exact Or.inl ⟨e, by rw [HTK.out, best_no HHS.out]; exact h⟩
          · exact Or.inr ⟨j, h1, by omega, e, by rw [HTK.out, best_no HHS.out]; exact h⟩
        case measure => simp [intOf]; omega
      | true =>
        rcases HB.out with ⟨rfl, hn⟩ | ⟨j, hj, hji, rfl, hn⟩
        · have HN := Lib.hid hn
          clear hn HB
          go_upto_region 5 with fail
          refine wp_region_grow (by kernel_rfl) (by kernel_rfl) ?_
          repeat (go_big_quiet_step ((go_at_call 154; exact grow_call (HHas.out _))))
          refine wpQuiet_nil ?_
          rintro _ ⟨sg, rfl⟩
          have hxg := HX.out.trans (grown_ext wr sg)
          go_wp2
          go_roundw
          case rel => exact ⟨i + 1, by omega, by go_num, Or.inr ⟨i, hlt, by omega, rfl, by rw [HTK.out, best_first HHS.out HN.out, HR.out]⟩, hxg⟩
          case measure => simp [intOf]; omega
        · have HN := Lib.hid hn
          clear hn HB
          obtain ⟨b', o', hbo, hbl', hc'⟩ := (HV.out.ext Rl.size4 (hx0.trans HX.out)).cells Rl.size4 (by decide) j hj
          simp only [Option.some.injEq, Addr.mk.injEq, and_true] at hbo
          obtain ⟨rfl, rfl⟩ := hbo
          have c1 : wr.cell? ⟨b, o + j * 4, none⟩ = some (.string rs[j].p) := hc' 0 (by decide)
          have g1 : ∀ s, (grown wr s).cell? ⟨b, o + j * 4, none⟩ = some (.string rs[j].p) := grown_cell c1
          have hpj := (HOK.out rs[j] (List.getElem_mem hj)).1
          have hpj2 : rs[j].p.size ≤ 9223372036854775807 := by unfold maxLen at hpj; omega
          have hy0 : (0 : Int) ≤ (j : Int) := by omega
          have hy1 : (j : Int) < (rs.length : Int) := by omega
          obtain ⟨q, hq⟩ : ∃ q, rs[j] = q := ⟨_, rfl⟩
          rw [hq] at g1 hpj2 HN
          have HQ := Lib.hid hq
          clear hc' hq hpj c1
          have hd1 : decide ((j : Int) < 0) = false := by simp
          by_cases hl : q.p.size < r.p.size
          · have hl2 : decide (q.p.size < r.p.size) = true := by simpa using hl
            go_upto_region 5 with fail
            refine wp_region_grow (by kernel_rfl) (by kernel_rfl) ?_
            repeat (go_big_quiet_step ((go_at_call 154; exact grow_call (HHas.out _))))
            refine wpQuiet_nil ?_
            rintro _ ⟨sg, rfl⟩
            have hxg := HX.out.trans (grown_ext wr sg)
            go_wp2
            go_roundw
            case rel => exact ⟨i + 1, by omega, by go_num, Or.inr ⟨i, hlt, by omega, rfl, by rw [HTK.out, best_more HHS.out HN.out hl, HR.out]⟩, hxg⟩
            case measure => simp [intOf]; omega
          · have hl2 : decide (q.p.size < r.p.size) = false := by simpa using hl
            go_upto_region 5 with fail
            refine wp_region_grow (by kernel_rfl) (by kernel_rfl) ?_
            repeat (go_big_quiet_step ((go_at_call 154; exact grow_call (HHas.out _))))
            refine wpQuiet_nil ?_
            rintro _ ⟨sg, rfl⟩
            have hxg := HX.out.trans (grown_ext wr sg)
            go_wp2
            go_roundw
            case rel => exact ⟨i + 1, by omega, by go_num, Or.inr ⟨j, hj, by omega, rfl, by rw [HTK.out, best_less HN.out hl, HQ.out]⟩, hxg⟩
            case measure => simp [intOf]; omega
    · have hir : i = rs.length := by omega
      subst hir
      have hbs := HB.out
      unfold BestAt at hbs
      rw [List.take_length] at hbs
      have bQ2 := bQ.ext HX.out
      have hcq := bQ2.cell
      have hfq := bQ2.free
      have hlq := bQ2.lt
      have HXW := Lib.hid (hx0.trans HX.out)
      rcases hbs with ⟨rfl, hn⟩ | ⟨j, hj, hji, rfl, hn⟩
      · have HN := Lib.hid (show findV (bestR rs k.data.toList) = .tuple #[.agg rl0.cells, .bool false] by rw [hn]; rfl)
        have HB2 := Lib.hid bQ2
        clear hn HB bQ bQ2
        go_wp2
        refine ret_cell_tmp Tryz.results111 rfl rfl ((((HB2.out.set 0 (.string ⟨#[]⟩)).set 1 (.int .u64 0)).set 2 (.int .u64 0)).set 3 (.int .u8 0)) Tryz.underlying29 rfl (by kernel_rfl) ⟨by rw [HN.out]; rfl, ?_⟩
        exact (((HXW.out.setCell (Nat.le_refl _) _).setCell (Nat.le_refl _) _).setCell (Nat.le_refl _) _).setCell (Nat.le_refl _) _
      · obtain ⟨b, o, rfl, hbl, hc⟩ := (HV.out.ext Rl.size4 (hx0.trans HX.out)).cells Rl.size4 (by decide) j hj
        have c0 : wr.cell? ⟨b, o + j * 4, none⟩ = some (.string rs[j].p) := hc 0 (by decide)
        have c1 : wr.cell? ⟨b, o + j * 4 + 1, none⟩ = some (.int .u64 rs[j].e) := hc 1 (by decide)
        have c2 : wr.cell? ⟨b, o + j * 4 + 2, none⟩ = some (.int .u64 rs[j].b) := hc 2 (by decide)
        have c3 : wr.cell? ⟨b, o + j * 4 + 3, none⟩ = some (.int .u8 rs[j].k) := hc 3 (by decide)
        obtain ⟨q, hq⟩ : ∃ q, rs[j] = q := ⟨_, rfl⟩
        rw [hq] at c0 c1 c2 c3 hn
        have HN := Lib.hid (show findV (bestR rs k.data.toList) = .tuple #[.agg q.cells, .bool true] by rw [hn]; rfl)
        have HB2 := Lib.hid bQ2
        clear hn HB bQ bQ2 hc hq
        go_wp2
        refine ret_cell_tmp Tryz.results111 rfl rfl ((((HB2.out.set 0 (.string q.p)).set 1 (.int .u64 q.e)).set 2 (.int .u64 q.b)).set 3 (.int .u8 q.k)) Tryz.underlying29 rfl (by kernel_rfl) ⟨by rw [HN.out]; rfl, ?_⟩
        exact (((HXW.out.setCell (Nat.le_refl _) _).setCell (Nat.le_refl _) _).setCell (Nat.le_refl _) _).setCell (Nat.le_refl _) _
end Go.Proofs.YtfglpejbgfmojaaGreat

/- Walks: tollerref15.Same, stays. -/
namespace Go.Proofs.YtfglpejbgfmojaaGreat
open Go.RowKit
set_option linter.unusedVariables false
set_option linter.unusedSimpArgs false

set_option maxHeartbeats 1000000 in
set_option maxRecDepth 100000 in
theorem ref15_Same (p p' : ByteArray) (e b k e' b' k' : Int) (w : World) :
    Calls Tryz.prog 13 #[.agg #[.string p, .int .u64 e, .int .u64 b, .int .u8 k], .agg #[.string p', .int .u64 e', .int .u64 b', .int .u8 k']] w fun x w' => x = .returned (.bool (decide (e = e') && decide (b = b'))) ∧ Ext w w' := by
  by_cases h1 : e = e' <;> by_cases h2 : b = b'
  all_goals
    go_enter Tryz.func13, Tryz.ntmps13
    go_wp2
    go_ret
    exact ⟨by simp [h1, h2], (by repeat (first | with_reducible exact Ext.refl _ | with_reducible assumption | with_reducible refine Ext.alloc ?_ _ | with_reducible refine Ext.drew ?_ | (with_reducible refine Ext.setCell ?_ (by first | exact Nat.le_refl _ | (dsimp only; omega) | (simp; done) | (simp; omega)) _) | with_reducible refine Ext.trans ?_ (by with_reducible assumption)))⟩

/-- what the document's stays tells -/
def foundV (rs : List Rl) (s : Slot) : Value := .tuple #[.agg ((bestR rs s.key.data.toList).getD rl0).cells, .bool (staysR rs s).isSome]
theorem foundV_none {rs : List Rl} {s : Slot} (h : bestR rs s.key.data.toList = none) : foundV rs s = .tuple #[.agg rl0.cells, .bool false] := by
  unfold foundV staysR
  rw [h]
  rfl
theorem foundV_some {rs : List Rl} {s : Slot} {r : Rl} (h : bestR rs s.key.data.toList = some r) {b : Bool} (hb : b = true ↔ (r.e = s.e ∧ r.b = s.b ∧ r.err = 0)) : foundV rs s = .tuple #[.agg r.cells, .bool b] := by
  unfold foundV staysR
  rw [h]
  simp only [Option.getD_some]
  cases b with
  | true => rw [if_pos (hb.1 rfl)]; rfl
  | false => rw [if_neg (fun q => by have := hb.2 q; cases this)]; rfl
theorem late_cell {w : World} {g b i : Nat} {v : Value} (h : w.cell? ⟨b, i, none⟩ = some v) (hne : b ≠ g) : ∀ X (s : LateB w g X), (lateB s).cell? ⟨b, i, none⟩ = some v := fun _ s => lateB_cell h hne s
theorem set4 {w : World} {b : Nat} {a0 a1 a2 a3 : Value} {t : TypeId} (h : Blk w b #[a0, a1, a2, a3] t) (v0 v1 v2 v3 : Value) :
    Blk ((((w.setCell ⟨b, 0, none⟩ v0).setCell ⟨b, 1, none⟩ v1).setCell ⟨b, 2, none⟩ v2).setCell ⟨b, 3, none⟩ v3) b #[v0, v1, v2, v3] t := by
  have h0 : Blk _ b #[v0, a1, a2, a3] t := h.set 0 v0
  have h1 : Blk _ b #[v0, v1, a2, a3] t := h0.set 1 v1
  have h2 : Blk _ b #[v0, v1, v2, a3] t := h1.set 2 v2
  exact h2.set 3 v3

set_option maxHeartbeats 2000000 in
set_option maxRecDepth 100000 in
theorem ref15_stays (most : Int) (rv : Value) (rs : List Rl) (s : Slot) (w : World) (hr : RulesAt w rv rs) (hro : ∀ r ∈ rs, RlOk r) (hrl : rs.length ≤ maxLen) (hs : SlotOk s) :
    Calls Tryz.prog 66 #[s.val, .agg #[.int .i64 most, rv]] w fun x w' => x = .returned (foundV rs s) ∧ Ext w w' := by
  obtain ⟨ra, rc, rfl⟩ := hr.size
  obtain ⟨k, sp, se, sbu, srk, sk, sa, sb⟩ := s
  obtain ⟨m1, m2, u1, u2, u3, u4, u5, u6, u7, u8, u9, u10, u11, u12⟩ := hs
  simp only at m1 m2 u1 u2 u3 u4 u5 u6 u7 u8 u9 u10 u11 u12
  have hF := fun W (hx : Ext w W) => ref13_Find (.slice ra rs.length rc) rs k W (hr.ext Rl.size4 hx) hro hrl m1
  have hmem : ∀ r, bestR rs k.data.toList = some r → r ∈ rs := fun r hr => (firstAt_mem ((bestR_char _ rs).2 r hr).first).1
  obtain ⟨o, ho⟩ : ∃ o, bestR rs k.data.toList = o := ⟨_, rfl⟩
  rw [ho] at hF hmem
  have HF := Lib.hid hF
  have HBO := Lib.hid ho
  have bs := ((Blk.new w #[.string k, .string sp, .int .u64 se, .int .u64 sbu, .int .u8 srk, .int .u8 sk, .int .u64 sa, .int .u64 sb] 65).alloc (.cells #[.int .i64 most, .slice ra rs.length rc] 25)).alloc (.cells rl0.cells 29)
  have bp := (Blk.new' (w.alloc (.cells #[.string k, .string sp, .int .u64 se, .int .u64 sbu, .int .u8 srk, .int .u8 sk, .int .u64 sa, .int .u64 sb] 65)) #[.int .i64 most, .slice ra rs.length rc] 25 (b := w.heap.size + 1) (by simp)).alloc (.cells rl0.cells 29)
  have bq := Blk.new' ((w.alloc (.cells #[.string k, .string sp, .int .u64 se, .int .u64 sbu, .int .u8 srk, .int .u8 sk, .int .u64 sa, .int .u64 sb] 65)).alloc (.cells #[.int .i64 most, .slice ra rs.length rc] 25)) rl0.cells 29 (b := w.heap.size + 1 + 1) (by simp)
  have hx0 : Ext w (((w.alloc (.cells #[.string k, .string sp, .int .u64 se, .int .u64 sbu, .int .u8 srk, .int .u8 sk, .int .u64 sa, .int .u64 sb] 65)).alloc (.cells #[.int .i64 most, .slice ra rs.length rc] 25)).alloc (.cells rl0.cells 29)) := (((Ext.refl w).alloc _).alloc _).alloc _
  simp only [rl0, Rl.cells] at bs bp bq hx0
  simp only [Slot.val, Slot.cells]
  clear hr hrl ho hF
  go_enter Tryz.func66, Tryz.ntmps66
  go_wp2_with fail
  generalize ((w.alloc (.cells #[.string k, .string sp, .int .u64 se, .int .u64 sbu, .int .u8 srk, .int .u8 sk, .int .u64 sa, .int .u64 sb] 65)).alloc (.cells #[.int .i64 most, .slice ra rs.length rc] 25)).alloc (.cells #[.string ⟨#[]⟩, .int .u64 0, .int .u64 0, .int .u8 0] 29) = w0 at *
  have q0 : w0.cell? ⟨w.heap.size, 0, none⟩ = some (.string k) := bs.cell 0
  have q1 : w0.cell? ⟨w.heap.size + 1, 1, none⟩ = some (.slice ra rs.length rc) := bp.cell 1
  refine (HF.out _ hx0).mono ?_
  obtain ⟨⟨rp, re, rb, rk⟩, is, hfo, hgo⟩ : ∃ (r : Rl) (is : Bool), findV o = .tuple #[.agg r.cells, .bool is] ∧ (o.getD rl0 = r ∧ (is = true → o = some r) ∧ (is = false → o = none)) := by
    cases o with
    | none => exact ⟨rl0, false, rfl, rfl, fun h => (by cases h), fun _ => rfl⟩
    | some r => exact ⟨r, true, rfl, rfl, fun _ => rfl, fun h => (by cases h)⟩
  rw [hfo]
  simp only [Rl.cells]
  rintro x w1 ⟨rfl, hx1⟩
  have b1 := (bs.ext hx1).alloc (.cells #[.string rp, .int .u64 re, .int .u64 rb, .int .u8 rk] 29)
  have b2 := (bq.ext hx1).alloc (.cells #[.string rp, .int .u64 re, .int .u64 rb, .int .u8 rk] 29)
  have b3 := Blk.new w1 #[.string rp, .int .u64 re, .int .u64 rb, .int .u8 rk] 29
  have hw1 : w.heap.size + 1 + 1 < w1.heap.size := (bq.ext hx1).lt
  have hxx := (hx0.trans hx1).alloc (.cells #[.string rp, .int .u64 re, .int .u64 rb, .int .u8 rk] 29)
  clear hx1 hx0 HF bs bq bp q0 q1 hfo
  go_upto_region 2 with fail
  generalize w1.alloc (.cells #[.string rp, .int .u64 re, .int .u64 rb, .int .u8 rk] 29) = w2 at *
  have r0 : ∀ X (s : LateB w2 (w.heap.size + 1 + 1) X), (lateB s).cell? ⟨w1.heap.size, 0, none⟩ = some (.string rp) := late_cell (b3.cell 0) (by omega)
  have r1 : ∀ X (s : LateB w2 (w.heap.size + 1 + 1) X), (lateB s).cell? ⟨w1.heap.size, 1, none⟩ = some (.int .u64 re) := late_cell (b3.cell 1) (by omega)
  have r2 : ∀ X (s : LateB w2 (w.heap.size + 1 + 1) X), (lateB s).cell? ⟨w1.heap.size, 2, none⟩ = some (.int .u64 rb) := late_cell (b3.cell 2) (by omega)
  have r3 : ∀ X (s : LateB w2 (w.heap.size + 1 + 1) X), (lateB s).cell? ⟨w1.heap.size, 3, none⟩ = some (.int .u8 rk) := late_cell (b3.cell 3) (by omega)
  have s1 : ∀ X (s : LateB w2 (w.heap.size + 1 + 1) X), (lateB s).cell? ⟨w.heap.size, 1, none⟩ = some (.string sp) := late_cell (b1.cell 1) (by omega)
  have s2 : ∀ X (s : LateB w2 (w.heap.size + 1 + 1) X), (lateB s).cell? ⟨w.heap.size, 2, none⟩ = some (.int .u64 se) := late_cell (b1.cell 2) (by omega)
  have s3 : ∀ X (s : LateB w2 (w.heap.size + 1 + 1) X), (lateB s).cell? ⟨w.heap.size, 3, none⟩ = some (.int .u64 sbu) := late_cell (b1.cell 3) (by omega)
  have s4 : ∀ X (s : LateB w2 (w.heap.size + 1 + 1) X), (lateB s).cell? ⟨w.heap.size, 4, none⟩ = some (.int .u8 srk) := late_cell (b1.cell 4) (by omega)
  have HBW := Lib.hid b2
  have hgl : w.heap.size + 1 + 1 < w2.heap.size := b2.lt
  have HX := Lib.hid hxx
  have HG := Lib.hid hgo
  clear b1 b2 b3 hxx hgo
  have hS0 := fun W => ref15_Same rp sp re rb rk se sbu srk W
  cases is with
  | false =>
      have HO := Lib.hid (HG.out.2.2 rfl)
      apply wp_region_late [0, 1, 2, 3, 4, 5, 6, 7, 8, 9, 10] 13 [11, 12, 14] (by kernel_rfl) (by kernel_rfl) (by kernel_rfl) rfl rfl (by kernel_rfl) (by kernel_rfl) rfl rfl (by kernel_rfl) HBW.out ?ga1 ?ga2 ?ga3 ?ga4 ?ga5
      case ga1 =>
        intro inst
        simp only [pick, pick_one, List.getElem?_cons_zero, List.getElem?_cons_succ]
        repeat (go_big_quiet_step (fail))
        refine wpQuiet_nil ?_
        exact rfl
      case ga2 => rfl
      case ga3 => exact late_store (o := 0) (C := #[.string ⟨#[]⟩, .int .u64 0, .int .u64 0, .int .u8 0]) (cells := #[.string rp, .int .u64 re, .int .u64 rb, .int .u8 rk]) rfl rfl rfl rfl rfl (by simp) (by kernel_rfl) (by simp [Value.oneCell'])
      case ga4 =>
        intro Z inst
        simp only [pick, pick_one, List.getElem?_cons_zero, List.getElem?_cons_succ]
        repeat (go_big_quiet_step (fail))
        refine wpQuiet_nil ?_
        exact rfl
      rintro sg
      have hS : Blk (lateB sg) (w.heap.size + 1 + 1) #[.string rp, .int .u64 re, .int .u64 rb, .int .u8 rk] 29 := sg.blk
      have HXS := Lib.hid (Ext.own HX.out sg.ext (by omega))
      go_wp2
      refine ret_cell_tmp Tryz.results66 rfl rfl hS Tryz.underlying29 rfl (by kernel_rfl) ⟨?_, HXS.out⟩
      have h1 := HG.out.1
      have h2 := HBO.out
      rw [HO.out] at h1 h2
      rw [foundV_none h2]
      simp only [Option.getD_none, rl0, Rl.mk.injEq] at h1
      obtain ⟨rfl, rfl, rfl, rfl⟩ := h1
      rfl
  | true =>
    have HO := Lib.hid (HG.out.2.1 rfl)
    obtain ⟨v1, v2, v3, v4, v5, v6, v7⟩ := hro _ (hmem _ HO.out)
    simp only at v1 v2 v3 v4 v5 v6 v7
    by_cases hsame : re = se ∧ rb = sbu
    · have HSM := Lib.hid (fun W => (hS0 W).mono (R' := fun x w' => x = .returned (.bool true) ∧ Ext W w') fun x w' h => ⟨by rw [h.1]; simp [hsame], h.2⟩)
      obtain ⟨E, hEE⟩ : ∃ E, ruleErr rp re rb rk = E := ⟨_, rfl⟩
      have hRR := fun W => ref11_Right rp re rb rk W v1 v2 v3 v4 v5
      rw [hEE] at hRR
      have HRR := Lib.hid hRR
      have HEE := Lib.hid hEE
      have HSA := Lib.hid hsame
      clear hS0 hRR hEE hsame
      by_cases hz : E = 0
      · subst hz
        have hz2 : ((0 : Int) == 0) = true := rfl
        apply wp_region_late [0, 1, 2, 3, 4, 5, 6, 7, 8, 9, 10] 13 [11, 12, 14] (by kernel_rfl) (by kernel_rfl) (by kernel_rfl) rfl rfl (by kernel_rfl) (by kernel_rfl) rfl rfl (by kernel_rfl) HBW.out ?gb1 ?gb2 ?gb3 ?gb4 ?gb5
        case gb1 =>
          intro inst
          simp only [pick, pick_one, List.getElem?_cons_zero, List.getElem?_cons_succ]
          repeat (go_big_quiet_step (first
          | (go_at_call 13; exact late_call hgl (HSM.out _))
          | (go_at_call 71; exact late_call hgl (HRR.out _))))
          refine wpQuiet_nil ?_
          exact rfl
        case gb2 => rfl
        case gb3 => exact late_store (o := 0) (C := #[.string ⟨#[]⟩, .int .u64 0, .int .u64 0, .int .u8 0]) (cells := #[.string rp, .int .u64 re, .int .u64 rb, .int .u8 rk]) rfl rfl rfl rfl rfl (by simp) (by kernel_rfl) (by simp [Value.oneCell'])
        case gb4 =>
          intro Z inst
          simp only [pick, pick_one, List.getElem?_cons_zero, List.getElem?_cons_succ]
          repeat (go_big_quiet_step (fail))
          refine wpQuiet_nil ?_
          exact rfl
        rintro sg
        have hS : Blk (lateB sg) (w.heap.size + 1 + 1) #[.string rp, .int .u64 re, .int .u64 rb, .int .u8 rk] 29 := sg.blk
        have HXS := Lib.hid (Ext.own HX.out sg.ext (by omega))
        go_wp2
        refine ret_cell_tmp Tryz.results66 rfl rfl hS Tryz.underlying29 rfl (by kernel_rfl) ⟨?_, HXS.out⟩
        rw [foundV_some (b := true) (r := ⟨rp, re, rb, rk⟩) (HBO.out.trans HO.out) ⟨fun _ => ⟨HSA.out.1, HSA.out.2, HEE.out⟩, fun _ => rfl⟩]
        rfl
      · have hz2 : (E == 0) = false := by simpa using hz
        apply wp_region_late [0, 1, 2, 3, 4, 5, 6, 7, 8, 9, 10] 13 [11, 12, 14] (by kernel_rfl) (by kernel_rfl) (by kernel_rfl) rfl rfl (by kernel_rfl) (by kernel_rfl) rfl rfl (by kernel_rfl) HBW.out ?gc1 ?gc2 ?gc3 ?gc4 ?gc5
        case gc1 =>
          intro inst
          simp only [pick, pick_one, List.getElem?_cons_zero, List.getElem?_cons_succ]
          repeat (go_big_quiet_step (first
          | (go_at_call 13; exact late_call hgl (HSM.out _))
          | (go_at_call 71; exact late_call hgl (HRR.out _))))
          refine wpQuiet_nil ?_
          exact rfl
        case gc2 => rfl
        case gc3 => exact late_store (o := 0) (C := #[.string ⟨#[]⟩, .int .u64 0, .int .u64 0, .int .u8 0]) (cells := #[.string rp, .int .u64 re, .int .u64 rb, .int .u8 rk]) rfl rfl rfl rfl rfl (by simp) (by kernel_rfl) (by simp [Value.oneCell'])
        case gc4 =>
          intro Z inst
          simp only [pick, pick_one, List.getElem?_cons_zero, List.getElem?_cons_succ]
          repeat (go_big_quiet_step (fail))
          refine wpQuiet_nil ?_
          exact rfl
        rintro sg
        have hS : Blk (lateB sg) (w.heap.size + 1 + 1) #[.string rp, .int .u64 re, .int .u64 rb, .int .u8 rk] 29 := sg.blk
        have HXS := Lib.hid (Ext.own HX.out sg.ext (by omega))
        go_wp2
        refine ret_cell_tmp Tryz.results66 rfl rfl hS Tryz.underlying29 rfl (by kernel_rfl) ⟨?_, HXS.out⟩
        rw [foundV_some (b := false) (HBO.out.trans HO.out) ⟨fun e => (by cases e), fun q => absurd q (fun q => hz (by rw [← HEE.out]; exact q.2.2))⟩]
        rfl
    · have HSM := Lib.hid (fun W => (hS0 W).mono (R' := fun x w' => x = .returned (.bool false) ∧ Ext W w') fun x w' h => ⟨by
        rw [h.1, show (decide (re = se) && decide (rb = sbu)) = false by rw [Bool.and_eq_false_iff, decide_eq_false_iff_not, decide_eq_false_iff_not]; by_cases h : re = se; exact Or.inr (fun q => hsame ⟨h, q⟩); exact Or.inl h], h.2⟩)
      have HSA := Lib.hid hsame
      clear hS0 hsame
      apply wp_region_late [0, 1, 2, 3, 4, 5, 6, 7, 8, 9, 10] 13 [11, 12, 14] (by kernel_rfl) (by kernel_rfl) (by kernel_rfl) rfl rfl (by kernel_rfl) (by kernel_rfl) rfl rfl (by kernel_rfl) HBW.out ?gd1 ?gd2 ?gd3 ?gd4 ?gd5
      case gd1 =>
        intro inst
        simp only [pick, pick_one, List.getElem?_cons_zero, List.getElem?_cons_succ]
        repeat (go_big_quiet_step ((go_at_call 13; exact late_call hgl (HSM.out _))))
        refine wpQuiet_nil ?_
        exact rfl
      case gd2 => rfl
      case gd3 => exact late_store (o := 0) (C := #[.string ⟨#[]⟩, .int .u64 0, .int .u64 0, .int .u8 0]) (cells := #[.string rp, .int .u64 re, .int .u64 rb, .int .u8 rk]) rfl rfl rfl rfl rfl (by simp) (by kernel_rfl) (by simp [Value.oneCell'])
      case gd4 =>
        intro Z inst
        simp only [pick, pick_one, List.getElem?_cons_zero, List.getElem?_cons_succ]
        repeat (go_big_quiet_step (fail))
        refine wpQuiet_nil ?_
        exact rfl
      rintro sg
      have hS : Blk (lateB sg) (w.heap.size + 1 + 1) #[.string rp, .int .u64 re, .int .u64 rb, .int .u8 rk] 29 := sg.blk
      have HXS := Lib.hid (Ext.own HX.out sg.ext (by omega))
      go_wp2
      refine ret_cell_tmp Tryz.results66 rfl rfl hS Tryz.underlying29 rfl (by kernel_rfl) ⟨?_, HXS.out⟩
      rw [foundV_some (b := false) (HBO.out.trans HO.out) ⟨fun e => (by cases e), fun q => absurd q (fun q => HSA.out ⟨q.1, q.2.1⟩)⟩]
      rfl
end Go.Proofs.YtfglpejbgfmojaaGreat

/- Walks: tollerref15.Lost. -/
namespace Go.Proofs.YtfglpejbgfmojaaGreat
open Go.RowKit
set_option linter.unusedVariables false
set_option linter.unusedSimpArgs false

theorem foundV_eq (rs : List Rl) (s : Slot) : ∃ rp re rb rk, foundV rs s = .tuple #[.agg #[.string rp, .int .u64 re, .int .u64 rb, .int .u8 rk], .bool (staysR rs s).isSome] :=
  ⟨((bestR rs s.key.data.toList).getD rl0).p, ((bestR rs s.key.data.toList).getD rl0).e, ((bestR rs s.key.data.toList).getD rl0).b, ((bestR rs s.key.data.toList).getD rl0).k, rfl⟩
theorem goneL_snoc {rs : List Rl} {l : List Slot} {k : Nat} (h : k < l.length) : goneL rs (l.take (k + 1)) = goneL rs (l.take k) ++ (if (staysR rs l[k]).isSome then [] else [l[k]]) := by
  rw [List.take_succ_eq_append_getElem h]
  unfold goneL
  rw [List.filter_append]
  congr 1
  cases hq : staysR rs l[k] with
  | none => simp [hq]
  | some r => simp [hq]

set_option maxHeartbeats 4000000 in
set_option maxRecDepth 100000 in
theorem ref15_Lost (most clock most' : Int) (v rv : Value) (l : List Slot) (rs : List Rl) (w : World) (hv : SlotsAt w v l) (hs : ∀ s ∈ l, SlotOk s) (hn0 : 0 ≤ clock) (hn1 : clock < 18446744073709551616) (hlen : l.length ≤ 1000000)
    (hr : RulesAt w rv rs) (hro : ∀ r ∈ rs, RlOk r) (hrl : rs.length ≤ maxLen) :
    Calls Tryz.prog 33 #[.agg #[.int .i64 most, .int .u64 clock, v], .agg #[.int .i64 most', rv]] w fun x w' => ∃ v', x = .returned v' ∧ KeyRow w.heap.size w' v' ((goneL rs (rSlots clock l)).map (·.key)) ∧ Ext w w' := by
  obtain ⟨a, cp, rfl⟩ := hv.size
  obtain ⟨ra, rc, rfl⟩ := hr.size
  have HSL := Lib.hid (fun W hx => ref14_Slots most clock (.slice a l.length cp) l W (hv.ext hx) hs hn0 hn1 hlen)
  have hrl2 : (rSlots clock l).length ≤ 1000000 := Nat.le_trans (List.length_filter_le _ _) hlen
  have hrs : ∀ s ∈ rSlots clock l, SlotOk s := fun s h => hs s (rSlots_mem h).1
  generalize rSlots clock l = xs at *
  have HST := Lib.hid (fun (s : Slot) (h : SlotOk s) W (hx : Ext w W) => ref15_stays most' (.slice ra rs.length rc) rs s W (hr.ext Rl.size4 hx) hro hrl h)
  have hgl0 : ∀ k, (goneL rs (xs.take k)).length ≤ 1000000 := fun k => Nat.le_trans (goneL_len rs _) (Nat.le_trans (by rw [List.length_take]; omega) hrl2)
  obtain ⟨i0, hi, hz0, hz1, hz2⟩ := info_parts str_infoO
  have HI := Lib.hid (And.intro hi (And.intro hz0 (And.intro hz1 hz2)))
  have HRS := Lib.hid hrs
  have HGL := Lib.hid hgl0
  have hml : (1000000 : Nat) + 1 ≤ maxLen := by decide
  have bt := (Blk.new w #[.int .i64 most, .int .u64 clock, .slice a l.length cp] 42).alloc (.cells #[.int .i64 most', .slice ra rs.length rc] 25)
  have bp := Blk.new' (w.alloc (.cells #[.int .i64 most, .int .u64 clock, .slice a l.length cp] 42)) #[.int .i64 most', .slice ra rs.length rc] 25 (b := w.heap.size + 1) (by simp)
  have hx0 : Ext w ((w.alloc (.cells #[.int .i64 most, .int .u64 clock, .slice a l.length cp] 42)).alloc (.cells #[.int .i64 most', .slice ra rs.length rc] 25)) := ((Ext.refl w).alloc _).alloc _
  clear hv hs hrs hi hz0 hz1 hz2 hr hro hrl hlen hgl0
  go_enter Tryz.func33, Tryz.ntmps33
  go_upto_region 2 with fail
  generalize (w.alloc (.cells #[.int .i64 most, .int .u64 clock, .slice a l.length cp] 42)).alloc (.cells #[.int .i64 most', .slice ra rs.length rc] 25) = w0 at *
  have q0 := bt.cell
  go_wp2_with fail
  refine (HSL.out _ hx0).mono ?_
  rintro x w1 ⟨v1, rfl, hr1, hx1⟩
  have HR1 := Lib.hid hr1.slots
  obtain ⟨a1, c1, rfl⟩ := hr1.size
  have bp1 := bp.ext hx1
  have HX := Lib.hid (hx0.trans hx1)
  have p0 : w1.cell? ⟨w.heap.size + 1, 0, none⟩ = some (.int .i64 most') := bp1.cell 0
  have p1 : w1.cell? ⟨w.heap.size + 1, 1, none⟩ = some (.slice ra rs.length rc) := bp1.cell 1
  clear bt bp bp1 q0 hx0 hx1 hr1 HSL
  go_wp2
  go_loopw [5, 7] (fun o i wr => ∃ (k : Nat), k ≤ xs.length ∧ i = .int .i64 k ∧ KeyRow w1.heap.size wr o ((goneL rs (xs.take k)).map (·.key)) ∧ Ext w1 wr) (fun _ i _ => xs.length - (intOf i).toNat)
  case atStart => exact ⟨0, by omega, rfl, RowOf.empty _ _ _ _ _, Ext.refl _⟩
  case round =>
    obtain ⟨k, hk, rfl, hrow, hx⟩ := hrel
    have HROW := Lib.hid hrow
    have hxw := Ext.sz HX.out
    have hxs := Ext.sz hx
    clear hrow
    by_cases hlt : k < xs.length
    · obtain ⟨b, oo, rfl, hbl, e0, e1, e2, e3, e4, e5, e6, e7⟩ := HR1.out.cells k hlt
      have hso := HRS.out xs[k] (List.getElem_mem _)
      have htk := goneL_snoc (rs := rs) hlt
      have htl := HGL.out k
      obtain ⟨s, hsg⟩ : ∃ s, xs[k] = s := ⟨_, rfl⟩
      rw [hsg] at e0 e1 e2 e3 e4 e5 e6 e7 htk hso
      have HST2 := Lib.hid (HST.out s hso)
      obtain ⟨rp, re, rb, rk, hfv⟩ := foundV_eq rs s
      rw [hfv] at HST2
      obtain ⟨is, his⟩ : ∃ is, (staysR rs s).isSome = is := ⟨_, rfl⟩
      rw [his] at htk HST2
      have HTK := Lib.hid htk
      have HTL := Lib.hid htl
      clear htk htl hsg hfv hso his
      obtain ⟨s1, s2, s3, s4, s5, s6, s7, s8⟩ := s
      simp only at e0 e1 e2 e3 e4 e5 e6 e7
      simp only [Slot.val, Slot.cells] at HST2
      have E0 := Lib.hid e0
      generalize hoo : oo + k * 8 = ob at *
      go_upto_region 6 with fail
      go_cut [8, 9] from 18 to 27 (fun x8 x9 wx => x9 = .bool is ∧ Ext wr wx)
      case first =>
        go_region_held3 (fun w' => w'.cell? ⟨w.heap.size + 1, 0, none⟩ = some (.int .i64 most') ∧ w'.cell? ⟨w.heap.size + 1, 1, none⟩ = some (.slice ra rs.length rc) ∧ w'.cell? ⟨b, ob, none⟩ = some (.string s1) ∧ w'.cell? ⟨b, ob + 1, none⟩ = some (.string s2) ∧ w'.cell? ⟨b, ob + 2, none⟩ = some (.int .u64 s3) ∧ w'.cell? ⟨b, ob + 3, none⟩ = some (.int .u64 s4) ∧ w'.cell? ⟨b, ob + 4, none⟩ = some (.int .u8 s5) ∧ w'.cell? ⟨b, ob + 5, none⟩ = some (.int .u8 s6) ∧ w'.cell? ⟨b, ob + 6, none⟩ = some (.int .u64 s7) ∧ w'.cell? ⟨b, ob + 7, none⟩ = some (.int .u64 s8) ∧ Ext w1 w')
          (((try go_split_ands); refine ⟨?_, ?_, ?_, ?_, ?_, ?_, ?_, ?_, ?_, ?_, ?_⟩ <;> first | with_reducible assumption | exact (Ext.refl _).drew | ((repeat (first | with_reducible exact Ext.refl _ | with_reducible assumption | with_reducible refine Ext.alloc ?_ _ | with_reducible refine Ext.drew ?_ | (with_reducible refine Ext.setCell ?_ (by first | exact Nat.le_refl _ | (dsimp only; omega) | (simp; done) | (simp; omega)) _) | with_reducible refine Ext.trans ?_ (by with_reducible assumption))); done) | (refine Ext.keep (w := w1) (by repeat (first | with_reducible exact Ext.refl _ | with_reducible assumption | with_reducible refine Ext.alloc ?_ _ | with_reducible refine Ext.drew ?_ | (with_reducible refine Ext.setCell ?_ (by first | exact Nat.le_refl _ | (dsimp only; omega) | (simp; done) | (simp; omega)) _) | with_reducible refine Ext.trans ?_ (by with_reducible assumption))) ?_; with_reducible assumption)))
          (first | (go_at_call 66; (with_reducible refine (HST2.out _ (HX.out.trans (by repeat (first | with_reducible exact Ext.refl _ | with_reducible assumption | with_reducible refine Ext.alloc ?_ _ | with_reducible refine Ext.drew ?_ | (with_reducible refine Ext.setCell ?_ (by first | exact Nat.le_refl _ | (dsimp only; omega) | (simp; done) | (simp; omega)) _) | with_reducible refine Ext.trans ?_ (by with_reducible assumption))))).mono ?_); rintro x w6 ⟨rfl, hx6⟩; (try (with_reducible have bn := Blk.ext (Blk.drew (Blk.new wr #[.string ⟨#[]⟩, .int .u64 0, .int .u64 0, .int .u8 0] 29)) hx6; have cn := bn.cell; have fn := bn.free))))
        all_goals
          go_wp2
          go_meet
          exact ⟨rfl, (by repeat (first | with_reducible exact Ext.refl _ | with_reducible assumption | with_reducible refine Ext.alloc ?_ _ | with_reducible refine Ext.drew ?_ | (with_reducible refine Ext.setCell ?_ (by first | exact Nat.le_refl _ | (dsimp only; omega) | (simp; done) | (simp; omega)) _) | with_reducible refine Ext.trans ?_ (by with_reducible assumption)))⟩
      case rest =>
        obtain ⟨rfl, hxc⟩ := hcut
        have hc0 := hxc.keep (hx.keep E0.out)
        have HXC := Lib.hid hxc
        have HX2 := Lib.hid (hx.trans hxc)
        have hsz := Ext.sz (hx.trans hxc)
        clear e0 e1 e2 e3 e4 e5 e6 e7 hxc
        cases is with
        | true =>
          rw [if_pos rfl, List.append_nil] at HTK
          go_wp2
          go_roundw
          case rel => exact ⟨k + 1, by omega, by go_num, by rw [HTK.out]; exact HROW.out.ext HXC.out, HX2.out⟩
          case measure => simp [intOf]; omega
        | false =>
          rw [if_neg (by decide)] at HTK
          go_wp2_with (first
            | (at_builtin; refine wpList_append_own _ rfl (.tmp 29) (.tmp 35) 46 rfl w1.heap.size 9 i0 (.string ⟨#[]⟩) 1 16 Tryz.underlying46 HI.out.1 HI.out.2.1 HI.out.2.2.1 HI.out.2.2.2 rfl (by decide) _ _ _ rfl ((own_ext HROW.out.own HXC.out).alloc _) ⟨wc.heap.size, 0, none⟩ 1 1 [.string s1] rfl rfl (blk_news (C := #[.string s1]) (Blk.new _ _ _)) (by simp [Value.oneCell']) (by have := HTL.out; simp only [List.length_map]; omega) (by have := HTL.out; simp only [List.length_map]; omega) (by simp; omega) ?_; rintro v' w4 hown hgrow -)
            | fail)
          have hx4 : Ext w1 w4 := Ext.grownAt (HX2.out.alloc _) ((own_ext HROW.out.own HXC.out).alloc _) (Nat.le_refl _) hgrow
          have hrow4 : KeyRow w1.heap.size w4 v' ((goneL rs (xs.take (k + 1))).map (·.key)) := keyrow_more hown (by rw [HTK.out, List.map_append]; rfl)
          clear hown hgrow
          go_wp2
          go_roundw
          case rel => exact ⟨k + 1, by omega, by go_num, hrow4, hx4⟩
          case measure => simp [intOf]; omega
    · have hkl : k = xs.length := by omega
      subst hkl
      go_wp2
      go_ret
      exact ⟨_, rfl, by have := HROW.out; rw [List.take_length] at this; exact this.low hxw, HX.out.trans hx⟩
end Go.Proofs.YtfglpejbgfmojaaGreat

/- Walks: tollerref11.Strings. -/
namespace Go.Proofs.YtfglpejbgfmojaaGreat
open Go.RowKit
set_option linter.unusedVariables false
set_option linter.unusedSimpArgs false

def str1 (k : ByteArray) : Array Value := #[.string k]
theorem str1_size (k : ByteArray) : (str1 k).size = 1 := rfl
/-- rows of strings read -/
abbrev StrsAt (w : World) (v : Value) (l : List ByteArray) : Prop := ElemsAt str1 1 w v l

set_option maxHeartbeats 2000000 in
set_option maxRecDepth 100000 in
theorem ref11_Strings (v v' : Value) (l l' : List ByteArray) (w : World) (hv : StrsAt w v l) (hv' : StrsAt w v' l') (hlen : l.length ≤ 1000000) (hlen' : l'.length ≤ 1000000) :
    Calls Tryz.prog 32 #[v, v'] w fun x w' => x = .returned (.bool (decide (l = l'))) ∧ Ext w w' := by
  obtain ⟨a, c, rfl⟩ := hv.size
  obtain ⟨a', c', rfl⟩ := hv'.size
  have HV := Lib.hid hv
  have HV' := Lib.hid hv'
  clear hv hv'
  have hml : (1000000 : Nat) + 1 ≤ maxLen := by decide
  go_enter Tryz.func32, Tryz.ntmps32
  by_cases hne : l.length = l'.length
  · go_wp2
    have hml2 : l.length ≤ maxLen := by omega
    go_loopw [5] (fun i wr => ∃ (k : Nat), k ≤ l.length ∧ i = .int .i64 k ∧ (∀ j (h : j < k) (h1 : j < l.length) (h2 : j < l'.length), l[j] = l'[j]) ∧ Ext w wr) (fun i _ => l.length - (intOf i).toNat)
    case atStart => exact ⟨0, by omega, rfl, fun j h => absurd h (by omega), Ext.refl _⟩
    case round =>
      obtain ⟨k, hk, rfl, hall, hx⟩ := hrel
      have HA := Lib.hid hall
      clear hall
      by_cases hlt : k < l.length
      · obtain ⟨b, o, rfl, hbl, hc⟩ := (HV.out.ext str1_size hx).cells str1_size (by decide) k hlt
        obtain ⟨b', o', rfl, hbl', hc'⟩ := (HV'.out.ext str1_size hx).cells str1_size (by decide) k (by omega)
        have c0 : wr.cell? ⟨b, o + k, none⟩ = some (.string l[k]) := by have := hc 0 (by decide); simpa [str1] using this
        have c1 : wr.cell? ⟨b', o' + k, none⟩ = some (.string l'[k]) := by have := hc' 0 (by decide); simpa [str1] using this
        obtain ⟨s, hs⟩ : ∃ s, l[k] = s := ⟨_, rfl⟩
        obtain ⟨s', hs'⟩ : ∃ s', l'[k] = s' := ⟨_, rfl⟩
        rw [hs] at c0
        rw [hs'] at c1
        have HS := Lib.hid hs
        have HS' := Lib.hid hs'
        clear hc hc' hs hs'
        have hz0 : (0 : Int) ≤ (k : Int) := by omega
        have hz1 : (k : Int) < (l.length : Int) := by omega
        have hz2 : (k : Int) < (l'.length : Int) := by omega
        by_cases he : s = s'
        · subst he
          go_upto_region 6 with fail
          go_quiet (fail)
          have hxn := hx.trans (Ext.drewNs wr nq)
          go_wp2
          go_roundw
          case rel =>
            refine ⟨k + 1, by omega, by go_num, fun j h h1 h2 => ?_, hxn⟩
            rcases Nat.lt_or_ge j k with q | q
            · exact HA.out j q h1 h2
            · have : j = k := by omega
              subst this
              rw [HS.out, HS'.out]
          case measure => simp [intOf]; omega
        · have hb : (s.toList == s'.toList) = false := by rw [toList_beq]; simpa using he
          go_upto_region 6 with fail
          go_quiet (fail)
          have hxn := hx.trans (Ext.drewNs wr nq)
          go_wp2
          go_ret
          refine ⟨?_, hxn⟩
          rw [decide_eq_false (fun e => he (by subst e; rw [← HS.out, ← HS'.out]))]
          rfl
      · have hkl : k = l.length := by omega
        subst hkl
        go_wp2
        go_ret
        refine ⟨?_, hx⟩
        rw [decide_eq_true (List.ext_getElem hne fun j h1 h2 => HA.out j h1 h1 h2)]
        rfl
  · go_wp2
    go_ret
    refine ⟨?_, (by repeat (first | with_reducible exact Ext.refl _ | with_reducible assumption | with_reducible refine Ext.alloc ?_ _ | with_reducible refine Ext.drew ?_ | (with_reducible refine Ext.setCell ?_ (by first | exact Nat.le_refl _ | (dsimp only; omega) | (simp; done) | (simp; omega)) _) | with_reducible refine Ext.trans ?_ (by with_reducible assumption)))⟩
    rw [decide_eq_false (fun e => hne (by rw [e]))]
    rfl
end Go.Proofs.YtfglpejbgfmojaaGreat

/- Walks: tollerref15.Keep. -/
namespace Go.Proofs.YtfglpejbgfmojaaGreat
open Go.RowKit
set_option linter.unusedVariables false
set_option linter.unusedSimpArgs false

def RefKeepEnd (w : World) (most clock : Int) (kept gone : List Slot) (x : Ending) (w' : World) : Prop := Ext w w' ∧
  ((¬ (1 ≤ most ∧ most ≤ 1000000) ∧ x = .returned (.tuple #[.agg #[.int .i64 0, .int .u64 0, .slice none 0 0], .int .i64 0, .int .i64 29])) ∨
   (((1 ≤ most ∧ most ≤ 1000000) ∧ most < (kept.length : Int)) ∧ x = .returned (.tuple #[.agg #[.int .i64 0, .int .u64 0, .slice none 0 0], .int .i64 0, .int .i64 50])) ∨
   (((1 ≤ most ∧ most ≤ 1000000) ∧ (kept.length : Int) ≤ most) ∧ ∃ v', x = .returned (.tuple #[.agg #[.int .i64 most, .int .u64 clock, v'], .int .i64 (gone.length : Int), .int .i64 0]) ∧ SlotRow w.heap.size w' v' kept))
theorem foundV_no {rs : List Rl} {s : Slot} (h : staysR rs s = none) : ∃ rp re rb rk, foundV rs s = .tuple #[.agg #[.string rp, .int .u64 re, .int .u64 rb, .int .u8 rk], .bool false] := by
  obtain ⟨rp, re, rb, rk, q⟩ := foundV_eq rs s
  rw [h] at q
  exact ⟨rp, re, rb, rk, q⟩
theorem foundV_yes {rs : List Rl} {s : Slot} {r : Rl} (h : staysR rs s = some r) : foundV rs s = .tuple #[.agg #[.string r.p, .int .u64 r.e, .int .u64 r.b, .int .u8 r.k], .bool true] := by
  unfold foundV
  rw [h, (staysR_some h).1]
  rfl
theorem mostOf_id {m : Int} (h1 : 1 ≤ m) (h2 : m ≤ 1000000) : mostOf m = m := by unfold mostOf; omega

set_option maxHeartbeats 4000000 in
set_option maxRecDepth 100000 in
theorem ref15_Keep (most clock most' : Int) (v rv : Value) (l : List Slot) (rs : List Rl) (w : World) (hv : SlotsAt w v l) (hs : ∀ s ∈ l, SlotOk s) (hn0 : 0 ≤ clock) (hn1 : clock < 18446744073709551616) (hlen : l.length ≤ 1000000)
    (hr : RulesAt w rv rs) (hro : ∀ r ∈ rs, RlOk r) (hrl : rs.length ≤ maxLen) (hm0 : -9223372036854775808 ≤ most') (hm1 : most' ≤ 9223372036854775807) :
    Calls Tryz.prog 31 #[.agg #[.int .i64 most, .int .u64 clock, v], .agg #[.int .i64 most', rv]] w (RefKeepEnd w most' clock (keptL clock rs (rSlots clock l)) (goneL rs (rSlots clock l))) := by
  obtain ⟨a, cp, rfl⟩ := hv.size
  obtain ⟨ra, rc, rfl⟩ := hr.size
  have HSL := Lib.hid (fun W hx => ref14_Slots most clock (.slice a l.length cp) l W (hv.ext hx) hs hn0 hn1 hlen)
  have hrl2 : (rSlots clock l).length ≤ 1000000 := Nat.le_trans (List.length_filter_le _ _) hlen
  have hrs : ∀ s ∈ rSlots clock l, SlotOk s ∧ rightKind s.sk = true := fun s h => ⟨hs s (rSlots_mem h).1, fill_right (rSlots_mem h).2⟩
  generalize rSlots clock l = xs at *
  have HST := Lib.hid (fun (s : Slot) (h : SlotOk s) W (hx : Ext w W) => ref15_stays most' (.slice ra rs.length rc) rs s W (hr.ext Rl.size4 hx) hro hrl h)
  have HKL := Lib.hid (fun k => Nat.le_trans (keptL_len clock rs (xs.take k)) (Nat.le_trans (by rw [List.length_take]; omega) hrl2 : (xs.take k).length ≤ 1000000))
  have HGL := Lib.hid (fun k => Nat.le_trans (goneL_len rs (xs.take k)) (Nat.le_trans (by rw [List.length_take]; omega) hrl2 : (xs.take k).length ≤ 1000000))
  obtain ⟨i0, hi, hz0, hz1, hz2⟩ := info_parts slot_info
  have HI := Lib.hid (And.intro hi (And.intro hz0 (And.intro hz1 hz2)))
  have HRS := Lib.hid hrs
  have HRO := Lib.hid hro
  have hml : (1000000 : Nat) + 1 ≤ maxLen := by decide
  have bt := ((Blk.new w #[.int .i64 most, .int .u64 clock, .slice a l.length cp] 42).alloc (.cells #[.int .i64 most', .slice ra rs.length rc] 25)).alloc (.cells #[.int .i64 0, .int .u64 0, .slice none 0 0] 42)
  have bp := (Blk.new' (w.alloc (.cells #[.int .i64 most, .int .u64 clock, .slice a l.length cp] 42)) #[.int .i64 most', .slice ra rs.length rc] 25 (b := w.heap.size + 1) (by simp)).alloc (.cells #[.int .i64 0, .int .u64 0, .slice none 0 0] 42)
  have bq := Blk.new' ((w.alloc (.cells #[.int .i64 most, .int .u64 clock, .slice a l.length cp] 42)).alloc (.cells #[.int .i64 most', .slice ra rs.length rc] 25)) #[.int .i64 0, .int .u64 0, .slice none 0 0] 42 (b := w.heap.size + 1 + 1) (by simp)
  have hx0 : Ext w (((w.alloc (.cells #[.int .i64 most, .int .u64 clock, .slice a l.length cp] 42)).alloc (.cells #[.int .i64 most', .slice ra rs.length rc] 25)).alloc (.cells #[.int .i64 0, .int .u64 0, .slice none 0 0] 42)) := (((Ext.refl w).alloc _).alloc _).alloc _
  clear hv hs hrs hi hz0 hz1 hz2 hr hro hrl hlen
  go_enter Tryz.func31, Tryz.ntmps31
  go_upto_region 1 with fail
  generalize ((w.alloc (.cells #[.int .i64 most, .int .u64 clock, .slice a l.length cp] 42)).alloc (.cells #[.int .i64 most', .slice ra rs.length rc] 25)).alloc (.cells #[.int .i64 0, .int .u64 0, .slice none 0 0] 42) = w0 at *
  have p0 : w0.cell? ⟨w.heap.size + 1, 0, none⟩ = some (.int .i64 most') := bp.cell 0
  have q0 := bq.cell
  have qf := bq.free
  have ql := bq.lt
  by_cases hm : 1 ≤ most' ∧ most' ≤ 1000000
  · obtain ⟨hma, hmb⟩ := hm
    have hmi := mostOf_id hma hmb
    have hg1 : (most' < 1) = False := by simp; omega
    have hg2 : (1000000 < most') = False := by simp; omega
    go_wp2_with fail
    refine (ref14_New most' _ hm0 hm1).mono ?_
    rintro x w1 ⟨rfl, hx1⟩
    rw [hmi]
    have bt1 := bt.ext hx1
    have bT := Blk.new w1 #[.int .i64 most', .int .u64 0, .slice none 0 0] 42
    have bta := bt1.alloc (.cells #[.int .i64 most', .int .u64 0, .slice none 0 0] 42)
    have tc := bT.cell
    have tf := bT.free
    have tl := bT.lt
    have ta : (w1.alloc (.cells #[.int .i64 most', .int .u64 0, .slice none 0 0] 42)).cell? ⟨w.heap.size, 1, none⟩ = some (.int .u64 clock) := bta.cell 1
    have hq1 : w.heap.size + 1 + 1 < w1.heap.size := (bq.ext hx1).lt
    have B2 := Lib.hid (Blk.new w1 #[.int .i64 most', .int .u64 clock, .slice none 0 0] 42)
    have BT2 := Lib.hid (bt1.alloc (.cells #[.int .i64 most', .int .u64 clock, .slice none 0 0] 42))
    have BP2 := Lib.hid ((bp.ext hx1).alloc (.cells #[.int .i64 most', .int .u64 clock, .slice none 0 0] 42))
    have BQ2 := Lib.hid ((bq.ext hx1).alloc (.cells #[.int .i64 most', .int .u64 clock, .slice none 0 0] 42))
    have HX2 := Lib.hid ((hx0.trans hx1).alloc (.cells #[.int .i64 most', .int .u64 clock, .slice none 0 0] 42))
    clear bt bp bq bt1 bT bta hx0 hx1 p0 q0 qf ql hg1 hg2
    go_upto_region 5 with fail
    generalize w1.alloc (.cells #[.int .i64 most', .int .u64 clock, .slice none 0 0] 42) = w2 at *
    have t0 := BT2.out.cell
    go_wp2_with fail
    refine (HSL.out _ HX2.out).mono ?_
    rintro x w3 ⟨v1, rfl, hr1, hx3⟩
    have HN := Lib.hid hr1
    obtain ⟨a1, c1, rfl⟩ := hr1.size
    have B3 := Lib.hid (B2.out.ext hx3)
    have BT3 := Lib.hid (BT2.out.ext hx3)
    have BP3 := Lib.hid (BP2.out.ext hx3)
    have BQ3 := Lib.hid (BQ2.out.ext hx3)
    have HX3 := Lib.hid (HX2.out.trans hx3)
    have hs2 := B2.out.lt
    have hs3 := Ext.sz hx3
    clear t0 tc tf tl ta hr1 hx3 B2 BT2 BP2 BQ2 HX2 HSL
    generalize w1.heap.size = T at *
    go_wp2
    go_loopw [9, 10] (fun gn i wr => ∃ (k : Nat) (v : Value), k ≤ xs.length ∧ i = .int .i64 k ∧ gn = .int .i64 ((goneL rs (xs.take k)).length : Nat) ∧ Blk wr T #[.int .i64 most', .int .u64 clock, v] 42 ∧ SlotRow w3.heap.size wr v (keptL clock rs (xs.take k)) ∧ ExtB T w3 wr) (fun _ i _ => xs.length - (intOf i).toNat)
    case atStart => exact ⟨0, _, by omega, rfl, rfl, B3.out, RowOf.empty _ _ _ _ _, ExtB.refl _ _⟩
    case round =>
      obtain ⟨k, v, hk, rfl, rfl, hbt, hrow, hx⟩ := hrel
      have HROW := Lib.hid hrow
      have hxs := ExtB.size hx
      have hxT := hbt.lt
      have bt := BT3.out.extB hx (by omega)
      have bp := BP3.out.extB hx (by omega)
      have hxw : Ext w wr := Ext.own HX3.out hx (by omega)
      have HBT := Lib.hid hbt
      have HB := Lib.hid bt
      have p0 : wr.cell? ⟨w.heap.size + 1, 0, none⟩ = some (.int .i64 most') := bp.cell 0
      have p1 : wr.cell? ⟨w.heap.size + 1, 1, none⟩ = some (.slice ra rs.length rc) := bp.cell 1
      have HXW := Lib.hid hxw
      have HXR := Lib.hid hx
      clear hrow bt bp hbt hxw
      by_cases hlt : k < xs.length
      · have hn' := HN.out.extB hx (by omega)
        obtain ⟨b, oo, rfl, hbl, e0, e1, e2, e3, e4, e5, e6, e7⟩ := hn'.slots.cells k hlt
        have hso := HRS.out xs[k] (List.getElem_mem _)
        have htk : xs.take (k + 1) = xs.take k ++ [xs[k]] := List.take_succ_eq_append_getElem hlt
        have htl := HKL.out k
        have hgl := HGL.out k
        clear hn' hx
        obtain ⟨s, hsg⟩ : ∃ s, xs[k] = s := ⟨_, rfl⟩
        rw [hsg] at e0 e1 e2 e3 e4 e5 e6 e7 htk hso
        have HSO := Lib.hid hso
        have HTK := Lib.hid htk
        have HTL := Lib.hid htl
        have HST2 := Lib.hid (HST.out s hso.1)
        clear htk htl hsg hso
        cases hsr : staysR rs s with
        | none =>
          have HTG := Lib.hid (keptL_snoc_no (clock := clock) (l := xs.take k) hsr)
          obtain ⟨rp, re, rb, rk, hfv⟩ := foundV_no hsr
          rw [hfv] at HST2
          clear hsr hfv
          obtain ⟨s1, s2, s3, s4, s5, s6, s7, s8⟩ := s
          simp only at e0 e1 e2 e3 e4 e5 e6 e7
          simp only [Slot.val, Slot.cells] at HST2
          generalize hoo : oo + k * 8 = ob at *
          go_upto_region 10 with fail
          go_cut [11, 12] from 39 to 48 (fun x11 x12 wx => x12 = .bool false ∧ Ext wr wx)
          case first =>
            go_region_held3 (fun w' => w'.cell? ⟨w.heap.size + 1, 0, none⟩ = some (.int .i64 most') ∧ w'.cell? ⟨w.heap.size + 1, 1, none⟩ = some (.slice ra rs.length rc) ∧ w'.cell? ⟨b, ob, none⟩ = some (.string s1) ∧ w'.cell? ⟨b, ob + 1, none⟩ = some (.string s2) ∧ w'.cell? ⟨b, ob + 2, none⟩ = some (.int .u64 s3) ∧ w'.cell? ⟨b, ob + 3, none⟩ = some (.int .u64 s4) ∧ w'.cell? ⟨b, ob + 4, none⟩ = some (.int .u8 s5) ∧ w'.cell? ⟨b, ob + 5, none⟩ = some (.int .u8 s6) ∧ w'.cell? ⟨b, ob + 6, none⟩ = some (.int .u64 s7) ∧ w'.cell? ⟨b, ob + 7, none⟩ = some (.int .u64 s8) ∧ Ext wr w')
              (((try go_split_ands); refine ⟨?_, ?_, ?_, ?_, ?_, ?_, ?_, ?_, ?_, ?_, ?_⟩ <;> first | with_reducible assumption | exact (Ext.refl _).drew | ((repeat (first | with_reducible exact Ext.refl _ | with_reducible assumption | with_reducible refine Ext.alloc ?_ _ | with_reducible refine Ext.drew ?_ | (with_reducible refine Ext.setCell ?_ (by first | exact Nat.le_refl _ | (dsimp only; omega) | (simp; done) | (simp; omega)) _) | with_reducible refine Ext.trans ?_ (by with_reducible assumption))); done) | (refine Ext.keep (w := wr) (by repeat (first | with_reducible exact Ext.refl _ | with_reducible assumption | with_reducible refine Ext.alloc ?_ _ | with_reducible refine Ext.drew ?_ | (with_reducible refine Ext.setCell ?_ (by first | exact Nat.le_refl _ | (dsimp only; omega) | (simp; done) | (simp; omega)) _) | with_reducible refine Ext.trans ?_ (by with_reducible assumption))) ?_; with_reducible assumption)))
              (first | (go_at_call 66; (with_reducible refine (HST2.out _ (HXW.out.trans (by repeat (first | with_reducible exact Ext.refl _ | with_reducible assumption | with_reducible refine Ext.alloc ?_ _ | with_reducible refine Ext.drew ?_ | (with_reducible refine Ext.setCell ?_ (by first | exact Nat.le_refl _ | (dsimp only; omega) | (simp; done) | (simp; omega)) _) | with_reducible refine Ext.trans ?_ (by with_reducible assumption))))).mono ?_); rintro x w6 ⟨rfl, hx6⟩; (try (with_reducible have bn := Blk.ext (Blk.drew (Blk.new wr #[.string ⟨#[]⟩, .int .u64 0, .int .u64 0, .int .u8 0] 29)) hx6; have cn := bn.cell; have fn := bn.free))))
            all_goals
              go_wp2
              go_meet
              exact ⟨rfl, (by repeat (first | with_reducible exact Ext.refl _ | with_reducible assumption | with_reducible refine Ext.alloc ?_ _ | with_reducible refine Ext.drew ?_ | (with_reducible refine Ext.setCell ?_ (by first | exact Nat.le_refl _ | (dsimp only; omega) | (simp; done) | (simp; omega)) _) | with_reducible refine Ext.trans ?_ (by with_reducible assumption)))⟩
          case rest =>
            obtain ⟨rfl, hxc⟩ := hcut
            have HXC := Lib.hid hxc
            clear e0 e1 e2 e3 e4 e5 e6 e7 hxc
            go_wp2
            go_roundw
            case rel => exact ⟨k + 1, v, by omega, by go_num, by rw [HTK.out, HTG.out.2, List.length_append]; go_num, HBT.out.ext HXC.out, by rw [HTK.out, HTG.out.1]; exact HROW.out.ext HXC.out, HXR.out.trans (HXC.out.toB T)⟩
            case measure => simp [intOf]; omega
        | some r =>
          have HTG := Lib.hid (keptL_snoc_yes (clock := clock) (l := xs.take k) hsr)
          have hfv := foundV_yes hsr
          rw [hfv] at HST2
          obtain ⟨hbr, hre, hrb, herr⟩ := staysR_some hsr
          have hrin := HRO.out r (firstAt_mem ((bestR_char _ rs).2 r hbr).first).1
          have hrk := (keptS_ok hrin HSO.out.1 herr hn0 hn1).2
          obtain ⟨hm1', hm2', hu1, hu2, hu3, hu4, hu5, hu6, hu7, hu8, hu9, hu10, hu11, hu12⟩ := HSO.out.1
          have hks := HSO.out.2
          obtain ⟨rp, re, rb, rk⟩ := r
          obtain ⟨hv1, hv2, hv3, hv4, hv5, hv6, hv7⟩ := hrin
          obtain ⟨s1, s2, s3, s4, s5, s6, s7, s8⟩ := s
          simp only at e0 e1 e2 e3 e4 e5 e6 e7 hre hrb hrk hm1' hm2' hu1 hu2 hu3 hu4 hu5 hu6 hu7 hu8 hu9 hu10 hu11 hu12 hks hv1 hv2 hv3 hv4 hv5 hv6 hv7
          simp only [Slot.val, Slot.cells] at HST2
          have hcu := ruleCap_u rp re rb rk hv2 hv4
          have hCP := fun W => ref11_Cap rp re rb rk W hv1 hv2 hv3 hv4 hv5
          have hKS : keptS clock ⟨rp, re, rb, rk⟩ ⟨s1, s2, s3, s4, s5, s6, s7, s8⟩ = ⟨s1, rp, re, rb, rk, rk, kOfA rk clock (ruleCap rp re rb rk) (kFill s6 s7 s8 clock (ruleCap rp re rb rk)), kOfB rk clock⟩ := rfl
          rw [hKS] at HTG
          generalize ruleCap rp re rb rk = cap at *
          obtain ⟨hc0, hc1⟩ := hcu
          have HCP := Lib.hid hCP
          have HMG := Lib.hid (fun W : World => ref07_Migrate s6 s7 s8 rk clock cap W (by assumption) (by assumption) (by assumption) (by assumption) hn0 hn1 hc0 (by omega) hks hrk)
          generalize kOfA rk clock cap (kFill s6 s7 s8 clock cap) = oa at *
          generalize kOfB rk clock = ob' at *
          clear hsr hfv hbr hre hrb herr hrk hm1' hm2' hu1 hu2 hu3 hu4 hu5 hu6 hu7 hu8 hu9 hu10 hu11 hu12 hks hv1 hv2 hv3 hv4 hv5 hv6 hv7 hCP hKS hc0 hc1
          generalize hoo : oo + k * 8 = ob at *
          go_upto_region 10 with fail
          go_cut [11, 12] from 39 to 48 (fun x11 x12 wx => x12 = .bool true ∧ ∃ g, x11 = .pointer (some ⟨g, 0, none⟩) ∧ Blk wx g #[.string rp, .int .u64 re, .int .u64 rb, .int .u8 rk] 29 ∧ wr.heap.size ≤ g ∧ Ext wr wx)
          case first =>
            go_region_held3 (fun w' => w'.cell? ⟨w.heap.size + 1, 0, none⟩ = some (.int .i64 most') ∧ w'.cell? ⟨w.heap.size + 1, 1, none⟩ = some (.slice ra rs.length rc) ∧ w'.cell? ⟨b, ob, none⟩ = some (.string s1) ∧ w'.cell? ⟨b, ob + 1, none⟩ = some (.string s2) ∧ w'.cell? ⟨b, ob + 2, none⟩ = some (.int .u64 s3) ∧ w'.cell? ⟨b, ob + 3, none⟩ = some (.int .u64 s4) ∧ w'.cell? ⟨b, ob + 4, none⟩ = some (.int .u8 s5) ∧ w'.cell? ⟨b, ob + 5, none⟩ = some (.int .u8 s6) ∧ w'.cell? ⟨b, ob + 6, none⟩ = some (.int .u64 s7) ∧ w'.cell? ⟨b, ob + 7, none⟩ = some (.int .u64 s8) ∧ Ext wr w')
              (((try go_split_ands); refine ⟨?_, ?_, ?_, ?_, ?_, ?_, ?_, ?_, ?_, ?_, ?_⟩ <;> first | with_reducible assumption | exact (Ext.refl _).drew | ((repeat (first | with_reducible exact Ext.refl _ | with_reducible assumption | with_reducible refine Ext.alloc ?_ _ | with_reducible refine Ext.drew ?_ | (with_reducible refine Ext.setCell ?_ (by first | exact Nat.le_refl _ | (dsimp only; omega) | (simp; done) | (simp; omega)) _) | with_reducible refine Ext.trans ?_ (by with_reducible assumption))); done) | (refine Ext.keep (w := wr) (by repeat (first | with_reducible exact Ext.refl _ | with_reducible assumption | with_reducible refine Ext.alloc ?_ _ | with_reducible refine Ext.drew ?_ | (with_reducible refine Ext.setCell ?_ (by first | exact Nat.le_refl _ | (dsimp only; omega) | (simp; done) | (simp; omega)) _) | with_reducible refine Ext.trans ?_ (by with_reducible assumption))) ?_; with_reducible assumption)))
              (first | (go_at_call 66; (with_reducible refine (HST2.out _ (HXW.out.trans (by repeat (first | with_reducible exact Ext.refl _ | with_reducible assumption | with_reducible refine Ext.alloc ?_ _ | with_reducible refine Ext.drew ?_ | (with_reducible refine Ext.setCell ?_ (by first | exact Nat.le_refl _ | (dsimp only; omega) | (simp; done) | (simp; omega)) _) | with_reducible refine Ext.trans ?_ (by with_reducible assumption))))).mono ?_); rintro x w6 ⟨rfl, hx6⟩; have hs6 := Ext.sz hx6; (try (with_reducible have bn := Blk.ext (Blk.drew (Blk.new wr #[.string ⟨#[]⟩, .int .u64 0, .int .u64 0, .int .u8 0] 29)) hx6; have cn := bn.cell; have fn := bn.free))))
            all_goals
              go_wp2
              go_meet
              first
                | exact ⟨rfl, _, rfl, set4 bn _ _ _ _, Nat.le_refl _, (by repeat (first | with_reducible exact Ext.refl _ | with_reducible assumption | with_reducible refine Ext.alloc ?_ _ | with_reducible refine Ext.drew ?_ | (with_reducible refine Ext.setCell ?_ (by first | exact Nat.le_refl _ | (dsimp only; omega) | (simp; done) | (simp; omega)) _) | with_reducible refine Ext.trans ?_ (by with_reducible assumption)))⟩
                | exact ⟨rfl, _, rfl, Blk.new _ _ _, by simp at hs6; omega, (by repeat (first | with_reducible exact Ext.refl _ | with_reducible assumption | with_reducible refine Ext.alloc ?_ _ | with_reducible refine Ext.drew ?_ | (with_reducible refine Ext.setCell ?_ (by first | exact Nat.le_refl _ | (dsimp only; omega) | (simp; done) | (simp; omega)) _) | with_reducible refine Ext.trans ?_ (by with_reducible assumption)))⟩
          case rest =>
            obtain ⟨rfl, g, rfl, hbg, hgl', hxc⟩ := hcut
            have e0 := hxc.keep e0
            have e1 := hxc.keep e1
            have e2 := hxc.keep e2
            have e3 := hxc.keep e3
            have e4 := hxc.keep e4
            have e5 := hxc.keep e5
            have e6 := hxc.keep e6
            have e7 := hxc.keep e7
            have hcz := Ext.sz hxc
            have hgz := hbg.lt
            have bsl := Blk.new wc #[.string s1, .string s2, .int .u64 s3, .int .u64 s4, .int .u8 s5, .int .u8 s6, .int .u64 s7, .int .u64 s8] 65
            have bru := hbg.alloc (.cells #[.string s1, .string s2, .int .u64 s3, .int .u64 s4, .int .u8 s5, .int .u8 s6, .int .u64 s7, .int .u64 s8] 65)
            have bcl := (HB.out.ext hxc).alloc (.cells #[.string s1, .string s2, .int .u64 s3, .int .u64 s4, .int .u8 s5, .int .u8 s6, .int .u64 s7, .int .u64 s8] 65)
            have hxd := hxc.alloc (.cells #[.string s1, .string s2, .int .u64 s3, .int .u64 s4, .int .u8 s5, .int .u8 s6, .int .u64 s7, .int .u64 s8] 65)
            clear hxc hbg p0 p1
            go_upto_region 14 with fail
            generalize hS : wc.heap.size = S at *
            generalize wc.alloc (.cells #[.string s1, .string s2, .int .u64 s3, .int .u64 s4, .int .u8 s5, .int .u8 s6, .int .u64 s7, .int .u64 s8] 65) = wd at *
            have k5 : wd.cell? ⟨S, 5, none⟩ = some (.int .u8 s6) := bsl.cell 5
            have k6 : wd.cell? ⟨S, 6, none⟩ = some (.int .u64 s7) := bsl.cell 6
            have k7 : wd.cell? ⟨S, 7, none⟩ = some (.int .u64 s8) := bsl.cell 7
            have r0 : wd.cell? ⟨g, 0, none⟩ = some (.string rp) := bru.cell 0
            have r1 : wd.cell? ⟨g, 1, none⟩ = some (.int .u64 re) := bru.cell 1
            have r2 : wd.cell? ⟨g, 2, none⟩ = some (.int .u64 rb) := bru.cell 2
            have r3 : wd.cell? ⟨g, 3, none⟩ = some (.int .u8 rk) := bru.cell 3
            have t1 : wd.cell? ⟨w.heap.size, 1, none⟩ = some (.int .u64 clock) := bcl.cell 1
            have hSl := bsl.lt
            have HSB := Lib.hid bsl
            have HRB := Lib.hid bru
            have HXD := Lib.hid hxd
            have HSE := Lib.hid hS
            clear bsl bru bcl hxd hS e0 e1 e2 e3 e4 e5 e6 e7
            go_cut [14, 15] from 56 to 68 (fun x14 x15 wx => ∃ g4, x14 = .pointer (some ⟨g4, 0, none⟩) ∧ Blk wx g4 #[.int .u8 rk, .int .u64 oa, .int .u64 ob'] 63 ∧ wd.heap.size ≤ g4 ∧ Ext wd wx)
            case first =>
              go_region_held3 (fun w' => w'.cell? ⟨S, 5, none⟩ = some (.int .u8 s6) ∧ w'.cell? ⟨S, 6, none⟩ = some (.int .u64 s7) ∧ w'.cell? ⟨S, 7, none⟩ = some (.int .u64 s8) ∧ w'.cell? ⟨g, 0, none⟩ = some (.string rp) ∧ w'.cell? ⟨g, 1, none⟩ = some (.int .u64 re) ∧ w'.cell? ⟨g, 2, none⟩ = some (.int .u64 rb) ∧ w'.cell? ⟨g, 3, none⟩ = some (.int .u8 rk) ∧ w'.cell? ⟨w.heap.size, 1, none⟩ = some (.int .u64 clock) ∧ Ext wd w')
                (((try go_split_ands); refine ⟨?_, ?_, ?_, ?_, ?_, ?_, ?_, ?_, ?_⟩ <;> first | with_reducible assumption | exact (Ext.refl _).drew | ((repeat (first | with_reducible exact Ext.refl _ | with_reducible assumption | with_reducible refine Ext.alloc ?_ _ | with_reducible refine Ext.drew ?_ | (with_reducible refine Ext.setCell ?_ (by first | exact Nat.le_refl _ | (dsimp only; omega) | (simp; done) | (simp; omega)) _) | with_reducible refine Ext.trans ?_ (by with_reducible assumption))); done) | (refine Ext.keep (w := wd) (by repeat (first | with_reducible exact Ext.refl _ | with_reducible assumption | with_reducible refine Ext.alloc ?_ _ | with_reducible refine Ext.drew ?_ | (with_reducible refine Ext.setCell ?_ (by first | exact Nat.le_refl _ | (dsimp only; omega) | (simp; done) | (simp; omega)) _) | with_reducible refine Ext.trans ?_ (by with_reducible assumption))) ?_; with_reducible assumption)))
                (first
                  | (go_at_call 68; (with_reducible refine (HCP.out _).mono ?_); rintro x w6 ⟨rfl, hx6⟩; have hs6 := Ext.sz hx6; (try simp at hs6); (try (with_reducible have bn := Blk.ext (Blk.drew (Blk.new wd #[.int .u8 0, .int .u64 0, .int .u64 0] 63)) hx6)))
                  | (go_at_call 67; (with_reducible refine (HMG.out _).mono ?_); rintro x w7 ⟨rfl, hx7⟩; have hs7 := Ext.sz hx7; (try simp at hs7); (try (with_reducible have bn := Blk.ext bn hx7)); (try (with_reducible have bn := Blk.ext (Blk.new w6 #[.int .u8 0, .int .u64 0, .int .u64 0] 63) hx7)); (try (have cn := bn.cell; have fn := bn.free))))
              all_goals
                go_wp2
                go_meet
                first
                  | exact ⟨_, rfl, Blk.set3 bn _ _ _, by first | exact Nat.le_refl _ | omega, (by repeat (first | with_reducible exact Ext.refl _ | with_reducible assumption | with_reducible refine Ext.alloc ?_ _ | with_reducible refine Ext.drew ?_ | (with_reducible refine Ext.setCell ?_ (by first | exact Nat.le_refl _ | (dsimp only; omega) | (simp; done) | (simp; omega)) _) | with_reducible refine Ext.trans ?_ (by with_reducible assumption)))⟩
                  | exact ⟨_, rfl, Blk.new _ _ _, by omega, (by repeat (first | with_reducible exact Ext.refl _ | with_reducible assumption | with_reducible refine Ext.alloc ?_ _ | with_reducible refine Ext.drew ?_ | (with_reducible refine Ext.setCell ?_ (by first | exact Nat.le_refl _ | (dsimp only; omega) | (simp; done) | (simp; omega)) _) | with_reducible refine Ext.trans ?_ (by with_reducible assumption)))⟩
            case rest =>
              obtain ⟨g4, rfl, hb4, hg4, hxe⟩ := hcut
              have bs5 := HSB.out.ext hxe
              have br5 := HRB.out.ext hxe
              have bt5 := HBT.out.ext (HXD.out.trans hxe)
              have hx5 := HXD.out.trans hxe
              have h4c := hb4.cell
              have sc := bs5.cell
              have sf := bs5.free
              have sl := bs5.lt
              have HS5 := Lib.hid bs5
              have HR5 := Lib.hid br5
              have HT5 := Lib.hid bt5
              have HX5 := Lib.hid hx5
              clear bs5 br5 bt5 hx5 hxe hb4 k5 k6 k7 r0 r1 r2 r3 t1
              go_upto_region 16 with fail
              have bs6 := blk8_end HS5.out (.int .u8 rk) (.int .u64 oa) (.int .u64 ob')
              have br6 := ((HR5.out.other (a := ⟨S, 5, none⟩) (by dsimp only; omega) (.int .u8 rk)).other (a := ⟨S, 6, none⟩) (by dsimp only; omega) (.int .u64 oa)).other (a := ⟨S, 7, none⟩) (by dsimp only; omega) (.int .u64 ob')
              have bt6 := ((HT5.out.other (a := ⟨S, 5, none⟩) (by dsimp only; omega) (.int .u8 rk)).other (a := ⟨S, 6, none⟩) (by dsimp only; omega) (.int .u64 oa)).other (a := ⟨S, 7, none⟩) (by dsimp only; omega) (.int .u64 ob')
              have hx6 := ((HX5.out.setCell (p := ⟨S, 5, none⟩) (by dsimp only; omega) (.int .u8 rk)).setCell (p := ⟨S, 6, none⟩) (by dsimp only; omega) (.int .u64 oa)).setCell (p := ⟨S, 7, none⟩) (by dsimp only; omega) (.int .u64 ob')
              generalize ((wc.setCell ⟨S, 5, none⟩ (.int .u8 rk)).setCell ⟨S, 6, none⟩ (.int .u64 oa)).setCell ⟨S, 7, none⟩ (.int .u64 ob') = w5 at *
              clear h4c sc sf sl
              have rc := br6.cell
              have sc := bs6.cell
              have sf := bs6.free
              have sl := bs6.lt
              have HS6 := Lib.hid bs6
              have HT6 := Lib.hid bt6
              have HX6 := Lib.hid hx6
              clear bs6 br6 bt6 hx6
              go_upto_region 17 with fail
              have bs7 := blk8_mid HS6.out (.string rp) (.int .u64 re) (.int .u64 rb) (.int .u8 rk)
              have bt7 := (((HT6.out.other (a := ⟨S, 1, none⟩) (by dsimp only; omega) (.string rp)).other (a := ⟨S, 2, none⟩) (by dsimp only; omega) (.int .u64 re)).other (a := ⟨S, 3, none⟩) (by dsimp only; omega) (.int .u64 rb)).other (a := ⟨S, 4, none⟩) (by dsimp only; omega) (.int .u8 rk)
              have hx7 := (((HX6.out.setCell (p := ⟨S, 1, none⟩) (by dsimp only; omega) (.string rp)).setCell (p := ⟨S, 2, none⟩) (by dsimp only; omega) (.int .u64 re)).setCell (p := ⟨S, 3, none⟩) (by dsimp only; omega) (.int .u64 rb)).setCell (p := ⟨S, 4, none⟩) (by dsimp only; omega) (.int .u8 rk)
              generalize (((w5.setCell ⟨S, 1, none⟩ (.string rp)).setCell ⟨S, 2, none⟩ (.int .u64 re)).setCell ⟨S, 3, none⟩ (.int .u64 rb)).setCell ⟨S, 4, none⟩ (.int .u8 rk) = w7 at *
              clear rc sc sf sl
              have sc := bs7.cell
              have tc := bt7.cell
              have tl := bt7.lt
              have hx7s := Ext.sz hx7
              have HT7 := Lib.hid bt7
              have HX7 := Lib.hid hx7
              clear bs7 bt7 hx7
              go_wp2_with (first
                | (at_builtin; refine wpList_append_own _ rfl (.tmp 73) (.tmp 75) 40 rfl w3.heap.size 65 i0 slot0.val 8 80 Tryz.underlying40 HI.out.1 HI.out.2.1 HI.out.2.2.1 HI.out.2.2.2 rfl (by decide) _ _ _ rfl ((own_ext HROW.out.own HX7.out).alloc _) ⟨w7.heap.size, 0, none⟩ 1 1 [.string s1, .string rp, .int .u64 re, .int .u64 rb, .int .u8 rk, .int .u8 rk, .int .u64 oa, .int .u64 ob'] rfl rfl ?_ ?_ ?_ ?_ ?_ ?_; (· exact blk_news (C := #[.string s1, .string rp, .int .u64 re, .int .u64 rb, .int .u8 rk, .int .u8 rk, .int .u64 oa, .int .u64 ob']) (Blk.new _ _ _)); (· simp [Value.oneCell']); (· have := HTL.out; omega); (· have := HTL.out; omega); (· simp; omega); rintro v' w9 hown hgrow -
                   have hrow9 : SlotRow w3.heap.size w9 v' (keptL clock rs (xs.take (k + 1))) := row_more hown (by rw [HTK.out, HTG.out.1])
                   obtain ⟨va, vc, rfl⟩ := hrow9.size
                   have hq1 := (own_ext HROW.out.own HX7.out).alloc (.cells #[.string s1, .string rp, .int .u64 re, .int .u64 rb, .int .u8 rk, .int .u8 rk, .int .u64 oa, .int .u64 ob'] 65)
                   have hq2 := grown_at (k := T) hgrow hq1 ?hk ?hl
                   rotate_left
                   · (simp; omega)
                   · exact (Or.inl (by omega))
                   have bt9 : Blk w9 T #[.int .i64 most', .int .u64 clock, v] 42 := hq2.trans (HT7.out.alloc _)
                   have tc9 := bt9.cell
                   have tf9 := bt9.free)
                | fail)
              have hx9 : ExtB T w3 w9 := ExtB.grownAt ((HXR.out.trans (HX7.out.toB T)).alloc _) ((own_ext HROW.out.own HX7.out).alloc _) (Nat.le_refl _) hgrow
              have HT9 := Lib.hid bt9
              clear hgrow bt9 tc9 tf9
              go_wp2
              go_roundw
              case rel => exact ⟨k + 1, _, by omega, by go_num, by rw [HTK.out, HTG.out.2], HT9.out.set 2 _, hrow9.set1 (by omega) 2 _, hx9.setCell 2 _⟩
              case measure => simp [intOf]; omega
      · have hkl : k = xs.length := by omega
        subst hkl
        have bq5 := BQ3.out.extB hx (by omega)
        have htl := HKL.out xs.length
        rw [List.take_length] at HROW htl
        obtain ⟨a4, c4, rfl⟩ := HROW.out.size
        generalize hkp : keptL clock rs xs = kept at *
        have qc := bq5.cell
        have qf := bq5.free
        have ql := bq5.lt
        have t0 := HBT.out.cell
        have BQ5 := Lib.hid bq5
        clear bq5 hx p1
        have hz0 : (0 : Int) ≤ (kept.length : Int) := by omega
        by_cases hgt : most' < (kept.length : Int)
        · go_wp2
          refine ret_cell_tmp2 Tryz.results31 rfl rfl rfl (Blk.set3 BQ5.out _ _ _) Tryz.underlying42 rfl (by kernel_rfl) ⟨?_, Or.inr (Or.inl ⟨⟨⟨hma, hmb⟩, hgt⟩, rfl⟩)⟩
          exact HXW.out.set3 (b := w.heap.size + 1 + 1) (by omega) _ _ _
        · go_wp2
          refine ret_cell_tmp2 Tryz.results31 rfl rfl rfl (Blk.set3 BQ5.out _ _ _) Tryz.underlying42 rfl (by kernel_rfl) ⟨?_, Or.inr (Or.inr ⟨⟨⟨hma, hmb⟩, by omega⟩, .slice a4 kept.length c4, ?_, ?_⟩)⟩
          · exact HXW.out.set3 (b := w.heap.size + 1 + 1) (by omega) _ _ _
          · first | rfl | (rw [List.take_length]; rfl)
          · exact (((HROW.out.set1 (b := w.heap.size + 1 + 1) (by omega) _ _).set1 (b := w.heap.size + 1 + 1) (by omega) _ _).set1 (b := w.heap.size + 1 + 1) (by omega) _ _).low (by omega)
  · by_cases h1 : most' < 1
    · go_wp2
      refine ret_cell_tmp2 Tryz.results31 rfl rfl rfl (Blk.set3 bq _ _ _) Tryz.underlying42 rfl (by kernel_rfl) ⟨?_, Or.inl ⟨hm, rfl⟩⟩
      exact hx0.set3 (b := w.heap.size + 1 + 1) (by omega) _ _ _
    · have h2 : 1000000 < most' := by omega
      go_wp2
      refine ret_cell_tmp2 Tryz.results31 rfl rfl rfl (Blk.set3 bq _ _ _) Tryz.underlying42 rfl (by kernel_rfl) ⟨?_, Or.inl ⟨hm, rfl⟩⟩
      exact hx0.set3 (b := w.heap.size + 1 + 1) (by omega) _ _ _
end Go.Proofs.YtfglpejbgfmojaaGreat
