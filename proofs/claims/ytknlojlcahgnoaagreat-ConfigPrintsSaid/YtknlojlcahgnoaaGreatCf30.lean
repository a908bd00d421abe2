/- Walks: rule.Print, tollerref11.Print. Plain: a rule that is printed is read. The plain part of the walks of RuleEdge and RuleBack, without their law's functions. Plain laws of rules: what is printed is read, what is read prints back. Plain laws of rules' lines: what is read is right and prints back; lines of other words. Walks: tollerlaw11.parses. -/
import Derived.Deep.RegionLawGrows
import Derived.Deep.RegionHeld3
import Derived.Lib.SmallJoins
import Derived.Test.YtknlojlcahgnoaaGreatCf20
import Derived.Test.YtknlojlcahgnoaaGreatCf26
import Derived.Test.YtknlojlcahgnoaaGreatCf4
import Derived.Test.YtknlojlcahgnoaaGreatCf3
import Derived.Test.YtknlojlcahgnoaaGreatCf6

namespace Go.Proofs.YtknlojlcahgnoaaGreat
open Go.RowKit
set_option linter.unusedVariables false
set_option linter.unusedSimpArgs false

theorem Ext.grown {a b c : World} (h : Ext a b) (g : b.grownBy c none) : Ext a c :=
  h.trans ⟨g.os, g.tape, g.output, g.size, fun k hk => g.block k hk (by simp)⟩

/-- a row of the call's own is a slice of strings -/
theorem StrSlice.own {w : World} {base n : Nat} {e : TypeId} {v : Value} (l : List ByteArray) (h : w.ownsRow base e 1 v n (l.map Value.string)) (heach : ∀ s ∈ l, s.size ≤ maxLen) : StrSlice w v l := by
  obtain ⟨h1, h2⟩ := h
  simp at h1
  rcases h2 with ⟨rfl, rfl⟩ | ⟨g, cap, cur, rfl, hb, hc, hn, hm, hs, ht⟩
  · have : l = [] := List.eq_nil_of_length_eq_zero (by omega)
    subst this
    exact ⟨⟨none, 0, rfl, fun q => absurd rfl q⟩, by simp, heach⟩
  · refine ⟨⟨some ⟨g, 0, none⟩, cap, by rw [h1], fun _ => ⟨g, 0, rfl, fun j hj => ?_⟩⟩, by omega, heach⟩
    have e1 : cur.toList[j]? = some (Value.string l[j]) := by
      have := congrArg (fun r => r[j]?) ht
      simp only [Nat.mul_one] at this
      rw [List.getElem?_take_of_lt (by omega)] at this
      rw [this]
      simp [hj]
    have e2 : w.cell? ⟨g, 0 + j, none⟩ = cur[0 + j]? := by simp [World.cell?, hc]
    rw [e2, Nat.zero_add, ← Array.getElem?_toList]
    exact e1

/-- a slice's capacity is no less than its length -/
def CapOk (v : Value) : Prop := ∀ a n c, v = .slice a n c → n ≤ c ∧ c ≤ maxLen
theorem CapOk.nil : CapOk (.slice none 0 0) := fun a n c h => by cases h; exact ⟨Nat.le_refl _, Nat.zero_le _⟩
theorem CapOk.own {w : World} {base size n : Nat} {e : TypeId} {v : Value} {xs : List Value} (h : w.ownsRow base e size v n xs) : CapOk v := by
  rcases h.2 with ⟨rfl, rfl⟩ | ⟨g, cap, cur, rfl, _, _, hn, hm, _⟩
  · exact CapOk.nil
  · intro a m c hv; cases hv; exact ⟨hn, hm⟩
/-- a row of texts of the call's own -/
structure OwnS (w : World) (v : Value) : Prop where
  cap : CapOk v
  own : ∃ base n xs, w.ownsRow base 9 1 v n xs
theorem OwnS.of {w : World} {base n : Nat} {v : Value} {xs : List Value} (h : w.ownsRow base 9 1 v n xs) : OwnS w v := ⟨CapOk.own h, base, n, xs, h⟩
theorem OwnS.nil (w : World) : OwnS w (.slice none 0 0) := ⟨CapOk.nil, 0, 0, [], World.ownsRow_nil _ _ _ _⟩
theorem holds_blk {w : World} {b : Nat} {C : List Value} {t : TypeId} (h : Blk w b C.toArray t) : ∀ (j : Nat) (u : Value), C[j]? = some u → w.cell? ((⟨b, 0, none⟩ : Addr).add j) = some u := by
  intro j u hu
  have e : ((⟨b, 0, none⟩ : Addr).add j) = ⟨b, j, none⟩ := by simp [Addr.add]; try omega
  rw [e, h.cell]
  simpa using hu
theorem holds_some {w : World} {b : Nat} {C : List Value} {t : TypeId} (h : Blk w b C.toArray t) : ∀ q : Addr, some (⟨b, 0, none⟩ : Addr) = some q → ∀ (j : Nat) (u : Value), C[j]? = some u → w.cell? (q.add j) = some u := by
  intro q hq
  cases hq
  exact holds_blk h
theorem one_strs (l : List ByteArray) : ∀ u ∈ l.map Value.string, u.oneCell' = true := by
  intro u hu
  obtain ⟨s, _, rfl⟩ := List.mem_map.1 hu
  rfl

theorem str_empty {p : ByteArray} (h : p.toList.isEmpty = true) : p = ⟨#[]⟩ := by
  have e : p.toList = p.data.toList := ByteArray.toList_eq p
  rw [e] at h
  simp at h
  cases p
  simp_all
def printWords (p : ByteArray) (e b k : Int) : List ByteArray :=
  if ruleErr p e b k = 0 then (if p = ⟨#[]⟩ then [wDef, digStr e, digStr b, nameOf k] else [wRule, p, digStr e, digStr b, nameOf k]) else []
theorem nameW_size (k : Int) : (nameOf k).size ≤ 6 := by
  unfold nameOf
  split
  · decide
  split
  · decide
  split
  · decide
  · decide

set_option maxHeartbeats 2000000 in
set_option maxRecDepth 100000 in
theorem rule_Print_bad (p : ByteArray) (e b k : Int) (w : World) (hm : p.size ≤ maxLen) (he0 : 0 ≤ e) (he1 : e < 18446744073709551616) (hb0 : 0 ≤ b) (hb1 : b < 18446744073709551616) (h : ruleErr p e b k ≠ 0) :
    Calls Tryz.prog 42 #[.agg #[.string p, .int .u64 e, .int .u64 b, .int .u8 k]] w fun x w' => x = .returned (.slice none 0 0) ∧ Ext w w' := by
  generalize hE : ruleErr p e b k = E at *
  have HE := Lib.hid hE
  clear hE
  have hz : (E == 0) = false := by simpa using h
  have hz2 : decide (E = 0) = false := by simpa using h
  clear h
  go_enter Tryz.func42, Tryz.ntmps42
  go_wp2_with (go_at_call 81; refine (rule_Right _ _ _ _ _ hm he0 he1 hb0 hb1).mono ?_; rw [HE.out]; rintro x w' ⟨rfl, hx⟩)
  go_ret
  exact ⟨rfl, (by repeat (first | with_reducible exact Ext.refl _ | with_reducible assumption | with_reducible refine Ext.alloc ?_ _ | with_reducible refine Ext.drew ?_ | (with_reducible refine Ext.setCell ?_ (by first | exact Nat.le_refl _ | (dsimp only; omega) | (simp; done) | (simp; omega)) _) | with_reducible refine Ext.trans ?_ (by with_reducible assumption)))⟩

set_option maxHeartbeats 4000000 in
set_option maxRecDepth 100000 in
theorem rule_Print_def (e b k : Int) (w : World) (he0 : 0 ≤ e) (he1 : e < 18446744073709551616) (hb0 : 0 ≤ b) (hb1 : b < 18446744073709551616) (h : ruleErr ⟨#[]⟩ e b k = 0) :
    Calls Tryz.prog 42 #[.agg #[.string ⟨#[]⟩, .int .u64 e, .int .u64 b, .int .u8 k]] w fun x w' => ∃ v, x = .returned v ∧ StrSlice w' v [wDef, digStr e, digStr b, nameOf k] ∧ OwnS w' v ∧ Ext w w' := by
  have hstr : (Tryz.prog.info? 9).map (fun i => (i.zero, i.size, i.bytes)) = some (some (.string ⟨#[]⟩), 1, 16) := by kernel_rfl
  obtain ⟨i0, hi, hz0, hz1, hz2⟩ := info_parts hstr
  have ae : (digStr e).size ≤ maxLen := Nat.le_trans (dig_back e he0 he1).2.2.1 (by decide)
  have ab : (digStr b).size ≤ maxLen := Nat.le_trans (dig_back b hb0 hb1).2.2.1 (by decide)
  have ak : (nameOf k).size ≤ maxLen := Nat.le_trans (nameW_size k) (by decide)
  have heach : ∀ s ∈ [wDef, digStr e, digStr b, nameOf k], s.size ≤ maxLen := by
    intro s hs
    simp only [List.mem_cons, List.not_mem_nil, or_false] at hs
    rcases hs with rfl | rfl | rfl | rfl <;> first | assumption | decide
  generalize hSe : digStr e = Se at *
  generalize hSb : digStr b = Sb at *
  generalize hSk : nameOf k = Sk at *
  have HSe := Lib.hid hSe
  have HSb := Lib.hid hSb
  have HSk := Lib.hid hSk
  have HI := Lib.hid (And.intro hi (And.intro hz0 (And.intro hz1 hz2)))
  have HEACH := Lib.hid heach
  have HE := Lib.hid h
  clear hSe hSb hSk hi hz0 hz1 hz2 hstr heach h
  go_enter Tryz.func42, Tryz.ntmps42
  go_wp2_with fail
  refine (rule_Right _ _ _ _ _ (by decide) he0 he1 hb0 hb1).mono ?_
  rw [HE.out]
  rintro x w1 ⟨rfl, hx1⟩
  have B1 : Blk w1 w.heap.size #[.string ⟨#[]⟩, .int .u64 e, .int .u64 b, .int .u8 k] 37 := (Blk.new _ _ _).ext hx1
  have c0 := B1.cell 0
  have c1 := B1.cell 1
  have c2 := B1.cell 2
  have c3 := B1.cell 3
  simp at c0 c1 c2 c3
  have hlt := B1.lt
  have hlt2 : w.heap.size < w1.heap.size + 1 := by omega
  go_wp2_with fail
  generalize hw2 : w1.alloc (Obj.cells #[.string ⟨#[100, 101, 102, 97, 117, 108, 116]⟩] 9) = w2
  have hx2 : Ext w1 w2 := by rw [← hw2]; exact (Ext.refl _).alloc _
  have L2 : Blk w2 w1.heap.size #[.string ⟨#[100, 101, 102, 97, 117, 108, 116]⟩] 9 := by rw [← hw2]; exact Blk.new' _ _ _ (by simp)
  have B2 := B1.ext hx2
  have d1 : w2.cell? ⟨w.heap.size, 1, none⟩ = some (.int .u64 e) := B2.cell 1
  have d2 : w2.cell? ⟨w.heap.size, 2, none⟩ = some (.int .u64 b) := B2.cell 2
  have d3 : w2.cell? ⟨w.heap.size, 3, none⟩ = some (.int .u8 k) := B2.cell 3
  clear c0 c1 c2 c3 hw2 hlt hlt2 B2
  have HB1 := Lib.hid B1
  have HX := Lib.hid (hx1.trans hx2)
  clear B1 hx1 hx2
  go_region_held3 (fun w' => w'.cell? ⟨w.heap.size, 1, none⟩ = some (.int .u64 e) ∧ w'.cell? ⟨w.heap.size, 2, none⟩ = some (.int .u64 b) ∧ w'.cell? ⟨w.heap.size, 3, none⟩ = some (.int .u8 k) ∧ Blk w' w1.heap.size #[.string ⟨#[100, 101, 102, 97, 117, 108, 116]⟩] 9 ∧ Ext w2 w')
    (first
      | exact ⟨d1, d2, d3, L2.drew, (Ext.refl _).drew⟩
      | exact ⟨Ext.keep (Ext.alloc (Ext.drew (Ext.refl _)) _) d1, Ext.keep (Ext.alloc (Ext.drew (Ext.refl _)) _) d2, Ext.keep (Ext.alloc (Ext.drew (Ext.refl _)) _) d3, L2.drew.alloc _, (Ext.refl _).drew.alloc _⟩
      | ((try go_split_ands); refine ⟨Ext.keep hx ?_, Ext.keep hx ?_, Ext.keep hx ?_, Blk.ext ?_ hx, Ext.trans ?_ hx⟩ <;> with_reducible assumption)
      | ((try go_split_ands); refine ⟨Ext.keep hgrow ?_, Ext.keep hgrow ?_, Ext.keep hgrow ?_, Blk.ext ?_ hgrow, Ext.trans ?_ hgrow⟩ <;> with_reducible assumption)
      | ((try go_split_ands); refine ⟨Ext.keep (Ext.alloc (Ext.refl _) _) ?_, Ext.keep (Ext.alloc (Ext.refl _) _) ?_, Ext.keep (Ext.alloc (Ext.refl _) _) ?_, Blk.alloc ?_ _, Ext.alloc ?_ _⟩ <;> with_reducible assumption))
    (first
      | ((try go_split_ands)
         refine step_append_grows rfl (.tmp 14) (.tmp 24) 32 rfl 9 i0 (.string ⟨#[]⟩) 1 16 Tryz.underlying32 HI.out.1 HI.out.2.1 HI.out.2.2.1 HI.out.2.2.2 rfl (by decide) (some ⟨w1.heap.size, 0, none⟩) 1 1 [.string ⟨#[100, 101, 102, 97, 117, 108, 116]⟩] rfl (by simp) rfl (holds_some (C := [.string ⟨#[100, 101, 102, 97, 117, 108, 116]⟩]) (t := 9) (by with_reducible assumption)) ⟨_, 0, none⟩ 3 3 [.string Se, .string Sb, .string Sk] rfl rfl (holds_blk (C := [.string Se, .string Sb, .string Sk]) (Blk.new _ _ _)) (one_strs [Se, Sb, Sk]) (by decide) (by decide) (by decide) ?_
         rintro v' w' hown hgrow0
         have hgrow := Ext.grown (Ext.refl _) hgrow0
         clear hgrow0)
      | (go_at_call 41; with_reducible refine (digit_Print e _ he0 he1).mono ?_; rw [HSe.out]; rintro x w' ⟨rfl, hx⟩)
      | (go_at_call 41; with_reducible refine (digit_Print b _ hb0 hb1).mono ?_; rw [HSb.out]; rintro x w' ⟨rfl, hx⟩)
      | (go_at_call 90; refine (rule_Name k _).mono ?_; rw [HSk.out]; rintro x w' ⟨rfl, hx⟩))
  go_wp2
  have hxf := HX.out
  go_split_ands
  refine bodyPost_ret (v := v') (by simp [results, Tryz.results42, go_sem]) rfl ⟨v', rfl, StrSlice.own [wDef, Se, Sb, Sk] hown HEACH.out, OwnS.of hown, ?_⟩
  repeat (first | with_reducible exact Ext.refl _ | with_reducible assumption | with_reducible refine Ext.alloc ?_ _ | with_reducible refine Ext.drew ?_ | (with_reducible refine Ext.setCell ?_ (by first | exact Nat.le_refl _ | (dsimp only; omega) | (simp; done) | (simp; omega)) _) | with_reducible refine Ext.trans ?_ (by with_reducible assumption))

set_option maxHeartbeats 4000000 in
set_option maxRecDepth 100000 in
theorem rule_Print_rule (p : ByteArray) (e b k : Int) (w : World) (hm : p.size ≤ maxLen) (he0 : 0 ≤ e) (he1 : e < 18446744073709551616) (hb0 : 0 ≤ b) (hb1 : b < 18446744073709551616) (h : ruleErr p e b k = 0) (hp : p ≠ ⟨#[]⟩) :
    Calls Tryz.prog 42 #[.agg #[.string p, .int .u64 e, .int .u64 b, .int .u8 k]] w fun x w' => ∃ v, x = .returned v ∧ StrSlice w' v [wRule, p, digStr e, digStr b, nameOf k] ∧ OwnS w' v ∧ Ext w w' := by
  have hstr : (Tryz.prog.info? 9).map (fun i => (i.zero, i.size, i.bytes)) = some (some (.string ⟨#[]⟩), 1, 16) := by kernel_rfl
  obtain ⟨i0, hi, hz0, hz1, hz2⟩ := info_parts hstr
  have ae : (digStr e).size ≤ maxLen := Nat.le_trans (dig_back e he0 he1).2.2.1 (by decide)
  have ab : (digStr b).size ≤ maxLen := Nat.le_trans (dig_back b hb0 hb1).2.2.1 (by decide)
  have ak : (nameOf k).size ≤ maxLen := Nat.le_trans (nameW_size k) (by decide)
  have heach : ∀ s ∈ [wRule, p, digStr e, digStr b, nameOf k], s.size ≤ maxLen := by
    intro s hs
    simp only [List.mem_cons, List.not_mem_nil, or_false] at hs
    rcases hs with rfl | rfl | rfl | rfl | rfl <;> first | assumption | decide
  generalize hSe : digStr e = Se at *
  generalize hSb : digStr b = Sb at *
  generalize hSk : nameOf k = Sk at *
  have HSe := Lib.hid hSe
  have HSb := Lib.hid hSb
  have HSk := Lib.hid hSk
  have HI := Lib.hid (And.intro hi (And.intro hz0 (And.intro hz1 hz2)))
  have HEACH := Lib.hid heach
  have HE := Lib.hid h
  clear hSe hSb hSk hi hz0 hz1 hz2 hstr heach h
  have hpe2 : decide (p = ⟨#[]⟩) = false := by simpa using hp
  have hpe4 : p.toList.isEmpty = false := by
    by_cases q : p.toList.isEmpty = true
    · exact absurd (str_empty q) hp
    · simpa using q
  clear hp
  go_enter Tryz.func42, Tryz.ntmps42
  go_wp2_with fail
  refine (rule_Right _ _ _ _ _ hm he0 he1 hb0 hb1).mono ?_
  rw [HE.out]
  rintro x w1 ⟨rfl, hx1⟩
  have B1 : Blk w1 w.heap.size #[.string p, .int .u64 e, .int .u64 b, .int .u8 k] 37 := (Blk.new _ _ _).ext hx1
  have c0 := B1.cell 0
  have c1 := B1.cell 1
  have c2 := B1.cell 2
  have c3 := B1.cell 3
  simp at c0 c1 c2 c3
  have hlt := B1.lt
  have hlt2 : w.heap.size < w1.heap.size + 1 := by omega
  go_wp2_with fail
  generalize hw2 : (w1.alloc (Obj.cells #[.string ⟨#[100, 101, 102, 97, 117, 108, 116]⟩] 9)).alloc (Obj.cells #[.string ⟨#[114, 117, 108, 101]⟩, .string p] 9) = w2
  have hx2 : Ext w1 w2 := by rw [← hw2]; exact ((Ext.refl _).alloc _).alloc _
  have L2 : Blk w2 (w1.heap.size + 1) #[.string ⟨#[114, 117, 108, 101]⟩, .string p] 9 := by rw [← hw2]; exact Blk.new' _ _ _ (by simp)
  have B2 := B1.ext hx2
  have d1 : w2.cell? ⟨w.heap.size, 1, none⟩ = some (.int .u64 e) := B2.cell 1
  have d2 : w2.cell? ⟨w.heap.size, 2, none⟩ = some (.int .u64 b) := B2.cell 2
  have d3 : w2.cell? ⟨w.heap.size, 3, none⟩ = some (.int .u8 k) := B2.cell 3
  clear c0 c1 c2 c3 hw2 hlt hlt2 B2
  have HB1 := Lib.hid B1
  have HX := Lib.hid (hx1.trans hx2)
  clear B1 hx1 hx2
  go_region_held3 (fun w' => w'.cell? ⟨w.heap.size, 1, none⟩ = some (.int .u64 e) ∧ w'.cell? ⟨w.heap.size, 2, none⟩ = some (.int .u64 b) ∧ w'.cell? ⟨w.heap.size, 3, none⟩ = some (.int .u8 k) ∧ Blk w' (w1.heap.size + 1) #[.string ⟨#[114, 117, 108, 101]⟩, .string p] 9 ∧ Ext w2 w')
    (first
      | exact ⟨d1, d2, d3, L2.drew, (Ext.refl _).drew⟩
      | exact ⟨Ext.keep (Ext.alloc (Ext.drew (Ext.refl _)) _) d1, Ext.keep (Ext.alloc (Ext.drew (Ext.refl _)) _) d2, Ext.keep (Ext.alloc (Ext.drew (Ext.refl _)) _) d3, L2.drew.alloc _, (Ext.refl _).drew.alloc _⟩
      | ((try go_split_ands); refine ⟨Ext.keep hx ?_, Ext.keep hx ?_, Ext.keep hx ?_, Blk.ext ?_ hx, Ext.trans ?_ hx⟩ <;> with_reducible assumption)
      | ((try go_split_ands); refine ⟨Ext.keep hgrow ?_, Ext.keep hgrow ?_, Ext.keep hgrow ?_, Blk.ext ?_ hgrow, Ext.trans ?_ hgrow⟩ <;> with_reducible assumption)
      | ((try go_split_ands); refine ⟨Ext.keep (Ext.alloc (Ext.refl _) _) ?_, Ext.keep (Ext.alloc (Ext.refl _) _) ?_, Ext.keep (Ext.alloc (Ext.refl _) _) ?_, Blk.alloc ?_ _, Ext.alloc ?_ _⟩ <;> with_reducible assumption))
    (first
      | ((try go_split_ands)
         refine step_append_grows rfl (.tmp 14) (.tmp 24) 32 rfl 9 i0 (.string ⟨#[]⟩) 1 16 Tryz.underlying32 HI.out.1 HI.out.2.1 HI.out.2.2.1 HI.out.2.2.2 rfl (by decide) (some ⟨(w1.heap.size + 1), 0, none⟩) 2 2 [.string ⟨#[114, 117, 108, 101]⟩, .string p] rfl (by simp) rfl (holds_some (C := [.string ⟨#[114, 117, 108, 101]⟩, .string p]) (t := 9) (by with_reducible assumption)) ⟨_, 0, none⟩ 3 3 [.string Se, .string Sb, .string Sk] rfl rfl (holds_blk (C := [.string Se, .string Sb, .string Sk]) (Blk.new _ _ _)) (one_strs [Se, Sb, Sk]) (by decide) (by decide) (by decide) ?_
         rintro v' w' hown hgrow0
         have hgrow := Ext.grown (Ext.refl _) hgrow0
         clear hgrow0)
      | (go_at_call 41; with_reducible refine (digit_Print e _ he0 he1).mono ?_; rw [HSe.out]; rintro x w' ⟨rfl, hx⟩)
      | (go_at_call 41; with_reducible refine (digit_Print b _ hb0 hb1).mono ?_; rw [HSb.out]; rintro x w' ⟨rfl, hx⟩)
      | (go_at_call 90; refine (rule_Name k _).mono ?_; rw [HSk.out]; rintro x w' ⟨rfl, hx⟩))
  go_wp2
  have hxf := HX.out
  go_split_ands
  refine bodyPost_ret (v := v') (by simp [results, Tryz.results42, go_sem]) rfl ⟨v', rfl, StrSlice.own [wRule, p, Se, Sb, Sk] hown HEACH.out, OwnS.of hown, ?_⟩
  repeat (first | with_reducible exact Ext.refl _ | with_reducible assumption | with_reducible refine Ext.alloc ?_ _ | with_reducible refine Ext.drew ?_ | (with_reducible refine Ext.setCell ?_ (by first | exact Nat.le_refl _ | (dsimp only; omega) | (simp; done) | (simp; omega)) _) | with_reducible refine Ext.trans ?_ (by with_reducible assumption))

theorem rule_Print (p : ByteArray) (e b k : Int) (w : World) (hm : p.size ≤ maxLen) (he0 : 0 ≤ e) (he1 : e < 18446744073709551616) (hb0 : 0 ≤ b) (hb1 : b < 18446744073709551616) :
    Calls Tryz.prog 42 #[.agg #[.string p, .int .u64 e, .int .u64 b, .int .u8 k]] w fun x w' => ∃ v, x = .returned v ∧ StrSlice w' v (printWords p e b k) ∧ OwnS w' v ∧ Ext w w' := by
  by_cases h : ruleErr p e b k = 0
  · by_cases hp : p = ⟨#[]⟩
    · subst hp
      have : printWords ⟨#[]⟩ e b k = [wDef, digStr e, digStr b, nameOf k] := by unfold printWords; rw [if_pos h, if_pos rfl]
      rw [this]
      exact rule_Print_def e b k w he0 he1 hb0 hb1 h
    · have : printWords p e b k = [wRule, p, digStr e, digStr b, nameOf k] := by unfold printWords; rw [if_pos h, if_neg hp]
      rw [this]
      exact rule_Print_rule p e b k w hm he0 he1 hb0 hb1 h hp
  · have : printWords p e b k = [] := by unfold printWords; rw [if_neg h]
    rw [this]
    refine (rule_Print_bad p e b k w hm he0 he1 hb0 hb1 h).mono ?_
    rintro x w' ⟨rfl, hx⟩
    exact ⟨_, rfl, ⟨⟨none, 0, rfl, fun q => absurd rfl q⟩, by simp, by simp⟩, OwnS.nil _, hx⟩

set_option maxHeartbeats 2000000 in
set_option maxRecDepth 100000 in
theorem ref11_Print_bad (p : ByteArray) (e b k : Int) (w : World) (hm : p.size ≤ maxLen) (he0 : 0 ≤ e) (he1 : e < 18446744073709551616) (hb0 : 0 ≤ b) (hb1 : b < 18446744073709551616) (h : ruleErr p e b k ≠ 0) :
    Calls Tryz.prog 84 #[.agg #[.string p, .int .u64 e, .int .u64 b, .int .u8 k]] w fun x w' => x = .returned (.slice none 0 0) ∧ Ext w w' := by
  generalize hE : ruleErr p e b k = E at *
  have HE := Lib.hid hE
  clear hE
  have hz : (E == 0) = false := by simpa using h
  have hz2 : decide (E = 0) = false := by simpa using h
  clear h
  go_enter Tryz.func84, Tryz.ntmps84
  go_wp2_with (go_at_call 89; refine (ref11_Right _ _ _ _ _ hm he0 he1 hb0 hb1).mono ?_; rw [HE.out]; rintro x w' ⟨rfl, hx⟩)
  go_ret
  exact ⟨rfl, (by repeat (first | with_reducible exact Ext.refl _ | with_reducible assumption | with_reducible refine Ext.alloc ?_ _ | with_reducible refine Ext.drew ?_ | (with_reducible refine Ext.setCell ?_ (by first | exact Nat.le_refl _ | (dsimp only; omega) | (simp; done) | (simp; omega)) _) | with_reducible refine Ext.trans ?_ (by with_reducible assumption)))⟩

set_option maxHeartbeats 4000000 in
set_option maxRecDepth 100000 in
theorem ref11_Print_def (e b k : Int) (w : World) (he0 : 0 ≤ e) (he1 : e < 18446744073709551616) (hb0 : 0 ≤ b) (hb1 : b < 18446744073709551616) (h : ruleErr ⟨#[]⟩ e b k = 0) :
    Calls Tryz.prog 84 #[.agg #[.string ⟨#[]⟩, .int .u64 e, .int .u64 b, .int .u8 k]] w fun x w' => ∃ v, x = .returned v ∧ StrSlice w' v [wDef, digStr e, digStr b, nameOf k] ∧ OwnS w' v ∧ Ext w w' := by
  have hstr : (Tryz.prog.info? 9).map (fun i => (i.zero, i.size, i.bytes)) = some (some (.string ⟨#[]⟩), 1, 16) := by kernel_rfl
  obtain ⟨i0, hi, hz0, hz1, hz2⟩ := info_parts hstr
  have ae : (digStr e).size ≤ maxLen := Nat.le_trans (dig_back e he0 he1).2.2.1 (by decide)
  have ab : (digStr b).size ≤ maxLen := Nat.le_trans (dig_back b hb0 hb1).2.2.1 (by decide)
  have ak : (nameOf k).size ≤ maxLen := Nat.le_trans (nameW_size k) (by decide)
  have heach : ∀ s ∈ [wDef, digStr e, digStr b, nameOf k], s.size ≤ maxLen := by
    intro s hs
    simp only [List.mem_cons, List.not_mem_nil, or_false] at hs
    rcases hs with rfl | rfl | rfl | rfl <;> first | assumption | decide
  generalize hSe : digStr e = Se at *
  generalize hSb : digStr b = Sb at *
  generalize hSk : nameOf k = Sk at *
  have HSe := Lib.hid hSe
  have HSb := Lib.hid hSb
  have HSk := Lib.hid hSk
  have HI := Lib.hid (And.intro hi (And.intro hz0 (And.intro hz1 hz2)))
  have HEACH := Lib.hid heach
  have HE := Lib.hid h
  clear hSe hSb hSk hi hz0 hz1 hz2 hstr heach h
  go_enter Tryz.func84, Tryz.ntmps84
  go_wp2_with fail
  refine (ref11_Right _ _ _ _ _ (by decide) he0 he1 hb0 hb1).mono ?_
  rw [HE.out]
  rintro x w1 ⟨rfl, hx1⟩
  have B1 : Blk w1 w.heap.size #[.string ⟨#[]⟩, .int .u64 e, .int .u64 b, .int .u8 k] 37 := (Blk.new _ _ _).ext hx1
  have c0 := B1.cell 0
  have c1 := B1.cell 1
  have c2 := B1.cell 2
  have c3 := B1.cell 3
  simp at c0 c1 c2 c3
  have hlt := B1.lt
  have hlt2 : w.heap.size < w1.heap.size + 1 := by omega
  go_wp2_with fail
  generalize hw2 : w1.alloc (Obj.cells #[.string ⟨#[100, 101, 102, 97, 117, 108, 116]⟩] 9) = w2
  have hx2 : Ext w1 w2 := by rw [← hw2]; exact (Ext.refl _).alloc _
  have L2 : Blk w2 w1.heap.size #[.string ⟨#[100, 101, 102, 97, 117, 108, 116]⟩] 9 := by rw [← hw2]; exact Blk.new' _ _ _ (by simp)
  have B2 := B1.ext hx2
  have d1 : w2.cell? ⟨w.heap.size, 1, none⟩ = some (.int .u64 e) := B2.cell 1
  have d2 : w2.cell? ⟨w.heap.size, 2, none⟩ = some (.int .u64 b) := B2.cell 2
  have d3 : w2.cell? ⟨w.heap.size, 3, none⟩ = some (.int .u8 k) := B2.cell 3
  clear c0 c1 c2 c3 hw2 hlt hlt2 B2
  have HB1 := Lib.hid B1
  have HX := Lib.hid (hx1.trans hx2)
  clear B1 hx1 hx2
  go_region_held3 (fun w' => w'.cell? ⟨w.heap.size, 1, none⟩ = some (.int .u64 e) ∧ w'.cell? ⟨w.heap.size, 2, none⟩ = some (.int .u64 b) ∧ w'.cell? ⟨w.heap.size, 3, none⟩ = some (.int .u8 k) ∧ Blk w' w1.heap.size #[.string ⟨#[100, 101, 102, 97, 117, 108, 116]⟩] 9 ∧ Ext w2 w')
    (first
      | exact ⟨d1, d2, d3, L2.drew, (Ext.refl _).drew⟩
      | exact ⟨Ext.keep (Ext.alloc (Ext.drew (Ext.refl _)) _) d1, Ext.keep (Ext.alloc (Ext.drew (Ext.refl _)) _) d2, Ext.keep (Ext.alloc (Ext.drew (Ext.refl _)) _) d3, L2.drew.alloc _, (Ext.refl _).drew.alloc _⟩
      | ((try go_split_ands); refine ⟨Ext.keep hx ?_, Ext.keep hx ?_, Ext.keep hx ?_, Blk.ext ?_ hx, Ext.trans ?_ hx⟩ <;> with_reducible assumption)
      | ((try go_split_ands); refine ⟨Ext.keep hgrow ?_, Ext.keep hgrow ?_, Ext.keep hgrow ?_, Blk.ext ?_ hgrow, Ext.trans ?_ hgrow⟩ <;> with_reducible assumption)
      | ((try go_split_ands); refine ⟨Ext.keep (Ext.alloc (Ext.refl _) _) ?_, Ext.keep (Ext.alloc (Ext.refl _) _) ?_, Ext.keep (Ext.alloc (Ext.refl _) _) ?_, Blk.alloc ?_ _, Ext.alloc ?_ _⟩ <;> with_reducible assumption))
    (first
      | ((try go_split_ands)
         refine step_append_grows rfl (.tmp 14) (.tmp 24) 32 rfl 9 i0 (.string ⟨#[]⟩) 1 16 Tryz.underlying32 HI.out.1 HI.out.2.1 HI.out.2.2.1 HI.out.2.2.2 rfl (by decide) (some ⟨w1.heap.size, 0, none⟩) 1 1 [.string ⟨#[100, 101, 102, 97, 117, 108, 116]⟩] rfl (by simp) rfl (holds_some (C := [.string ⟨#[100, 101, 102, 97, 117, 108, 116]⟩]) (t := 9) (by with_reducible assumption)) ⟨_, 0, none⟩ 3 3 [.string Se, .string Sb, .string Sk] rfl rfl (holds_blk (C := [.string Se, .string Sb, .string Sk]) (Blk.new _ _ _)) (one_strs [Se, Sb, Sk]) (by decide) (by decide) (by decide) ?_
         rintro v' w' hown hgrow0
         have hgrow := Ext.grown (Ext.refl _) hgrow0
         clear hgrow0)
      | (go_at_call 83; with_reducible refine (ref03_Print e _ he0 he1).mono ?_; rw [HSe.out]; rintro x w' ⟨rfl, rfl⟩)
      | (go_at_call 83; with_reducible refine (ref03_Print b _ hb0 hb1).mono ?_; rw [HSb.out]; rintro x w' ⟨rfl, rfl⟩)
      | (go_at_call 133; refine (ref11_Name k _).mono ?_; rw [HSk.out]; rintro x w' ⟨rfl, rfl⟩))
  go_wp2
  have hxf := HX.out
  go_split_ands
  refine bodyPost_ret (v := v') (by simp [results, Tryz.results84, go_sem]) rfl ⟨v', rfl, StrSlice.own [wDef, Se, Sb, Sk] hown HEACH.out, OwnS.of hown, ?_⟩
  repeat (first | with_reducible exact Ext.refl _ | with_reducible assumption | with_reducible refine Ext.alloc ?_ _ | with_reducible refine Ext.drew ?_ | (with_reducible refine Ext.setCell ?_ (by first | exact Nat.le_refl _ | (dsimp only; omega) | (simp; done) | (simp; omega)) _) | with_reducible refine Ext.trans ?_ (by with_reducible assumption))

set_option maxHeartbeats 4000000 in
set_option maxRecDepth 100000 in
theorem ref11_Print_rule (p : ByteArray) (e b k : Int) (w : World) (hm : p.size ≤ maxLen) (he0 : 0 ≤ e) (he1 : e < 18446744073709551616) (hb0 : 0 ≤ b) (hb1 : b < 18446744073709551616) (h : ruleErr p e b k = 0) (hp : p ≠ ⟨#[]⟩) :
    Calls Tryz.prog 84 #[.agg #[.string p, .int .u64 e, .int .u64 b, .int .u8 k]] w fun x w' => ∃ v, x = .returned v ∧ StrSlice w' v [wRule, p, digStr e, digStr b, nameOf k] ∧ OwnS w' v ∧ Ext w w' := by
  have hstr : (Tryz.prog.info? 9).map (fun i => (i.zero, i.size, i.bytes)) = some (some (.string ⟨#[]⟩), 1, 16) := by kernel_rfl
  obtain ⟨i0, hi, hz0, hz1, hz2⟩ := info_parts hstr
  have ae : (digStr e).size ≤ maxLen := Nat.le_trans (dig_back e he0 he1).2.2.1 (by decide)
  have ab : (digStr b).size ≤ maxLen := Nat.le_trans (dig_back b hb0 hb1).2.2.1 (by decide)
  have ak : (nameOf k).size ≤ maxLen := Nat.le_trans (nameW_size k) (by decide)
  have heach : ∀ s ∈ [wRule, p, digStr e, digStr b, nameOf k], s.size ≤ maxLen := by
    intro s hs
    simp only [List.mem_cons, List.not_mem_nil, or_false] at hs
    rcases hs with rfl | rfl | rfl | rfl | rfl <;> first | assumption | decide
  generalize hSe : digStr e = Se at *
  generalize hSb : digStr b = Sb at *
  generalize hSk : nameOf k = Sk at *
  have HSe := Lib.hid hSe
  have HSb := Lib.hid hSb
  have HSk := Lib.hid hSk
  have HI := Lib.hid (And.intro hi (And.intro hz0 (And.intro hz1 hz2)))
  have HEACH := Lib.hid heach
  have HE := Lib.hid h
  clear hSe hSb hSk hi hz0 hz1 hz2 hstr heach h
  have hpe2 : decide (p = ⟨#[]⟩) = false := by simpa using hp
  have hpe4 : p.toList.isEmpty = false := by
    by_cases q : p.toList.isEmpty = true
    · exact absurd (str_empty q) hp
    · simpa using q
  clear hp
  go_enter Tryz.func84, Tryz.ntmps84
  go_wp2_with fail
  refine (ref11_Right _ _ _ _ _ hm he0 he1 hb0 hb1).mono ?_
  rw [HE.out]
  rintro x w1 ⟨rfl, hx1⟩
  have B1 : Blk w1 w.heap.size #[.string p, .int .u64 e, .int .u64 b, .int .u8 k] 37 := (Blk.new _ _ _).ext hx1
  have c0 := B1.cell 0
  have c1 := B1.cell 1
  have c2 := B1.cell 2
  have c3 := B1.cell 3
  simp at c0 c1 c2 c3
  have hlt := B1.lt
  have hlt2 : w.heap.size < w1.heap.size + 1 := by omega
  go_wp2_with fail
  generalize hw2 : (w1.alloc (Obj.cells #[.string ⟨#[100, 101, 102, 97, 117, 108, 116]⟩] 9)).alloc (Obj.cells #[.string ⟨#[114, 117, 108, 101]⟩, .string p] 9) = w2
  have hx2 : Ext w1 w2 := by rw [← hw2]; exact ((Ext.refl _).alloc _).alloc _
  have L2 : Blk w2 (w1.heap.size + 1) #[.string ⟨#[114, 117, 108, 101]⟩, .string p] 9 := by rw [← hw2]; exact Blk.new' _ _ _ (by simp)
  have B2 := B1.ext hx2
  have d1 : w2.cell? ⟨w.heap.size, 1, none⟩ = some (.int .u64 e) := B2.cell 1
  have d2 : w2.cell? ⟨w.heap.size, 2, none⟩ = some (.int .u64 b) := B2.cell 2
  have d3 : w2.cell? ⟨w.heap.size, 3, none⟩ = some (.int .u8 k) := B2.cell 3
  clear c0 c1 c2 c3 hw2 hlt hlt2 B2
  have HB1 := Lib.hid B1
  have HX := Lib.hid (hx1.trans hx2)
  clear B1 hx1 hx2
  go_region_held3 (fun w' => w'.cell? ⟨w.heap.size, 1, none⟩ = some (.int .u64 e) ∧ w'.cell? ⟨w.heap.size, 2, none⟩ = some (.int .u64 b) ∧ w'.cell? ⟨w.heap.size, 3, none⟩ = some (.int .u8 k) ∧ Blk w' (w1.heap.size + 1) #[.string ⟨#[114, 117, 108, 101]⟩, .string p] 9 ∧ Ext w2 w')
    (first
      | exact ⟨d1, d2, d3, L2.drew, (Ext.refl _).drew⟩
      | exact ⟨Ext.keep (Ext.alloc (Ext.drew (Ext.refl _)) _) d1, Ext.keep (Ext.alloc (Ext.drew (Ext.refl _)) _) d2, Ext.keep (Ext.alloc (Ext.drew (Ext.refl _)) _) d3, L2.drew.alloc _, (Ext.refl _).drew.alloc _⟩
      | ((try go_split_ands); refine ⟨Ext.keep hx ?_, Ext.keep hx ?_, Ext.keep hx ?_, Blk.ext ?_ hx, Ext.trans ?_ hx⟩ <;> with_reducible assumption)
      | ((try go_split_ands); refine ⟨Ext.keep hgrow ?_, Ext.keep hgrow ?_, Ext.keep hgrow ?_, Blk.ext ?_ hgrow, Ext.trans ?_ hgrow⟩ <;> with_reducible assumption)
      | ((try go_split_ands); refine ⟨Ext.keep (Ext.alloc (Ext.refl _) _) ?_, Ext.keep (Ext.alloc (Ext.refl _) _) ?_, Ext.keep (Ext.alloc (Ext.refl _) _) ?_, Blk.alloc ?_ _, Ext.alloc ?_ _⟩ <;> with_reducible assumption))
    (first
      | ((try go_split_ands)
         refine step_append_grows rfl (.tmp 14) (.tmp 24) 32 rfl 9 i0 (.string ⟨#[]⟩) 1 16 Tryz.underlying32 HI.out.1 HI.out.2.1 HI.out.2.2.1 HI.out.2.2.2 rfl (by decide) (some ⟨(w1.heap.size + 1), 0, none⟩) 2 2 [.string ⟨#[114, 117, 108, 101]⟩, .string p] rfl (by simp) rfl (holds_some (C := [.string ⟨#[114, 117, 108, 101]⟩, .string p]) (t := 9) (by with_reducible assumption)) ⟨_, 0, none⟩ 3 3 [.string Se, .string Sb, .string Sk] rfl rfl (holds_blk (C := [.string Se, .string Sb, .string Sk]) (Blk.new _ _ _)) (one_strs [Se, Sb, Sk]) (by decide) (by decide) (by decide) ?_
         rintro v' w' hown hgrow0
         have hgrow := Ext.grown (Ext.refl _) hgrow0
         clear hgrow0)
      | (go_at_call 83; with_reducible refine (ref03_Print e _ he0 he1).mono ?_; rw [HSe.out]; rintro x w' ⟨rfl, rfl⟩)
      | (go_at_call 83; with_reducible refine (ref03_Print b _ hb0 hb1).mono ?_; rw [HSb.out]; rintro x w' ⟨rfl, rfl⟩)
      | (go_at_call 133; refine (ref11_Name k _).mono ?_; rw [HSk.out]; rintro x w' ⟨rfl, rfl⟩))
  go_wp2
  have hxf := HX.out
  go_split_ands
  refine bodyPost_ret (v := v') (by simp [results, Tryz.results84, go_sem]) rfl ⟨v', rfl, StrSlice.own [wRule, p, Se, Sb, Sk] hown HEACH.out, OwnS.of hown, ?_⟩
  repeat (first | with_reducible exact Ext.refl _ | with_reducible assumption | with_reducible refine Ext.alloc ?_ _ | with_reducible refine Ext.drew ?_ | (with_reducible refine Ext.setCell ?_ (by first | exact Nat.le_refl _ | (dsimp only; omega) | (simp; done) | (simp; omega)) _) | with_reducible refine Ext.trans ?_ (by with_reducible assumption))

theorem ref11_Print (p : ByteArray) (e b k : Int) (w : World) (hm : p.size ≤ maxLen) (he0 : 0 ≤ e) (he1 : e < 18446744073709551616) (hb0 : 0 ≤ b) (hb1 : b < 18446744073709551616) :
    Calls Tryz.prog 84 #[.agg #[.string p, .int .u64 e, .int .u64 b, .int .u8 k]] w fun x w' => ∃ v, x = .returned v ∧ StrSlice w' v (printWords p e b k) ∧ OwnS w' v ∧ Ext w w' := by
  by_cases h : ruleErr p e b k = 0
  · by_cases hp : p = ⟨#[]⟩
    · subst hp
      have : printWords ⟨#[]⟩ e b k = [wDef, digStr e, digStr b, nameOf k] := by unfold printWords; rw [if_pos h, if_pos rfl]
      rw [this]
      exact ref11_Print_def e b k w he0 he1 hb0 hb1 h
    · have : printWords p e b k = [wRule, p, digStr e, digStr b, nameOf k] := by unfold printWords; rw [if_pos h, if_neg hp]
      rw [this]
      exact ref11_Print_rule p e b k w hm he0 he1 hb0 hb1 h hp
  · have : printWords p e b k = [] := by unfold printWords; rw [if_neg h]
    rw [this]
    refine (ref11_Print_bad p e b k w hm he0 he1 hb0 hb1 h).mono ?_
    rintro x w' ⟨rfl, hx⟩
    exact ⟨_, rfl, ⟨⟨none, 0, rfl, fun q => absurd rfl q⟩, by simp, by simp⟩, OwnS.nil _, hx⟩

end Go.Proofs.YtknlojlcahgnoaaGreat

namespace Go.Proofs.YtknlojlcahgnoaaGreat
open Go.RowKit
set_option linter.unusedVariables false
set_option linter.unusedSimpArgs false

theorem numErr_digits {n : Int} (h0 : 0 < n) (h1 : n < 18446744073709551616) (q : Int) : numErr (digStr n) q = 0 := by
  obtain ⟨e1, e2, -, -⟩ := dig_back n (by omega) h1
  unfold numErr
  rw [e1, e2, if_neg (by omega)]
theorem digNum_digits {n : Int} (h0 : 0 ≤ n) (h1 : n < 18446744073709551616) : digNum (digStr n) = n := (dig_back n h0 h1).2.1
theorem satMul_le {a b : Int} (h : a * b ≤ 4611686018427387904) : satMul a b = a * b := satMul_lt (by omega)
theorem capOk_yes {a b : Int} (h : a * b ≤ 4611686018427387904) : capOk a b = true := by
  unfold capOk; rw [satMul_le h]; simpa using h
theorem burstErr_yes {a b : Int} (hb0 : 0 < b) (hb1 : b < 18446744073709551616) (h : a * b ≤ 4611686018427387904) : burstErr a (digStr b) = 0 := by
  unfold burstErr
  rw [numErr_digits hb0 hb1, digNum_digits (by omega) hb1, capOk_yes h, if_neg (by simp)]
theorem kindErr_name {k : Int} (h : 1 ≤ k ∧ k ≤ 3) : kindErr (kindOf (nameOf k)) = 0 := by
  rw [(kind_name_yes k h).1]; unfold kindErr; rw [if_pos (by omega)]
theorem parse_default {a b k : Int} (ha0 : 0 < a) (ha1 : a < 18446744073709551616) (hb0 : 0 < b) (hb1 : b < 18446744073709551616) (h : a * b ≤ 4611686018427387904) (hk : 1 ≤ k ∧ k ≤ 3) :
    ruleParse [wDef, digStr a, digStr b, nameOf k] = ⟨⟨#[]⟩, a, b, k, 0, 0⟩ := by
  rw [ruleParse_def]
  show parse3 _ _ _ = _
  unfold parse3
  rw [numErr_digits ha0 ha1, digNum_digits (by omega) ha1, burstErr_yes hb0 hb1 h, kindErr_name hk, digNum_digits (by omega) hb1, (kind_name_yes k hk).1]
  simp
theorem ruleErr_parts {p : ByteArray} {e b k : Int} (h : ruleErr p e b k = 0) : prefOk p = true ∧ 0 < e ∧ 0 < b ∧ capOk e b = true ∧ rightKind k = true := by
  unfold ruleErr at h
  by_cases h1 : prefOk p = false
  · rw [if_pos h1] at h; omega
  by_cases h2 : 0 < e
  · by_cases h3 : 0 < b
    · by_cases h4 : capOk e b = false
      · rw [if_neg h1, if_neg (by simpa using h2), if_neg (by simpa using h3), if_pos h4] at h; omega
      · by_cases h5 : rightKind k = false
        · rw [if_neg h1, if_neg (by simpa using h2), if_neg (by simpa using h3), if_neg h4, if_pos h5] at h; omega
        · exact ⟨by simpa using h1, h2, h3, by simpa using h4, by simpa using h5⟩
    · rw [if_neg h1, if_neg (by simpa using h2), if_pos h3] at h; omega
  · rw [if_neg h1, if_pos h2] at h; omega
theorem ruleErr_yes {p : ByteArray} {e b k : Int} (h1 : prefOk p = true) (h2 : 0 < e) (h3 : 0 < b) (h4 : capOk e b = true) (h5 : rightKind k = true) : ruleErr p e b k = 0 := by
  unfold ruleErr
  rw [if_neg (by simp [h1]), if_neg (by simpa using h2), if_neg (by simpa using h3), if_neg (by simp [h4]), if_neg (by simp [h5])]
theorem capOk_mul {e b : Int} (he : 0 ≤ e) (hb : 0 ≤ b) (h : capOk e b = true) : e * b ≤ 4611686018427387904 := by
  unfold capOk satMul at h
  split at h
  · simpa using h
  · simp at h
/-- what is printed is read -/
theorem print_parse {p : ByteArray} {e b k : Int} (h : ruleErr p e b k = 0) (he1 : e < 18446744073709551616) (hb1 : b < 18446744073709551616) :
    ruleParse (printWords p e b k) = ⟨p, e, b, k, 0, 0⟩ := by
  obtain ⟨h1, h2, h3, h4, h5⟩ := ruleErr_parts h
  have hk : 1 ≤ k ∧ k ≤ 3 := by unfold rightKind at h5; simpa using h5
  have hm := capOk_mul (by omega) (by omega) h4
  unfold printWords
  rw [if_pos h]
  by_cases hp : p = ⟨#[]⟩
  · rw [if_pos hp, parse_default h2 he1 h3 hb1 hm hk, hp]
  · rw [if_neg hp, ruleParse_rule]
    have hko : keyOk p = true := by
      unfold prefOk at h1
      have : p.size ≠ 0 := by
        intro q
        apply hp
        apply str_empty
        rw [disEmpty_iff]; simpa using q
      simpa [this] using h1
    show parse4 _ _ _ _ = _
    unfold parse4
    rw [numErr_digits h2 he1, digNum_digits (by omega) he1, burstErr_yes h3 hb1 hm, kindErr_name hk, digNum_digits (by omega) hb1, (kind_name_yes k hk).1]
    simp [prefErr, hko]

end Go.Proofs.YtknlojlcahgnoaaGreat

namespace Go.Proofs.YtknlojlcahgnoaaGreat
open Go.RowKit
set_option linter.unusedVariables false
set_option linter.unusedSimpArgs false

/-! ## keys of choices -/
theorem pieceOf_ok (n : Nat) : noBad (pieceOf n).data.toList = true := by
  unfold pieceOf
  repeat' split
  all_goals decide
theorem noBad_append (a b : List UInt8) : noBad (a ++ b) = (noBad a && noBad b) := by simp [noBad]
theorem keyCat_ok : ∀ (m : Nat) (l : List UInt8), l.length = m → noBad (keyCat l).data.toList = true := by
  intro m
  induction m with
  | zero => intro l h; obtain rfl := List.eq_nil_of_length_eq_zero h; decide
  | succ m ih =>
    intro l h
    have hne : l ≠ [] := by intro e; subst e; simp at h
    rw [← List.dropLast_concat_getLast hne, keyCat_snoc, ByteArray.data_append, Array.toList_append, noBad_append, ih l.dropLast (by rw [List.length_dropLast]; omega), pieceOf_ok]
    rfl
theorem keyText_ok (l : List UInt8) : keyOk (keyText l) = true ∧ (keyText l).size ≤ 12 := by
  unfold keyText
  split
  · decide
  · rename_i h
    have h2 := keyCat_size (l.take 6)
    rw [List.length_take] at h2
    have h3 := keyCat_ok _ (l.take 6) rfl
    refine ⟨?_, by omega⟩
    unfold keyOk
    rw [h3]
    simp
    omega
theorem keyOk_ne {p : ByteArray} (h : keyOk p = true) : p ≠ ⟨#[]⟩ := by
  intro e; subst e; revert h; decide
theorem dval_snoc' (l : List UInt8) (c : UInt8) : dval (l ++ [c]) = 10 * dval l + ((c.toNat : Int) - 48) := by simp [dval]
theorem digit_back {c : UInt8} (h : isDig c = true) : ∃ d : Nat, d < 10 ∧ c = UInt8.ofNat (48 + d) ∧ (c.toNat : Int) - 48 = d := by
  unfold isDig at h
  simp at h
  refine ⟨c.toNat - 48, by omega, ?_, by omega⟩
  have : 48 + (c.toNat - 48) = c.toNat := by omega
  rw [this]
  simp
theorem pdig_back : ∀ (m : Nat) (l : List UInt8), l.length = m + 1 → l.all isDig = true → (1 < l.length → (l.getD 0 0).toNat ≠ 48) → dval l < 18446744073709551616 → pdig (dval l).toNat = l ∧ 0 ≤ dval l ∧ (1 < l.length → 1 ≤ dval l) := by
  intro m
  induction m with
  | zero =>
    intro l hl ha hd hb
    obtain ⟨c, rfl⟩ := List.length_eq_one_iff.1 hl
    obtain ⟨d, hd10, rfl, hv⟩ := digit_back (c := c) (by simpa using ha)
    have e : dval [UInt8.ofNat (48 + d)] = d := by
      have := dval_snoc' [] (UInt8.ofNat (48 + d))
      simp only [List.nil_append] at this
      rw [this, hv]; simp [dval]
    rw [e]
    refine ⟨?_, by omega, by simp⟩
    rw [pdig_eq _ (by omega), if_pos (by omega)]
    simp
  | succ m ih =>
    intro l hl ha hd hb
    have hne : l ≠ [] := by intro e; subst e; simp at hl
    obtain ⟨r, c, rfl⟩ : ∃ r c, l = r ++ [c] := ⟨_, _, (List.dropLast_concat_getLast hne).symm⟩
    have hr : r.length = m + 1 := by simpa using hl
    rw [List.all_append] at ha
    simp only [Bool.and_eq_true] at ha
    obtain ⟨d, hd10, rfl, hv⟩ := digit_back (c := c) (by simpa using ha.2)
    have h48 : (r.getD 0 0).toNat ≠ 48 := by
      have := hd (by simp; omega)
      cases r with
      | nil => simp at hr
      | cons x y => simpa using this
    rw [dval_snoc', hv] at hb ⊢
    have hrne : 1 ≤ dval r := by
      by_cases hm : 1 < r.length
      · have hp := dval_nonneg (l := r) ha.1
        exact (ih r hr ha.1 (fun _ => h48) (by omega)).2.2 hm
      · cases r with
        | nil => simp at hr
        | cons x y =>
          have : y = [] := List.eq_nil_of_length_eq_zero (by simpa using hm)
          subst this
          obtain ⟨d', hd', rfl, hv'⟩ := digit_back (c := x) (by simpa using ha.1)
          have e : dval [UInt8.ofNat (48 + d')] = d' := by
            have := dval_snoc' [] (UInt8.ofNat (48 + d'))
            simp only [List.nil_append] at this
            rw [this, hv']; simp [dval]
          rw [e]
          simp at h48
          rcases Nat.eq_zero_or_pos d' with rfl | q
          · exact absurd rfl h48
          · omega
    obtain ⟨h1, h2, h3⟩ := ih r hr ha.1 (fun _ => h48) (by omega)
    refine ⟨?_, by omega, by omega⟩
    have e1 : (10 * dval r + (d : Int)).toNat = 10 * (dval r).toNat + d := by omega
    rw [e1, pdig_eq _ (by omega), if_neg (by omega)]
    have e2 : (10 * (dval r).toNat + d) / 10 = (dval r).toNat := by omega
    have e3 : (10 * (dval r).toNat + d) % 10 = d := by omega
    rw [e2, e3, h1]
theorem dig_read (s : ByteArray) (h : digErr s = 0) : digStr (digNum s) = s := by
  have hn : digNum s = dval s.data.toList := by unfold digNum; rw [if_pos h]
  unfold digErr at h
  by_cases h1 : digLead s = true
  · rw [if_pos h1] at h; omega
  by_cases h2 : s.data.toList.all isDig = false
  · rw [if_neg h1, if_pos h2] at h; omega
  by_cases h3 : 18446744073709551616 ≤ dval s.data.toList
  · rw [if_neg h1, if_neg h2, if_pos h3] at h; omega
  have hsz : s.data.toList.length = s.size := by rw [data_len]
  unfold digLead at h1
  simp only [Bool.or_eq_true, decide_eq_true_eq, Bool.and_eq_true, not_or, not_and] at h1
  have hb := (pdig_back (s.size - 1) s.data.toList (by omega) (by revert h2; cases s.data.toList.all isDig <;> simp) (fun q => h1.2 (by omega)) (by omega)).1
  rw [hn]
  unfold digStr
  rw [hb]
end Go.Proofs.YtknlojlcahgnoaaGreat

namespace Go.Proofs.YtknlojlcahgnoaaGreat
open Go.RowKit
set_option linter.unusedVariables false
set_option linter.unusedSimpArgs false

theorem numErr_zero {s : ByteArray} {q : Int} (hq : q ≠ 0) (h : numErr s q = 0) : digErr s = 0 ∧ 0 < digNum s ∧ digNum s < 18446744073709551616 ∧ digStr (digNum s) = s := by
  have hb := digNum_bounds s
  unfold numErr at h
  by_cases h1 : digErr s = 0 ∧ digNum s = 0
  · rw [if_pos h1] at h; exact absurd h hq
  · rw [if_neg h1] at h
    have : digNum s ≠ 0 := fun q => h1 ⟨h, q⟩
    exact ⟨h, by omega, hb.2, dig_read s h⟩
theorem burstErr_zero {e : Int} {s : ByteArray} (h : burstErr e s = 0) : capOk e (digNum s) = true ∧ digErr s = 0 ∧ 0 < digNum s ∧ digStr (digNum s) = s := by
  unfold burstErr at h
  by_cases h1 : numErr s 25 = 0 ∧ capOk e (digNum s) = false
  · rw [if_pos h1] at h; omega
  · rw [if_neg h1] at h
    obtain ⟨a, b, c, d⟩ := numErr_zero (by omega) h
    exact ⟨by simpa [h] using h1, a, b, d⟩
theorem kindErr_zero {s : ByteArray} (h : kindErr (kindOf s) = 0) : rightKind (kindOf s) = true ∧ nameOf (kindOf s) = s := by
  unfold kindErr at h
  rcases kindOf_cases s with ⟨h0, -⟩ | ⟨h1, rfl⟩ | ⟨h1, rfl⟩ | ⟨h1, rfl⟩
  · rw [h0] at h; simp at h
  all_goals rw [h1]; exact ⟨by decide, by unfold nameOf; simp⟩

/-- what a line read says -/
structure Read (l : List ByteArray) (r : PRes) : Prop where
  e0 : 0 ≤ r.e
  e1 : r.e < 18446744073709551616
  b0 : 0 ≤ r.b
  b1 : r.b < 18446744073709551616
  k0 : 0 ≤ r.k
  k1 : r.k ≤ 3
  size : r.err = 0 → r.p = ⟨#[]⟩ ∨ r.p ∈ l
  good : r.err = 0 → ruleErr r.p r.e r.b r.k = 0 ∧ printWords r.p r.e r.b r.k = l
  bad : r.err ≠ 0 → r = pbad r.err r.at_ ∧ 0 ≤ r.at_ ∧ (r.at_ < l.length ∨ r.at_ = 0)
theorem Read.pbad {l : List ByteArray} {e a : Int} (he : e ≠ 0) (h0 : 0 ≤ a) (h1 : a < l.length ∨ a = 0) : Read l (pbad e a) :=
  ⟨show (0 : Int) ≤ 0 by decide, show (0 : Int) < 18446744073709551616 by decide, show (0 : Int) ≤ 0 by decide, show (0 : Int) < 18446744073709551616 by decide, show (0 : Int) ≤ 0 by decide, show (0 : Int) ≤ 3 by decide, fun h => absurd h he, fun h => absurd h he, fun _ => ⟨rfl, h0, h1⟩⟩
theorem kindOf_range (s : ByteArray) : 0 ≤ kindOf s ∧ kindOf s ≤ 3 := by
  rcases kindOf_cases s with ⟨h, -⟩ | ⟨h, -⟩ | ⟨h, -⟩ | ⟨h, -⟩ <;> omega
theorem read3 (s1 s2 s3 : ByteArray) : Read [wDef, s1, s2, s3] (parse3 s1 s2 s3) := by
  unfold parse3
  by_cases h1 : numErr s1 24 = 0
  · rw [if_neg (by simpa using h1)]
    by_cases h2 : burstErr (digNum s1) s2 = 0
    · rw [if_neg (by simpa using h2)]
      by_cases h3 : kindErr (kindOf s3) = 0
      · rw [if_neg (by simpa using h3)]
        obtain ⟨a1, a2, a3, a4⟩ := numErr_zero (by omega) h1
        obtain ⟨b1, b2, b3, b4⟩ := burstErr_zero h2
        obtain ⟨c1, c2⟩ := kindErr_zero h3
        have hb := digNum_bounds s2
        have hk := kindOf_range s3
        have hr : ruleErr ⟨#[]⟩ (digNum s1) (digNum s2) (kindOf s3) = 0 := ruleErr_yes (by decide) a2 b3 b1 c1
        refine ⟨by show 0 ≤ digNum s1; omega, a3, hb.1, hb.2, hk.1, hk.2, fun _ => Or.inl rfl, fun _ => ⟨hr, ?_⟩, fun q => absurd rfl q⟩
        show printWords ⟨#[]⟩ (digNum s1) (digNum s2) (kindOf s3) = _
        unfold printWords
        rw [if_pos hr, if_pos rfl, a4, b4, c2]
      · rw [if_pos h3]; exact Read.pbad h3 (by omega) (by simp)
    · rw [if_pos h2]; exact Read.pbad h2 (by omega) (by simp)
  · rw [if_pos h1]; exact Read.pbad h1 (by omega) (by simp)
theorem read4 (s1 s2 s3 s4 : ByteArray) : Read [wRule, s1, s2, s3, s4] (parse4 s1 s2 s3 s4) := by
  unfold parse4
  by_cases h0 : prefErr s1 = 0
  · rw [if_neg (by simpa using h0)]
    by_cases h1 : numErr s2 24 = 0
    · rw [if_neg (by simpa using h1)]
      by_cases h2 : burstErr (digNum s2) s3 = 0
      · rw [if_neg (by simpa using h2)]
        by_cases h3 : kindErr (kindOf s4) = 0
        · rw [if_neg (by simpa using h3)]
          obtain ⟨a1, a2, a3, a4⟩ := numErr_zero (by omega) h1
          obtain ⟨b1, b2, b3, b4⟩ := burstErr_zero h2
          obtain ⟨c1, c2⟩ := kindErr_zero h3
          have hb := digNum_bounds s3
          have hk := kindOf_range s4
          have hko : keyOk s1 = true := by
            unfold prefErr at h0
            by_cases q : keyOk s1 = true
            · exact q
            · rw [if_neg q] at h0; omega
          have hr : ruleErr s1 (digNum s2) (digNum s3) (kindOf s4) = 0 := ruleErr_yes (by unfold prefOk; rw [hko]; simp) a2 b3 b1 c1
          refine ⟨by show 0 ≤ digNum s2; omega, a3, hb.1, hb.2, hk.1, hk.2, fun _ => Or.inr (by show s1 ∈ _; simp), fun _ => ⟨hr, ?_⟩, fun q => absurd rfl q⟩
          show printWords s1 (digNum s2) (digNum s3) (kindOf s4) = _
          unfold printWords
          rw [if_pos hr, if_neg (keyOk_ne hko), a4, b4, c2]
        · rw [if_pos h3]; exact Read.pbad h3 (by omega) (by simp)
      · rw [if_pos h2]; exact Read.pbad h2 (by omega) (by simp)
    · rw [if_pos h1]; exact Read.pbad h1 (by omega) (by simp)
  · rw [if_pos h0]; exact Read.pbad h0 (by omega) (by simp)
theorem read_line (l : List ByteArray) : Read l (ruleParse l) := by
  match l with
  | [] => exact Read.pbad (by omega) (by omega) (by simp)
  | s :: r =>
    rw [ruleParse_cons]
    by_cases h1 : s = wDef
    · rw [if_pos h1, h1]
      by_cases hr : r.length = 3
      · match r, hr with
        | [a, b, c], _ => exact read3 a b c
      · rw [parseD_len r hr]; exact Read.pbad (by omega) (by omega) (Or.inr rfl)
    · rw [if_neg h1]
      by_cases h2 : s = wRule
      · rw [if_pos h2, h2]
        by_cases hr : r.length = 4
        · match r, hr with
          | [a, b, c, d], _ => exact read4 a b c d
        · rw [parseR_len r hr]; exact Read.pbad (by omega) (by omega) (Or.inr rfl)
      · rw [if_neg h2]; exact Read.pbad (by omega) (by omega) (Or.inr rfl)

/-! ## lines of fewer, more, other words -/
end Go.Proofs.YtknlojlcahgnoaaGreat

namespace Go.Proofs.YtknlojlcahgnoaaGreat
open Go.RowKit
set_option linter.unusedVariables false
set_option linter.unusedSimpArgs false

theorem numErr_range (s : ByteArray) (q : Int) (h0 : 0 ≤ q) (h1 : q < 30) : 0 ≤ numErr s q ∧ numErr s q < 30 := by
  unfold numErr digErr
  repeat' split
  all_goals omega
theorem burstErr_range (e : Int) (s : ByteArray) : 0 ≤ burstErr e s ∧ burstErr e s < 30 := by
  have := numErr_range s 25 (by omega) (by omega)
  unfold burstErr
  split <;> omega
theorem kindErr_range (k : Int) : 0 ≤ kindErr k ∧ kindErr k < 30 := by unfold kindErr; split <;> omega
theorem prefErr_range (s : ByteArray) : 0 ≤ prefErr s ∧ prefErr s < 30 := by unfold prefErr; split <;> omega
theorem parse3_range (a b c : ByteArray) : 0 ≤ (parse3 a b c).err ∧ (parse3 a b c).err < 30 := by
  unfold parse3
  split
  · exact numErr_range a 24 (by omega) (by omega)
  split
  · exact burstErr_range _ _
  split
  · exact kindErr_range _
  · exact ⟨Int.le_refl 0, show (0 : Int) < 30 by decide⟩
theorem parse4_range (a b c d : ByteArray) : 0 ≤ (parse4 a b c d).err ∧ (parse4 a b c d).err < 30 := by
  unfold parse4
  split
  · exact prefErr_range _
  split
  · exact numErr_range b 24 (by omega) (by omega)
  split
  · exact burstErr_range _ _
  split
  · exact kindErr_range _
  · exact ⟨Int.le_refl 0, show (0 : Int) < 30 by decide⟩
theorem pbad_range : 0 ≤ (pbad 22 0).err ∧ (pbad 22 0).err < 30 := ⟨show (0 : Int) ≤ 22 by decide, show (22 : Int) < 30 by decide⟩
theorem err_range (l : List ByteArray) : 0 ≤ (ruleParse l).err ∧ (ruleParse l).err < 30 := by
  match l with
  | [] => exact pbad_range
  | s :: r =>
    rw [ruleParse_cons]
    split
    · by_cases hr : r.length = 3
      · match r, hr with
        | [a, b, c], _ => exact parse3_range a b c
      · rw [parseD_len r hr]; exact pbad_range
    split
    · by_cases hr : r.length = 4
      · match r, hr with
        | [a, b, c, d], _ => exact parse4_range a b c d
      · rw [parseR_len r hr]; exact pbad_range
    · exact pbad_range

end Go.Proofs.YtknlojlcahgnoaaGreat
