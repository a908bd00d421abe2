/- Walks: rule.Print, tollerref11.Print. Plain: a rule that is printed is read. The plain part of the walks of RuleEdge and RuleBack, without their law's functions. -/
import Derived.Deep.RegionLawGrows
import Derived.Deep.RegionHeld3
import Derived.Lib.SmallJoins
import Derived.Test.YtknlojlcahgnoaaG17
import Derived.Test.YtknlojlcahgnoaaG27
import Derived.Test.YtknlojlcahgnoaaG5
import Derived.Test.YtknlojlcahgnoaaG3

/- Walks: rule.Print, tollerref11.Print. -/
namespace Go.Proofs.Ytknlojlcahgnoaa
open Go.RowKit
set_option linter.unusedVariables false
set_option linter.unusedSimpArgs false

theorem Ext.grown {a b c : World} (h : Ext a b) (g : b.grownBy c none) : Ext a c :=
  h.trans ⟨g.os, g.tape, g.output, g.size, fun k hk => g.block k hk (by simp)⟩

/-- a row of the call's own is a slice of strings -/
theorem StrSlice.own {w : World} {base n : Nat} {e : TypeId} {v : Value} (l : List ByteArray) (h : w.ownsRow base e 1 v n (l.map Value.string)) (heach : ∀ s ∈ l, s.size ≤ maxLen) : StrSlice w v l := by
  obtain ⟨h1, h2⟩ := h
  simp at h1
  rcases h2 with ⟨rfl, rfl⟩ | ⟨g, cap, cur, rfl, hb, hc, hn, hm, hs, ht⟩
  · have : l = [] := List.eq_nil_of_length_eq_zero (by omega)
    subst this
    exact ⟨⟨none, 0, rfl, fun q => absurd rfl q⟩, by simp, heach⟩
  · refine ⟨⟨some ⟨g, 0, none⟩, cap, by rw [h1], fun _ => ⟨g, 0, rfl, fun j hj => ?_⟩⟩, by omega, heach⟩
    have e1 : cur.toList[j]? = some (Value.string l[j]) := by
      have := congrArg (fun r => r[j]?) ht
      simp only [Nat.mul_one] at this
      rw [List.getElem?_take_of_lt (by omega)] at this
      rw [this]
      simp [hj]
    have e2 : w.cell? ⟨g, 0 + j, none⟩ = cur[0 + j]? := by simp [World.cell?, hc]
    rw [e2, Nat.zero_add, ← Array.getElem?_toList]
    exact e1

/-- a slice's capacity is no less than its length -/
def CapOk (v : Value) : Prop := ∀ a n c, v = .slice a n c → n ≤ c ∧ c ≤ maxLen
theorem CapOk.nil : CapOk (.slice none 0 0) := fun a n c h => by cases h; exact ⟨Nat.le_refl _, Nat.zero_le _⟩
theorem CapOk.own {w : World} {base size n : Nat} {e : TypeId} {v : Value} {xs : List Value} (h : w.ownsRow base e size v n xs) : CapOk v := by
  rcases h.2 with ⟨rfl, rfl⟩ | ⟨g, cap, cur, rfl, _, _, hn, hm, _⟩
  · exact CapOk.nil
  · intro a m c hv; cases hv; exact ⟨hn, hm⟩
/-- a row of texts of the call's own -/
structure OwnS (w : World) (v : Value) : Prop where
  cap : CapOk v
  own : ∃ base n xs, w.ownsRow base 9 1 v n xs
theorem OwnS.of {w : World} {base n : Nat} {v : Value} {xs : List Value} (h : w.ownsRow base 9 1 v n xs) : OwnS w v := ⟨CapOk.own h, base, n, xs, h⟩
theorem OwnS.nil (w : World) : OwnS w (.slice none 0 0) := ⟨CapOk.nil, 0, 0, [], World.ownsRow_nil _ _ _ _⟩
theorem Ext.grownOwn {x y z : World} {base size n : Nat} {e : TypeId} {v : Value} {xs : List Value} (h : Ext x y) (o : y.ownsRow base e size v n xs) (hb : x.heap.size ≤ base) (g : y.grownBy z v.ownBlock) : Ext x z := by
  refine ⟨g.os.trans (Below.os h), g.tape.trans (Below.tape h), g.output.trans (Below.output h), Nat.le_trans h.sz g.size, fun k hk => (g.block k (Nat.lt_of_lt_of_le hk h.sz) ?_).trans (Below.block h k hk)⟩
  rcases o.2 with ⟨rfl, _⟩ | ⟨b, cap, cur, rfl, hge, _⟩
  · simp [Value.ownBlock]
  · simp [Value.ownBlock]; omega
theorem holds_blk {w : World} {b : Nat} {C : List Value} {t : TypeId} (h : Blk w b C.toArray t) : ∀ (j : Nat) (u : Value), C[j]? = some u → w.cell? ((⟨b, 0, none⟩ : Addr).add j) = some u := by
  intro j u hu
  have e : ((⟨b, 0, none⟩ : Addr).add j) = ⟨b, j, none⟩ := by simp [Addr.add]; try omega
  rw [e, h.cell]
  simpa using hu
theorem holds_some {w : World} {b : Nat} {C : List Value} {t : TypeId} (h : Blk w b C.toArray t) : ∀ q : Addr, some (⟨b, 0, none⟩ : Addr) = some q → ∀ (j : Nat) (u : Value), C[j]? = some u → w.cell? (q.add j) = some u := by
  intro q hq
  cases hq
  exact holds_blk h
theorem one_strs (l : List ByteArray) : ∀ u ∈ l.map Value.string, u.oneCell' = true := by
  intro u hu
  obtain ⟨s, _, rfl⟩ := List.mem_map.1 hu
  rfl

theorem str_empty {p : ByteArray} (h : p.toList.isEmpty = true) : p = ⟨#[]⟩ := by
  have e : p.toList = p.data.toList := ByteArray.toList_eq p
  rw [e] at h
  simp at h
  cases p
  simp_all
def printWords (p : ByteArray) (e b k : Int) : List ByteArray :=
  if ruleErr p e b k = 0 then (if p = ⟨#[]⟩ then [wDef, digStr e, digStr b, nameOf k] else [wRule, p, digStr e, digStr b, nameOf k]) else []
theorem nameOf_size (k : Int) : (nameOf k).size ≤ 6 := by
  unfold nameOf
  split
  · decide
  split
  · decide
  split
  · decide
  · decide


set_option maxHeartbeats 2000000 in
set_option maxRecDepth 100000 in
theorem rule_Print_bad (p : ByteArray) (e b k : Int) (w : World) (hm : p.size ≤ maxLen) (he0 : 0 ≤ e) (he1 : e < 18446744073709551616) (hb0 : 0 ≤ b) (hb1 : b < 18446744073709551616) (h : ruleErr p e b k ≠ 0) :
    Calls Try.prog 29 #[.agg #[.string p, .int .u64 e, .int .u64 b, .int .u8 k]] w fun x w' => x = .returned (.slice none 0 0) ∧ Ext w w' := by
  generalize hE : ruleErr p e b k = E at *
  have HE := Lib.hid hE
  clear hE
  have hz : (E == 0) = false := by simpa using h
  have hz2 : decide (E = 0) = false := by simpa using h
  clear h
  go_enter Try.func29, Try.ntmps29
  go_wp2_with (go_at_call 31; refine (rule_Right _ _ _ _ _ hm he0 he1 hb0 hb1).mono ?_; rw [HE.out]; rintro x w' ⟨rfl, hx⟩)
  go_ret
  exact ⟨rfl, (by repeat (first | with_reducible exact Ext.refl _ | with_reducible assumption | with_reducible refine Ext.alloc ?_ _ | with_reducible refine Ext.drew ?_ | (with_reducible refine Ext.setCell ?_ (by first | exact Nat.le_refl _ | (dsimp only; omega) | (simp; done) | (simp; omega)) _) | with_reducible refine Ext.trans ?_ (by with_reducible assumption)))⟩

set_option maxHeartbeats 4000000 in
set_option maxRecDepth 100000 in
theorem rule_Print_def (e b k : Int) (w : World) (he0 : 0 ≤ e) (he1 : e < 18446744073709551616) (hb0 : 0 ≤ b) (hb1 : b < 18446744073709551616) (h : ruleErr ⟨#[]⟩ e b k = 0) :
    Calls Try.prog 29 #[.agg #[.string ⟨#[]⟩, .int .u64 e, .int .u64 b, .int .u8 k]] w fun x w' => ∃ v, x = .returned v ∧ StrSlice w' v [wDef, digStr e, digStr b, nameOf k] ∧ OwnS w' v ∧ Ext w w' := by
  have hstr : (Try.prog.info? 9).map (fun i => (i.zero, i.size, i.bytes)) = some (some (.string ⟨#[]⟩), 1, 16) := by kernel_rfl
  obtain ⟨i0, hi, hz0, hz1, hz2⟩ := info_parts hstr
  have ae : (digStr e).size ≤ maxLen := Nat.le_trans (dig_back e he0 he1).2.2.1 (by decide)
  have ab : (digStr b).size ≤ maxLen := Nat.le_trans (dig_back b hb0 hb1).2.2.1 (by decide)
  have ak : (nameOf k).size ≤ maxLen := Nat.le_trans (nameOf_size k) (by decide)
  have heach : ∀ s ∈ [wDef, digStr e, digStr b, nameOf k], s.size ≤ maxLen := by
    intro s hs
    simp only [List.mem_cons, List.not_mem_nil, or_false] at hs
    rcases hs with rfl | rfl | rfl | rfl <;> first | assumption | decide
  generalize hSe : digStr e = Se at *
  generalize hSb : digStr b = Sb at *
  generalize hSk : nameOf k = Sk at *
  have HSe := Lib.hid hSe
  have HSb := Lib.hid hSb
  have HSk := Lib.hid hSk
  have HI := Lib.hid (And.intro hi (And.intro hz0 (And.intro hz1 hz2)))
  have HEACH := Lib.hid heach
  have HE := Lib.hid h
  clear hSe hSb hSk hi hz0 hz1 hz2 hstr heach h
  go_enter Try.func29, Try.ntmps29
  go_wp2_with fail
  refine (rule_Right _ _ _ _ _ (by decide) he0 he1 hb0 hb1).mono ?_
  rw [HE.out]
  rintro x w1 ⟨rfl, hx1⟩
  have B1 : Blk w1 w.heap.size #[.string ⟨#[]⟩, .int .u64 e, .int .u64 b, .int .u8 k] 34 := (Blk.new _ _ _).ext hx1
  have c0 := B1.cell 0
  have c1 := B1.cell 1
  have c2 := B1.cell 2
  have c3 := B1.cell 3
  simp at c0 c1 c2 c3
  have hlt := B1.lt
  have hlt2 : w.heap.size < w1.heap.size + 1 := by omega
  go_wp2_with fail
  generalize hw2 : w1.alloc (Obj.cells #[.string ⟨#[100, 101, 102, 97, 117, 108, 116]⟩] 9) = w2
  have hx2 : Ext w1 w2 := by rw [← hw2]; exact (Ext.refl _).alloc _
  have L2 : Blk w2 w1.heap.size #[.string ⟨#[100, 101, 102, 97, 117, 108, 116]⟩] 9 := by rw [← hw2]; exact Blk.new' _ _ _ (by simp)
  have B2 := B1.ext hx2
  have d1 : w2.cell? ⟨w.heap.size, 1, none⟩ = some (.int .u64 e) := B2.cell 1
  have d2 : w2.cell? ⟨w.heap.size, 2, none⟩ = some (.int .u64 b) := B2.cell 2
  have d3 : w2.cell? ⟨w.heap.size, 3, none⟩ = some (.int .u8 k) := B2.cell 3
  clear c0 c1 c2 c3 hw2 hlt hlt2 B2
  have HB1 := Lib.hid B1
  have HX := Lib.hid (hx1.trans hx2)
  clear B1 hx1 hx2
  go_region_held3 (fun w' => w'.cell? ⟨w.heap.size, 1, none⟩ = some (.int .u64 e) ∧ w'.cell? ⟨w.heap.size, 2, none⟩ = some (.int .u64 b) ∧ w'.cell? ⟨w.heap.size, 3, none⟩ = some (.int .u8 k) ∧ Blk w' w1.heap.size #[.string ⟨#[100, 101, 102, 97, 117, 108, 116]⟩] 9 ∧ Ext w2 w')
    (first
      | exact ⟨d1, d2, d3, L2.drew, (Ext.refl _).drew⟩
      | exact ⟨Ext.keep (Ext.alloc (Ext.drew (Ext.refl _)) _) d1, Ext.keep (Ext.alloc (Ext.drew (Ext.refl _)) _) d2, Ext.keep (Ext.alloc (Ext.drew (Ext.refl _)) _) d3, L2.drew.alloc _, (Ext.refl _).drew.alloc _⟩
      | ((try go_split_ands); refine ⟨Ext.keep hx ?_, Ext.keep hx ?_, Ext.keep hx ?_, Blk.ext ?_ hx, Ext.trans ?_ hx⟩ <;> with_reducible assumption)
      | ((try go_split_ands); refine ⟨Ext.keep hgrow ?_, Ext.keep hgrow ?_, Ext.keep hgrow ?_, Blk.ext ?_ hgrow, Ext.trans ?_ hgrow⟩ <;> with_reducible assumption)
      | ((try go_split_ands); refine ⟨Ext.keep (Ext.alloc (Ext.refl _) _) ?_, Ext.keep (Ext.alloc (Ext.refl _) _) ?_, Ext.keep (Ext.alloc (Ext.refl _) _) ?_, Blk.alloc ?_ _, Ext.alloc ?_ _⟩ <;> with_reducible assumption))
    (first
      | ((try go_split_ands)
         refine step_append_grows rfl (.tmp 14) (.tmp 24) 31 rfl 9 i0 (.string ⟨#[]⟩) 1 16 Try.underlying31 HI.out.1 HI.out.2.1 HI.out.2.2.1 HI.out.2.2.2 rfl (by decide) (some ⟨w1.heap.size, 0, none⟩) 1 1 [.string ⟨#[100, 101, 102, 97, 117, 108, 116]⟩] rfl (by simp) rfl (holds_some (C := [.string ⟨#[100, 101, 102, 97, 117, 108, 116]⟩]) (t := 9) (by with_reducible assumption)) ⟨_, 0, none⟩ 3 3 [.string Se, .string Sb, .string Sk] rfl rfl (holds_blk (C := [.string Se, .string Sb, .string Sk]) (Blk.new _ _ _)) (one_strs [Se, Sb, Sk]) (by decide) (by decide) (by decide) ?_
         rintro v' w' hown hgrow0
         have hgrow := Ext.grown (Ext.refl _) hgrow0
         clear hgrow0)
      | (go_at_call 28; with_reducible refine (digit_Print e _ he0 he1).mono ?_; rw [HSe.out]; rintro x w' ⟨rfl, hx⟩)
      | (go_at_call 28; with_reducible refine (digit_Print b _ hb0 hb1).mono ?_; rw [HSb.out]; rintro x w' ⟨rfl, hx⟩)
      | (go_at_call 46; refine (rule_Name k _).mono ?_; rw [HSk.out]; rintro x w' ⟨rfl, hx⟩))
  go_wp2
  have hxf := HX.out
  go_split_ands
  refine bodyPost_ret (v := v') (by simp [results, Try.results29, go_sem]) rfl ⟨v', rfl, StrSlice.own [wDef, Se, Sb, Sk] hown HEACH.out, OwnS.of hown, ?_⟩
  repeat (first | with_reducible exact Ext.refl _ | with_reducible assumption | with_reducible refine Ext.alloc ?_ _ | with_reducible refine Ext.drew ?_ | (with_reducible refine Ext.setCell ?_ (by first | exact Nat.le_refl _ | (dsimp only; omega) | (simp; done) | (simp; omega)) _) | with_reducible refine Ext.trans ?_ (by with_reducible assumption))

set_option maxHeartbeats 4000000 in
set_option maxRecDepth 100000 in
theorem rule_Print_rule (p : ByteArray) (e b k : Int) (w : World) (hm : p.size ≤ maxLen) (he0 : 0 ≤ e) (he1 : e < 18446744073709551616) (hb0 : 0 ≤ b) (hb1 : b < 18446744073709551616) (h : ruleErr p e b k = 0) (hp : p ≠ ⟨#[]⟩) :
    Calls Try.prog 29 #[.agg #[.string p, .int .u64 e, .int .u64 b, .int .u8 k]] w fun x w' => ∃ v, x = .returned v ∧ StrSlice w' v [wRule, p, digStr e, digStr b, nameOf k] ∧ OwnS w' v ∧ Ext w w' := by
  have hstr : (Try.prog.info? 9).map (fun i => (i.zero, i.size, i.bytes)) = some (some (.string ⟨#[]⟩), 1, 16) := by kernel_rfl
  obtain ⟨i0, hi, hz0, hz1, hz2⟩ := info_parts hstr
  have ae : (digStr e).size ≤ maxLen := Nat.le_trans (dig_back e he0 he1).2.2.1 (by decide)
  have ab : (digStr b).size ≤ maxLen := Nat.le_trans (dig_back b hb0 hb1).2.2.1 (by decide)
  have ak : (nameOf k).size ≤ maxLen := Nat.le_trans (nameOf_size k) (by decide)
  have heach : ∀ s ∈ [wRule, p, digStr e, digStr b, nameOf k], s.size ≤ maxLen := by
    intro s hs
    simp only [List.mem_cons, List.not_mem_nil, or_false] at hs
    rcases hs with rfl | rfl | rfl | rfl | rfl <;> first | assumption | decide
  generalize hSe : digStr e = Se at *
  generalize hSb : digStr b = Sb at *
  generalize hSk : nameOf k = Sk at *
  have HSe := Lib.hid hSe
  have HSb := Lib.hid hSb
  have HSk := Lib.hid hSk
  have HI := Lib.hid (And.intro hi (And.intro hz0 (And.intro hz1 hz2)))
  have HEACH := Lib.hid heach
  have HE := Lib.hid h
  clear hSe hSb hSk hi hz0 hz1 hz2 hstr heach h
  have hpe2 : decide (p = ⟨#[]⟩) = false := by simpa using hp
  have hpe4 : p.toList.isEmpty = false := by
    by_cases q : p.toList.isEmpty = true
    · exact absurd (str_empty q) hp
    · simpa using q
  clear hp
  go_enter Try.func29, Try.ntmps29
  go_wp2_with fail
  refine (rule_Right _ _ _ _ _ hm he0 he1 hb0 hb1).mono ?_
  rw [HE.out]
  rintro x w1 ⟨rfl, hx1⟩
  have B1 : Blk w1 w.heap.size #[.string p, .int .u64 e, .int .u64 b, .int .u8 k] 34 := (Blk.new _ _ _).ext hx1
  have c0 := B1.cell 0
  have c1 := B1.cell 1
  have c2 := B1.cell 2
  have c3 := B1.cell 3
  simp at c0 c1 c2 c3
  have hlt := B1.lt
  have hlt2 : w.heap.size < w1.heap.size + 1 := by omega
  go_wp2_with fail
  generalize hw2 : (w1.alloc (Obj.cells #[.string ⟨#[100, 101, 102, 97, 117, 108, 116]⟩] 9)).alloc (Obj.cells #[.string ⟨#[114, 117, 108, 101]⟩, .string p] 9) = w2
  have hx2 : Ext w1 w2 := by rw [← hw2]; exact ((Ext.refl _).alloc _).alloc _
  have L2 : Blk w2 (w1.heap.size + 1) #[.string ⟨#[114, 117, 108, 101]⟩, .string p] 9 := by rw [← hw2]; exact Blk.new' _ _ _ (by simp)
  have B2 := B1.ext hx2
  have d1 : w2.cell? ⟨w.heap.size, 1, none⟩ = some (.int .u64 e) := B2.cell 1
  have d2 : w2.cell? ⟨w.heap.size, 2, none⟩ = some (.int .u64 b) := B2.cell 2
  have d3 : w2.cell? ⟨w.heap.size, 3, none⟩ = some (.int .u8 k) := B2.cell 3
  clear c0 c1 c2 c3 hw2 hlt hlt2 B2
  have HB1 := Lib.hid B1
  have HX := Lib.hid (hx1.trans hx2)
  clear B1 hx1 hx2
  go_region_held3 (fun w' => w'.cell? ⟨w.heap.size, 1, none⟩ = some (.int .u64 e) ∧ w'.cell? ⟨w.heap.size, 2, none⟩ = some (.int .u64 b) ∧ w'.cell? ⟨w.heap.size, 3, none⟩ = some (.int .u8 k) ∧ Blk w' (w1.heap.size + 1) #[.string ⟨#[114, 117, 108, 101]⟩, .string p] 9 ∧ Ext w2 w')
    (first
      | exact ⟨d1, d2, d3, L2.drew, (Ext.refl _).drew⟩
      | exact ⟨Ext.keep (Ext.alloc (Ext.drew (Ext.refl _)) _) d1, Ext.keep (Ext.alloc (Ext.drew (Ext.refl _)) _) d2, Ext.keep (Ext.alloc (Ext.drew (Ext.refl _)) _) d3, L2.drew.alloc _, (Ext.refl _).drew.alloc _⟩
      | ((try go_split_ands); refine ⟨Ext.keep hx ?_, Ext.keep hx ?_, Ext.keep hx ?_, Blk.ext ?_ hx, Ext.trans ?_ hx⟩ <;> with_reducible assumption)
      | ((try go_split_ands); refine ⟨Ext.keep hgrow ?_, Ext.keep hgrow ?_, Ext.keep hgrow ?_, Blk.ext ?_ hgrow, Ext.trans ?_ hgrow⟩ <;> with_reducible assumption)
      | ((try go_split_ands); refine ⟨Ext.keep (Ext.alloc (Ext.refl _) _) ?_, Ext.keep (Ext.alloc (Ext.refl _) _) ?_, Ext.keep (Ext.alloc (Ext.refl _) _) ?_, Blk.alloc ?_ _, Ext.alloc ?_ _⟩ <;> with_reducible assumption))
    (first
      | ((try go_split_ands)
         refine step_append_grows rfl (.tmp 14) (.tmp 24) 31 rfl 9 i0 (.string ⟨#[]⟩) 1 16 Try.underlying31 HI.out.1 HI.out.2.1 HI.out.2.2.1 HI.out.2.2.2 rfl (by decide) (some ⟨(w1.heap.size + 1), 0, none⟩) 2 2 [.string ⟨#[114, 117, 108, 101]⟩, .string p] rfl (by simp) rfl (holds_some (C := [.string ⟨#[114, 117, 108, 101]⟩, .string p]) (t := 9) (by with_reducible assumption)) ⟨_, 0, none⟩ 3 3 [.string Se, .string Sb, .string Sk] rfl rfl (holds_blk (C := [.string Se, .string Sb, .string Sk]) (Blk.new _ _ _)) (one_strs [Se, Sb, Sk]) (by decide) (by decide) (by decide) ?_
         rintro v' w' hown hgrow0
         have hgrow := Ext.grown (Ext.refl _) hgrow0
         clear hgrow0)
      | (go_at_call 28; with_reducible refine (digit_Print e _ he0 he1).mono ?_; rw [HSe.out]; rintro x w' ⟨rfl, hx⟩)
      | (go_at_call 28; with_reducible refine (digit_Print b _ hb0 hb1).mono ?_; rw [HSb.out]; rintro x w' ⟨rfl, hx⟩)
      | (go_at_call 46; refine (rule_Name k _).mono ?_; rw [HSk.out]; rintro x w' ⟨rfl, hx⟩))
  go_wp2
  have hxf := HX.out
  go_split_ands
  refine bodyPost_ret (v := v') (by simp [results, Try.results29, go_sem]) rfl ⟨v', rfl, StrSlice.own [wRule, p, Se, Sb, Sk] hown HEACH.out, OwnS.of hown, ?_⟩
  repeat (first | with_reducible exact Ext.refl _ | with_reducible assumption | with_reducible refine Ext.alloc ?_ _ | with_reducible refine Ext.drew ?_ | (with_reducible refine Ext.setCell ?_ (by first | exact Nat.le_refl _ | (dsimp only; omega) | (simp; done) | (simp; omega)) _) | with_reducible refine Ext.trans ?_ (by with_reducible assumption))

theorem rule_Print (p : ByteArray) (e b k : Int) (w : World) (hm : p.size ≤ maxLen) (he0 : 0 ≤ e) (he1 : e < 18446744073709551616) (hb0 : 0 ≤ b) (hb1 : b < 18446744073709551616) :
    Calls Try.prog 29 #[.agg #[.string p, .int .u64 e, .int .u64 b, .int .u8 k]] w fun x w' => ∃ v, x = .returned v ∧ StrSlice w' v (printWords p e b k) ∧ OwnS w' v ∧ Ext w w' := by
  by_cases h : ruleErr p e b k = 0
  · by_cases hp : p = ⟨#[]⟩
    · subst hp
      have : printWords ⟨#[]⟩ e b k = [wDef, digStr e, digStr b, nameOf k] := by unfold printWords; rw [if_pos h, if_pos rfl]
      rw [this]
      exact rule_Print_def e b k w he0 he1 hb0 hb1 h
    · have : printWords p e b k = [wRule, p, digStr e, digStr b, nameOf k] := by unfold printWords; rw [if_pos h, if_neg hp]
      rw [this]
      exact rule_Print_rule p e b k w hm he0 he1 hb0 hb1 h hp
  · have : printWords p e b k = [] := by unfold printWords; rw [if_neg h]
    rw [this]
    refine (rule_Print_bad p e b k w hm he0 he1 hb0 hb1 h).mono ?_
    rintro x w' ⟨rfl, hx⟩
    exact ⟨_, rfl, ⟨⟨none, 0, rfl, fun q => absurd rfl q⟩, by simp, by simp⟩, OwnS.nil _, hx⟩

set_option maxHeartbeats 2000000 in
set_option maxRecDepth 100000 in
theorem ref11_Print_bad (p : ByteArray) (e b k : Int) (w : World) (hm : p.size ≤ maxLen) (he0 : 0 ≤ e) (he1 : e < 18446744073709551616) (hb0 : 0 ≤ b) (hb1 : b < 18446744073709551616) (h : ruleErr p e b k ≠ 0) :
    Calls Try.prog 9 #[.agg #[.string p, .int .u64 e, .int .u64 b, .int .u8 k]] w fun x w' => x = .returned (.slice none 0 0) ∧ Ext w w' := by
  generalize hE : ruleErr p e b k = E at *
  have HE := Lib.hid hE
  clear hE
  have hz : (E == 0) = false := by simpa using h
  have hz2 : decide (E = 0) = false := by simpa using h
  clear h
  go_enter Try.func9, Try.ntmps9
  go_wp2_with (go_at_call 17; refine (ref11_Right _ _ _ _ _ hm he0 he1 hb0 hb1).mono ?_; rw [HE.out]; rintro x w' ⟨rfl, hx⟩)
  go_ret
  exact ⟨rfl, (by repeat (first | with_reducible exact Ext.refl _ | with_reducible assumption | with_reducible refine Ext.alloc ?_ _ | with_reducible refine Ext.drew ?_ | (with_reducible refine Ext.setCell ?_ (by first | exact Nat.le_refl _ | (dsimp only; omega) | (simp; done) | (simp; omega)) _) | with_reducible refine Ext.trans ?_ (by with_reducible assumption)))⟩

set_option maxHeartbeats 4000000 in
set_option maxRecDepth 100000 in
theorem ref11_Print_def (e b k : Int) (w : World) (he0 : 0 ≤ e) (he1 : e < 18446744073709551616) (hb0 : 0 ≤ b) (hb1 : b < 18446744073709551616) (h : ruleErr ⟨#[]⟩ e b k = 0) :
    Calls Try.prog 9 #[.agg #[.string ⟨#[]⟩, .int .u64 e, .int .u64 b, .int .u8 k]] w fun x w' => ∃ v, x = .returned v ∧ StrSlice w' v [wDef, digStr e, digStr b, nameOf k] ∧ OwnS w' v ∧ Ext w w' := by
  have hstr : (Try.prog.info? 9).map (fun i => (i.zero, i.size, i.bytes)) = some (some (.string ⟨#[]⟩), 1, 16) := by kernel_rfl
  obtain ⟨i0, hi, hz0, hz1, hz2⟩ := info_parts hstr
  have ae : (digStr e).size ≤ maxLen := Nat.le_trans (dig_back e he0 he1).2.2.1 (by decide)
  have ab : (digStr b).size ≤ maxLen := Nat.le_trans (dig_back b hb0 hb1).2.2.1 (by decide)
  have ak : (nameOf k).size ≤ maxLen := Nat.le_trans (nameOf_size k) (by decide)
  have heach : ∀ s ∈ [wDef, digStr e, digStr b, nameOf k], s.size ≤ maxLen := by
    intro s hs
    simp only [List.mem_cons, List.not_mem_nil, or_false] at hs
    rcases hs with rfl | rfl | rfl | rfl <;> first | assumption | decide
  generalize hSe : digStr e = Se at *
  generalize hSb : digStr b = Sb at *
  generalize hSk : nameOf k = Sk at *
  have HSe := Lib.hid hSe
  have HSb := Lib.hid hSb
  have HSk := Lib.hid hSk
  have HI := Lib.hid (And.intro hi (And.intro hz0 (And.intro hz1 hz2)))
  have HEACH := Lib.hid heach
  have HE := Lib.hid h
  clear hSe hSb hSk hi hz0 hz1 hz2 hstr heach h
  go_enter Try.func9, Try.ntmps9
  go_wp2_with fail
  refine (ref11_Right _ _ _ _ _ (by decide) he0 he1 hb0 hb1).mono ?_
  rw [HE.out]
  rintro x w1 ⟨rfl, hx1⟩
  have B1 : Blk w1 w.heap.size #[.string ⟨#[]⟩, .int .u64 e, .int .u64 b, .int .u8 k] 34 := (Blk.new _ _ _).ext hx1
  have c0 := B1.cell 0
  have c1 := B1.cell 1
  have c2 := B1.cell 2
  have c3 := B1.cell 3
  simp at c0 c1 c2 c3
  have hlt := B1.lt
  have hlt2 : w.heap.size < w1.heap.size + 1 := by omega
  go_wp2_with fail
  generalize hw2 : w1.alloc (Obj.cells #[.string ⟨#[100, 101, 102, 97, 117, 108, 116]⟩] 9) = w2
  have hx2 : Ext w1 w2 := by rw [← hw2]; exact (Ext.refl _).alloc _
  have L2 : Blk w2 w1.heap.size #[.string ⟨#[100, 101, 102, 97, 117, 108, 116]⟩] 9 := by rw [← hw2]; exact Blk.new' _ _ _ (by simp)
  have B2 := B1.ext hx2
  have d1 : w2.cell? ⟨w.heap.size, 1, none⟩ = some (.int .u64 e) := B2.cell 1
  have d2 : w2.cell? ⟨w.heap.size, 2, none⟩ = some (.int .u64 b) := B2.cell 2
  have d3 : w2.cell? ⟨w.heap.size, 3, none⟩ = some (.int .u8 k) := B2.cell 3
  clear c0 c1 c2 c3 hw2 hlt hlt2 B2
  have HB1 := Lib.hid B1
  have HX := Lib.hid (hx1.trans hx2)
  clear B1 hx1 hx2
  go_region_held3 (fun w' => w'.cell? ⟨w.heap.size, 1, none⟩ = some (.int .u64 e) ∧ w'.cell? ⟨w.heap.size, 2, none⟩ = some (.int .u64 b) ∧ w'.cell? ⟨w.heap.size, 3, none⟩ = some (.int .u8 k) ∧ Blk w' w1.heap.size #[.string ⟨#[100, 101, 102, 97, 117, 108, 116]⟩] 9 ∧ Ext w2 w')
    (first
      | exact ⟨d1, d2, d3, L2.drew, (Ext.refl _).drew⟩
      | exact ⟨Ext.keep (Ext.alloc (Ext.drew (Ext.refl _)) _) d1, Ext.keep (Ext.alloc (Ext.drew (Ext.refl _)) _) d2, Ext.keep (Ext.alloc (Ext.drew (Ext.refl _)) _) d3, L2.drew.alloc _, (Ext.refl _).drew.alloc _⟩
      | ((try go_split_ands); refine ⟨Ext.keep hx ?_, Ext.keep hx ?_, Ext.keep hx ?_, Blk.ext ?_ hx, Ext.trans ?_ hx⟩ <;> with_reducible assumption)
      | ((try go_split_ands); refine ⟨Ext.keep hgrow ?_, Ext.keep hgrow ?_, Ext.keep hgrow ?_, Blk.ext ?_ hgrow, Ext.trans ?_ hgrow⟩ <;> with_reducible assumption)
      | ((try go_split_ands); refine ⟨Ext.keep (Ext.alloc (Ext.refl _) _) ?_, Ext.keep (Ext.alloc (Ext.refl _) _) ?_, Ext.keep (Ext.alloc (Ext.refl _) _) ?_, Blk.alloc ?_ _, Ext.alloc ?_ _⟩ <;> with_reducible assumption))
    (first
      | ((try go_split_ands)
         refine step_append_grows rfl (.tmp 14) (.tmp 24) 31 rfl 9 i0 (.string ⟨#[]⟩) 1 16 Try.underlying31 HI.out.1 HI.out.2.1 HI.out.2.2.1 HI.out.2.2.2 rfl (by decide) (some ⟨w1.heap.size, 0, none⟩) 1 1 [.string ⟨#[100, 101, 102, 97, 117, 108, 116]⟩] rfl (by simp) rfl (holds_some (C := [.string ⟨#[100, 101, 102, 97, 117, 108, 116]⟩]) (t := 9) (by with_reducible assumption)) ⟨_, 0, none⟩ 3 3 [.string Se, .string Sb, .string Sk] rfl rfl (holds_blk (C := [.string Se, .string Sb, .string Sk]) (Blk.new _ _ _)) (one_strs [Se, Sb, Sk]) (by decide) (by decide) (by decide) ?_
         rintro v' w' hown hgrow0
         have hgrow := Ext.grown (Ext.refl _) hgrow0
         clear hgrow0)
      | (go_at_call 8; with_reducible refine (ref03_Print e _ he0 he1).mono ?_; rw [HSe.out]; rintro x w' ⟨rfl, rfl⟩)
      | (go_at_call 8; with_reducible refine (ref03_Print b _ hb0 hb1).mono ?_; rw [HSb.out]; rintro x w' ⟨rfl, rfl⟩)
      | (go_at_call 18; refine (ref11_Name k _).mono ?_; rw [HSk.out]; rintro x w' ⟨rfl, rfl⟩))
  go_wp2
  have hxf := HX.out
  go_split_ands
  refine bodyPost_ret (v := v') (by simp [results, Try.results9, go_sem]) rfl ⟨v', rfl, StrSlice.own [wDef, Se, Sb, Sk] hown HEACH.out, OwnS.of hown, ?_⟩
  repeat (first | with_reducible exact Ext.refl _ | with_reducible assumption | with_reducible refine Ext.alloc ?_ _ | with_reducible refine Ext.drew ?_ | (with_reducible refine Ext.setCell ?_ (by first | exact Nat.le_refl _ | (dsimp only; omega) | (simp; done) | (simp; omega)) _) | with_reducible refine Ext.trans ?_ (by with_reducible assumption))

set_option maxHeartbeats 4000000 in
set_option maxRecDepth 100000 in
theorem ref11_Print_rule (p : ByteArray) (e b k : Int) (w : World) (hm : p.size ≤ maxLen) (he0 : 0 ≤ e) (he1 : e < 18446744073709551616) (hb0 : 0 ≤ b) (hb1 : b < 18446744073709551616) (h : ruleErr p e b k = 0) (hp : p ≠ ⟨#[]⟩) :
    Calls Try.prog 9 #[.agg #[.string p, .int .u64 e, .int .u64 b, .int .u8 k]] w fun x w' => ∃ v, x = .returned v ∧ StrSlice w' v [wRule, p, digStr e, digStr b, nameOf k] ∧ OwnS w' v ∧ Ext w w' := by
  have hstr : (Try.prog.info? 9).map (fun i => (i.zero, i.size, i.bytes)) = some (some (.string ⟨#[]⟩), 1, 16) := by kernel_rfl
  obtain ⟨i0, hi, hz0, hz1, hz2⟩ := info_parts hstr
  have ae : (digStr e).size ≤ maxLen := Nat.le_trans (dig_back e he0 he1).2.2.1 (by decide)
  have ab : (digStr b).size ≤ maxLen := Nat.le_trans (dig_back b hb0 hb1).2.2.1 (by decide)
  have ak : (nameOf k).size ≤ maxLen := Nat.le_trans (nameOf_size k) (by decide)
  have heach : ∀ s ∈ [wRule, p, digStr e, digStr b, nameOf k], s.size ≤ maxLen := by
    intro s hs
    simp only [List.mem_cons, List.not_mem_nil, or_false] at hs
    rcases hs with rfl | rfl | rfl | rfl | rfl <;> first | assumption | decide
  generalize hSe : digStr e = Se at *
  generalize hSb : digStr b = Sb at *
  generalize hSk : nameOf k = Sk at *
  have HSe := Lib.hid hSe
  have HSb := Lib.hid hSb
  have HSk := Lib.hid hSk
  have HI := Lib.hid (And.intro hi (And.intro hz0 (And.intro hz1 hz2)))
  have HEACH := Lib.hid heach
  have HE := Lib.hid h
  clear hSe hSb hSk hi hz0 hz1 hz2 hstr heach h
  have hpe2 : decide (p = ⟨#[]⟩) = false := by simpa using hp
  have hpe4 : p.toList.isEmpty = false := by
    by_cases q : p.toList.isEmpty = true
    · exact absurd (str_empty q) hp
    · simpa using q
  clear hp
  go_enter Try.func9, Try.ntmps9
  go_wp2_with fail
  refine (ref11_Right _ _ _ _ _ hm he0 he1 hb0 hb1).mono ?_
  rw [HE.out]
  rintro x w1 ⟨rfl, hx1⟩
  have B1 : Blk w1 w.heap.size #[.string p, .int .u64 e, .int .u64 b, .int .u8 k] 34 := (Blk.new _ _ _).ext hx1
  have c0 := B1.cell 0
  have c1 := B1.cell 1
  have c2 := B1.cell 2
  have c3 := B1.cell 3
  simp at c0 c1 c2 c3
  have hlt := B1.lt
  have hlt2 : w.heap.size < w1.heap.size + 1 := by omega
  go_wp2_with fail
  generalize hw2 : (w1.alloc (Obj.cells #[.string ⟨#[100, 101, 102, 97, 117, 108, 116]⟩] 9)).alloc (Obj.cells #[.string ⟨#[114, 117, 108, 101]⟩, .string p] 9) = w2
  have hx2 : Ext w1 w2 := by rw [← hw2]; exact ((Ext.refl _).alloc _).alloc _
  have L2 : Blk w2 (w1.heap.size + 1) #[.string ⟨#[114, 117, 108, 101]⟩, .string p] 9 := by rw [← hw2]; exact Blk.new' _ _ _ (by simp)
  have B2 := B1.ext hx2
  have d1 : w2.cell? ⟨w.heap.size, 1, none⟩ = some (.int .u64 e) := B2.cell 1
  have d2 : w2.cell? ⟨w.heap.size, 2, none⟩ = some (.int .u64 b) := B2.cell 2
  have d3 : w2.cell? ⟨w.heap.size, 3, none⟩ = some (.int .u8 k) := B2.cell 3
  clear c0 c1 c2 c3 hw2 hlt hlt2 B2
  have HB1 := Lib.hid B1
  have HX := Lib.hid (hx1.trans hx2)
  clear B1 hx1 hx2
  go_region_held3 (fun w' => w'.cell? ⟨w.heap.size, 1, none⟩ = some (.int .u64 e) ∧ w'.cell? ⟨w.heap.size, 2, none⟩ = some (.int .u64 b) ∧ w'.cell? ⟨w.heap.size, 3, none⟩ = some (.int .u8 k) ∧ Blk w' (w1.heap.size + 1) #[.string ⟨#[114, 117, 108, 101]⟩, .string p] 9 ∧ Ext w2 w')
    (first
      | exact ⟨d1, d2, d3, L2.drew, (Ext.refl _).drew⟩
      | exact ⟨Ext.keep (Ext.alloc (Ext.drew (Ext.refl _)) _) d1, Ext.keep (Ext.alloc (Ext.drew (Ext.refl _)) _) d2, Ext.keep (Ext.alloc (Ext.drew (Ext.refl _)) _) d3, L2.drew.alloc _, (Ext.refl _).drew.alloc _⟩
      | ((try go_split_ands); refine ⟨Ext.keep hx ?_, Ext.keep hx ?_, Ext.keep hx ?_, Blk.ext ?_ hx, Ext.trans ?_ hx⟩ <;> with_reducible assumption)
      | ((try go_split_ands); refine ⟨Ext.keep hgrow ?_, Ext.keep hgrow ?_, Ext.keep hgrow ?_, Blk.ext ?_ hgrow, Ext.trans ?_ hgrow⟩ <;> with_reducible assumption)
      | ((try go_split_ands); refine ⟨Ext.keep (Ext.alloc (Ext.refl _) _) ?_, Ext.keep (Ext.alloc (Ext.refl _) _) ?_, Ext.keep (Ext.alloc (Ext.refl _) _) ?_, Blk.alloc ?_ _, Ext.alloc ?_ _⟩ <;> with_reducible assumption))
    (first
      | ((try go_split_ands)
         refine step_append_grows rfl (.tmp 14) (.tmp 24) 31 rfl 9 i0 (.string ⟨#[]⟩) 1 16 Try.underlying31 HI.out.1 HI.out.2.1 HI.out.2.2.1 HI.out.2.2.2 rfl (by decide) (some ⟨(w1.heap.size + 1), 0, none⟩) 2 2 [.string ⟨#[114, 117, 108, 101]⟩, .string p] rfl (by simp) rfl (holds_some (C := [.string ⟨#[114, 117, 108, 101]⟩, .string p]) (t := 9) (by with_reducible assumption)) ⟨_, 0, none⟩ 3 3 [.string Se, .string Sb, .string Sk] rfl rfl (holds_blk (C := [.string Se, .string Sb, .string Sk]) (Blk.new _ _ _)) (one_strs [Se, Sb, Sk]) (by decide) (by decide) (by decide) ?_
         rintro v' w' hown hgrow0
         have hgrow := Ext.grown (Ext.refl _) hgrow0
         clear hgrow0)
      | (go_at_call 8; with_reducible refine (ref03_Print e _ he0 he1).mono ?_; rw [HSe.out]; rintro x w' ⟨rfl, rfl⟩)
      | (go_at_call 8; with_reducible refine (ref03_Print b _ hb0 hb1).mono ?_; rw [HSb.out]; rintro x w' ⟨rfl, rfl⟩)
      | (go_at_call 18; refine (ref11_Name k _).mono ?_; rw [HSk.out]; rintro x w' ⟨rfl, rfl⟩))
  go_wp2
  have hxf := HX.out
  go_split_ands
  refine bodyPost_ret (v := v') (by simp [results, Try.results9, go_sem]) rfl ⟨v', rfl, StrSlice.own [wRule, p, Se, Sb, Sk] hown HEACH.out, OwnS.of hown, ?_⟩
  repeat (first | with_reducible exact Ext.refl _ | with_reducible assumption | with_reducible refine Ext.alloc ?_ _ | with_reducible refine Ext.drew ?_ | (with_reducible refine Ext.setCell ?_ (by first | exact Nat.le_refl _ | (dsimp only; omega) | (simp; done) | (simp; omega)) _) | with_reducible refine Ext.trans ?_ (by with_reducible assumption))

theorem ref11_Print (p : ByteArray) (e b k : Int) (w : World) (hm : p.size ≤ maxLen) (he0 : 0 ≤ e) (he1 : e < 18446744073709551616) (hb0 : 0 ≤ b) (hb1 : b < 18446744073709551616) :
    Calls Try.prog 9 #[.agg #[.string p, .int .u64 e, .int .u64 b, .int .u8 k]] w fun x w' => ∃ v, x = .returned v ∧ StrSlice w' v (printWords p e b k) ∧ OwnS w' v ∧ Ext w w' := by
  by_cases h : ruleErr p e b k = 0
  · by_cases hp : p = ⟨#[]⟩
    · subst hp
      have : printWords ⟨#[]⟩ e b k = [wDef, digStr e, digStr b, nameOf k] := by unfold printWords; rw [if_pos h, if_pos rfl]
      rw [this]
      exact ref11_Print_def e b k w he0 he1 hb0 hb1 h
    · have : printWords p e b k = [wRule, p, digStr e, digStr b, nameOf k] := by unfold printWords; rw [if_pos h, if_neg hp]
      rw [this]
      exact ref11_Print_rule p e b k w hm he0 he1 hb0 hb1 h hp
  · have : printWords p e b k = [] := by unfold printWords; rw [if_neg h]
    rw [this]
    refine (ref11_Print_bad p e b k w hm he0 he1 hb0 hb1 h).mono ?_
    rintro x w' ⟨rfl, hx⟩
    exact ⟨_, rfl, ⟨⟨none, 0, rfl, fun q => absurd rfl q⟩, by simp, by simp⟩, OwnS.nil _, hx⟩

end Go.Proofs.Ytknlojlcahgnoaa

/- Plain: a rule that is printed is read. The plain part of the walks of RuleEdge and RuleBack, without their law's functions. -/
namespace Go.Proofs.Ytknlojlcahgnoaa
open Go.RowKit
set_option linter.unusedVariables false
set_option linter.unusedSimpArgs false

theorem numErr_digits {n : Int} (h0 : 0 < n) (h1 : n < 18446744073709551616) (q : Int) : numErr (digStr n) q = 0 := by
  obtain ⟨e1, e2, -, -⟩ := dig_back n (by omega) h1
  unfold numErr
  rw [e1, e2, if_neg (by omega)]
theorem digNum_digits {n : Int} (h0 : 0 ≤ n) (h1 : n < 18446744073709551616) : digNum (digStr n) = n := (dig_back n h0 h1).2.1
theorem satMul_le {a b : Int} (h : a * b ≤ 4611686018427387904) : satMul a b = a * b := satMul_lt (by omega)
theorem capOk_yes {a b : Int} (h : a * b ≤ 4611686018427387904) : capOk a b = true := by
  unfold capOk; rw [satMul_le h]; simpa using h
theorem capOk_no {a b : Int} (h : 4611686018427387904 < a * b) : capOk a b = false := by
  unfold capOk satMul
  split <;> simp <;> omega
theorem burstErr_yes {a b : Int} (hb0 : 0 < b) (hb1 : b < 18446744073709551616) (h : a * b ≤ 4611686018427387904) : burstErr a (digStr b) = 0 := by
  unfold burstErr
  rw [numErr_digits hb0 hb1, digNum_digits (by omega) hb1, capOk_yes h, if_neg (by simp)]
theorem burstErr_no {a b : Int} (hb0 : 0 < b) (hb1 : b < 18446744073709551616) (h : 4611686018427387904 < a * b) : burstErr a (digStr b) = 26 := by
  unfold burstErr
  rw [numErr_digits hb0 hb1, digNum_digits (by omega) hb1, capOk_no h, if_pos (by simp)]
theorem kindErr_name {k : Int} (h : 1 ≤ k ∧ k ≤ 3) : kindErr (kindOf (nameOf k)) = 0 := by
  rw [(kind_name_yes k h).1]; unfold kindErr; rw [if_pos (by omega)]
theorem parse_default {a b k : Int} (ha0 : 0 < a) (ha1 : a < 18446744073709551616) (hb0 : 0 < b) (hb1 : b < 18446744073709551616) (h : a * b ≤ 4611686018427387904) (hk : 1 ≤ k ∧ k ≤ 3) :
    ruleParse [wDef, digStr a, digStr b, nameOf k] = ⟨⟨#[]⟩, a, b, k, 0, 0⟩ := by
  rw [ruleParse_def]
  show parse3 _ _ _ = _
  unfold parse3
  rw [numErr_digits ha0 ha1, digNum_digits (by omega) ha1, burstErr_yes hb0 hb1 h, kindErr_name hk, digNum_digits (by omega) hb1, (kind_name_yes k hk).1]
  simp
theorem ruleErr_parts {p : ByteArray} {e b k : Int} (h : ruleErr p e b k = 0) : prefOk p = true ∧ 0 < e ∧ 0 < b ∧ capOk e b = true ∧ rightKind k = true := by
  unfold ruleErr at h
  by_cases h1 : prefOk p = false
  · rw [if_pos h1] at h; omega
  by_cases h2 : 0 < e
  · by_cases h3 : 0 < b
    · by_cases h4 : capOk e b = false
      · rw [if_neg h1, if_neg (by simpa using h2), if_neg (by simpa using h3), if_pos h4] at h; omega
      · by_cases h5 : rightKind k = false
        · rw [if_neg h1, if_neg (by simpa using h2), if_neg (by simpa using h3), if_neg h4, if_pos h5] at h; omega
        · exact ⟨by simpa using h1, h2, h3, by simpa using h4, by simpa using h5⟩
    · rw [if_neg h1, if_neg (by simpa using h2), if_pos h3] at h; omega
  · rw [if_neg h1, if_pos h2] at h; omega
theorem ruleErr_yes {p : ByteArray} {e b k : Int} (h1 : prefOk p = true) (h2 : 0 < e) (h3 : 0 < b) (h4 : capOk e b = true) (h5 : rightKind k = true) : ruleErr p e b k = 0 := by
  unfold ruleErr
  rw [if_neg (by simp [h1]), if_neg (by simpa using h2), if_neg (by simpa using h3), if_neg (by simp [h4]), if_neg (by simp [h5])]
theorem capOk_mul {e b : Int} (he : 0 ≤ e) (hb : 0 ≤ b) (h : capOk e b = true) : e * b ≤ 4611686018427387904 := by
  unfold capOk satMul at h
  split at h
  · simpa using h
  · simp at h
/-- what is printed is read -/
theorem print_parse {p : ByteArray} {e b k : Int} (h : ruleErr p e b k = 0) (he1 : e < 18446744073709551616) (hb1 : b < 18446744073709551616) :
    ruleParse (printWords p e b k) = ⟨p, e, b, k, 0, 0⟩ := by
  obtain ⟨h1, h2, h3, h4, h5⟩ := ruleErr_parts h
  have hk : 1 ≤ k ∧ k ≤ 3 := by unfold rightKind at h5; simpa using h5
  have hm := capOk_mul (by omega) (by omega) h4
  unfold printWords
  rw [if_pos h]
  by_cases hp : p = ⟨#[]⟩
  · rw [if_pos hp, parse_default h2 he1 h3 hb1 hm hk, hp]
  · rw [if_neg hp, ruleParse_rule]
    have hko : keyOk p = true := by
      unfold prefOk at h1
      have : p.size ≠ 0 := by
        intro q
        apply hp
        apply str_empty
        rw [disEmpty_iff]; simpa using q
      simpa [this] using h1
    show parse4 _ _ _ _ = _
    unfold parse4
    rw [numErr_digits h2 he1, digNum_digits (by omega) he1, burstErr_yes h3 hb1 hm, kindErr_name hk, digNum_digits (by omega) hb1, (kind_name_yes k hk).1]
    simp [prefErr, hko]

end Go.Proofs.Ytknlojlcahgnoaa
