/- Walk: tollerlaw15.known. Walk: tollerlaw15.KeepSame. Walk: tollerlaw15.KeepNothing. Walk: tollerlaw15.KeepTwice. -/
import Derived.Test.YtfglpejbgfmojaaGreatG48
import Derived.Test.YtfglpejbgfmojaaGreatG41
import Derived.Test.YtfglpejbgfmojaaGreatG47
import Derived.Test.YtfglpejbgfmojaaGreatG7
import Derived.Test.YtfglpejbgfmojaaGreatG49

/- Walk: tollerlaw15.known. -/
namespace Go.Proofs.YtfglpejbgfmojaaGreat
open Go.RowKit
set_option linter.unusedVariables false
set_option linter.unusedSimpArgs false

/-- a slice of one rule -/
theorem RulesAt.one {w : World} {b : Nat} {t : TypeId} {r : Rl} (h : Blk w b r.cells t) (c : Nat) : RulesAt w (.slice (some ⟨b, 0, none⟩) 1 c) [r] := by
  refine ⟨_, _, rfl, fun _ => ⟨b, 0, rfl, fun j hj i hi => ?_⟩⟩
  have hj0 : j = 0 := by simp at hj; omega
  subst hj0
  have := h.cell i
  simpa using this
theorem Act.of' {clock : Int} {l : SMap} {c : Nat} (g : Gd clock l) (hok : TabOk l c) (hu : Rises (slotsOf clock l)) (hn0 : 0 ≤ clock) (hn1 : clock < 18446744073709551616) : Act clock (slotsOf clock l) := by
  have hm : ∀ s ∈ slotsOf clock l, s ∈ actives clock l := fun s hs => (slotsOf_perm clock l).mem_iff.1 hs
  refine ⟨hu, fun s hs => ?_, fun s hs => ?_, fun s hs => ?_, fun s hs => ?_⟩
  · obtain ⟨n, hn⟩ := actives_mem (hm s hs); exact hok.ok _ hn
  · obtain ⟨n, hn⟩ := actives_mem (hm s hs); exact g.good _ hn
  · obtain ⟨n, hn⟩ := actives_mem (hm s hs); exact g.key _ hn
  · have h := hm s hs
    unfold actives at h
    obtain ⟨⟨a, b⟩, h1, rfl⟩ := List.mem_map.1 h
    obtain ⟨h2, h3⟩ := List.mem_filter.1 h1
    exact (drained_iff (hok.ok _ h2) hn0 hn1).1 (by simpa using h3)
theorem rlOk_of {p : ByteArray} {e b k : Int} (hp : p.size ≤ maxLen) (he0 : 0 ≤ e) (he1 : e < 18446744073709551616) (hb0 : 0 ≤ b) (hb1 : b < 18446744073709551616) (hk0 : 0 ≤ k) (hk1 : k < 256) : RlOk ⟨p, e, b, k⟩ := ⟨hp, he0, he1, hb0, hb1, hk0, hk1⟩

def k15_s : Slot := ⟨⟨#[97]⟩, ⟨#[]⟩, 10, 2, 1, 1, 10, 0⟩
def k15_l : SMap := [(k15_s, 0)]
theorem k15_cg : cgL 1 0 [] 0 ⟨#[97]⟩ ⟨#[]⟩ 10 2 1 1 = k15_l := by kernel_rfl
theorem k15_act : actives 0 k15_l = [k15_s] := by kernel_rfl
theorem k15_slots : slotsOf 0 k15_l = [k15_s] := by unfold slotsOf; rw [k15_act, List.mergeSort_singleton]
theorem k15_gd : Gd 0 k15_l := by rw [← k15_cg]; exact Gd.nil.charge (by decide) 1 0 ⟨#[97]⟩ ⟨#[]⟩ 10 2 1 1 (by decide) (Or.inl (by decide))
theorem k15_A {c : Nat} (h : TabOk k15_l c) : Act 0 [k15_s] := by
  have := Act.of' k15_gd h (by rw [k15_slots]; exact List.pairwise_singleton _ _) (by decide) (by decide)
  rw [k15_slots] at this
  exact this
theorem bestR_one (r : Rl) (k : List UInt8) (h : r.key <+: k) : bestR [r] k = some r := by
  have := bestR_snoc [] r k
  rw [List.nil_append] at this
  rw [this, if_pos ⟨h, fun x hx => by cases hx⟩]
def k15_r : Rl := ⟨⟨#[]⟩, 10, 2, 3⟩
def k15_q : Rl := ⟨⟨#[]⟩, 10, 3, 3⟩
theorem k15_yes : keptL 0 [k15_r] [k15_s] = [keptS 0 k15_r k15_s] ∧ goneL [k15_r] [k15_s] = [] := by
  have h : staysR [k15_r] k15_s = some k15_r := by
    unfold staysR
    rw [bestR_one k15_r k15_s.key.data.toList (show ([] : List UInt8) <+: _ from List.nil_prefix)]
    exact if_pos ⟨rfl, rfl, by kernel_rfl⟩
  unfold keptL goneL
  simp [h]
theorem k15_no : keptL 0 [k15_q] [k15_s] = [] ∧ goneL [k15_q] [k15_s] = [k15_s] := by
  refine none_stays fun s hs => ?_
  obtain rfl := List.mem_singleton.1 hs
  unfold staysR
  rw [bestR_one k15_q k15_s.key.data.toList (show ([] : List UInt8) <+: _ from List.nil_prefix)]
  exact if_neg (by rintro ⟨-, h, -⟩; exact absurd h (by decide))
theorem k15_none : goneL [] [k15_s] = [k15_s] := (none_stays (clock := 0) fun s hs => rfl).2

set_option maxHeartbeats 2000000 in
set_option maxRecDepth 100000 in
theorem law15_known (w : World) :
    Calls Tryz.prog 11 #[] w fun x w' => x = .returned (.bool true) ∧ Ext w w' := by
  go_enter Tryz.func11, Tryz.ntmps11
  go_wp2_with fail
  refine (table_New 1 w (by decide) (by decide)).mono ?_
  rw [show mostOf 1 = 1 from by decide]
  rintro x w1 ⟨rfl, ht1, hx1⟩
  have HT1 := Lib.hid ht1
  have hsz := ht1.blk.lt
  clear ht1
  go_wp2_with fail
  refine (charge_any (w.heap.size + 1) w.heap.size 0 ⟨#[97]⟩ ⟨#[]⟩ 1 0 10 2 1 1 [] _ HT1.out (TabOk.nil 0) (by decide) (by decide) (by decide) (by decide) (by decide) (by decide) (by decide) (by decide) (by decide) (by decide) (by decide) (by decide)).mono ?_
  rw [k15_cg]
  generalize cgC 1 0 [] 0 ⟨#[97]⟩ ⟨#[]⟩ 10 2 1 1 = c3
  generalize cgV 1 0 [] ⟨#[97]⟩ ⟨#[]⟩ 10 2 1 1 = v3
  rintro x w3 ⟨rfl, ht3, hok3, hx3⟩
  have HT3 := Lib.hid (show HasTab w3 (w.heap.size + 1) w.heap.size c3 1 0 k15_l [k15_s] from ⟨ht3, hok3, k15_slots, k15_A hok3, by decide, by decide, by decide⟩)
  have hxx : Ext w w3 := hx1.own2 (hx3.to2m (w.heap.size + 1)) (Nat.le_succ _) (Nat.le_refl _)
  have HX3 := Lib.hid hxx
  clear ht3 hok3 hx3 hxx hx1 HT1
  have b4 := Blk.new w3 #[.string ⟨#[]⟩, .int .u64 10, .int .u64 2, .int .u8 3] 29
  have hx4 : Ext w3 (w3.alloc (.cells #[.string ⟨#[]⟩, .int .u64 10, .int .u64 2, .int .u8 3] 29)) := (Ext.refl w3).alloc _
  go_wp2_with fail
  generalize w3.alloc (.cells #[.string ⟨#[]⟩, .int .u64 10, .int .u64 2, .int .u8 3] 29) = w4 at *
  refine (keep_KeepA _ (HT3.out.ext hx4) 1 _ [k15_r] (RulesAt.one (r := k15_r) b4 _) (fun r hr => by obtain rfl := List.mem_singleton.1 hr; exact rlOk_of (by decide) (by decide) (by decide) (by decide) (by decide) (by decide) (by decide)) (by decide) (by decide) (by decide)).mono ?_
  rw [k15_yes.1, k15_yes.2]
  rintro x w5 ⟨hx5, ⟨-, t5, m5, c5, l5, rfl, hT5⟩ | ⟨h, -⟩⟩
  rotate_left
  · exact absurd (by decide) h
  have HT5 := Lib.hid hT5
  have HX5 := Lib.hid (hx4.trans hx5)
  clear hT5 hx4 hx5 b4
  have b6 := Blk.new w5 #[.string ⟨#[]⟩, .int .u64 10, .int .u64 3, .int .u8 3] 29
  have hx6 : Ext w5 (w5.alloc (.cells #[.string ⟨#[]⟩, .int .u64 10, .int .u64 3, .int .u8 3] 29)) := (Ext.refl w5).alloc _
  go_wp2_with fail
  generalize w5.alloc (.cells #[.string ⟨#[]⟩, .int .u64 10, .int .u64 3, .int .u8 3] 29) = w6 at *
  refine (keep_KeepA _ (HT3.out.ext (HX5.out.trans hx6)) 1 _ [k15_q] (RulesAt.one (r := k15_q) b6 _) (fun r hr => by obtain rfl := List.mem_singleton.1 hr; exact rlOk_of (by decide) (by decide) (by decide) (by decide) (by decide) (by decide) (by decide)) (by decide) (by decide) (by decide)).mono ?_
  rw [k15_no.1, k15_no.2]
  rintro x w7 ⟨hx7, ⟨-, t7, m7, c7, l7, rfl, hT7⟩ | ⟨h, -⟩⟩
  rotate_left
  · exact absurd (by decide) h
  have HT7 := Lib.hid hT7
  have HX7 := Lib.hid (hx6.trans hx7)
  clear hT7 hx6 hx7 b6
  go_wp2_with fail
  refine (table_ActiveA _ (HT5.out.ext HX7.out)).mono ?_
  rintro x w8 ⟨rfl, hx8⟩
  go_wp2_with fail
  refine (table_ActiveA _ (HT7.out.ext hx8)).mono ?_
  rintro x w9 ⟨rfl, hx9⟩
  go_wp2_with fail
  have hx59 := HX7.out.trans (hx8.trans hx9)
  refine (keep_LostA _ (HT3.out.ext (HX5.out.trans hx59)) 0 _ [] (ElemsAt.nil _ _ _) (fun r hr => by cases hr) (by decide)).mono ?_
  rw [k15_none]
  rintro x w10 ⟨v, rfl, hr10, hx10⟩
  obtain ⟨a, cp, rfl⟩ := hr10.size
  go_wp2
  go_ret
  exact ⟨rfl, HX3.out.trans (HX5.out.trans (hx59.trans hx10))⟩
end Go.Proofs.YtfglpejbgfmojaaGreat

/- Walk: tollerlaw15.KeepSame. -/
namespace Go.Proofs.YtfglpejbgfmojaaGreat
open Go.RowKit
set_option linter.unusedVariables false
set_option linter.unusedSimpArgs false

theorem same_at {e b e' b' : Int} {Z : Bool} (h : (decide (e = e') && decide (b = b')) = Z) (p p' : ByteArray) (k k' : Int) (w : World) :
    Calls Tryz.prog 12 #[.agg #[.string p, .int .u64 e, .int .u64 b, .int .u8 k], .agg #[.string p', .int .u64 e', .int .u64 b', .int .u8 k']] w fun x w' => x = .returned (.bool Z) ∧ Ext w w' := by
  rw [← h]
  exact keep_Same p p' e b k e' b' k' w
theorem up_ne {e : Int} (h0 : 0 ≤ e) (h1 : e < 18446744073709551616) : e ≠ IntKind.u64.wrap (e + 1) := by
  rw [wrap_u64]; omega

set_option maxHeartbeats 2000000 in
set_option maxRecDepth 100000 in
theorem keepSame_walk (p : ByteArray) (e b k : Int) (p2 : ByteArray) (e2 b2 k2 : Int) (q : Int) (w : World) (he0 : 0 ≤ e) (he1 : e < 18446744073709551616) (hb0 : 0 ≤ b) (hb1 : b < 18446744073709551616) (hq0 : 0 ≤ q) (hq1 : q < 256) :
    Calls Tryz.prog 7 #[.agg #[.string p, .int .u64 e, .int .u64 b, .int .u8 k], .agg #[.string p2, .int .u64 e2, .int .u64 b2, .int .u8 k2], .int .u8 q] w fun x w' => x = .returned (.bool true) ∧ Ext w w' := by
  have hq : q.tmod 2 = q % 2 := Int.tmod_eq_emod_of_nonneg hq0
  have hqw : IntKind.u8.wrap (q % 2) = q % 2 := by simp [IntKind.wrap, IntKind.signed, IntKind.bits]; omega
  obtain ⟨Z, hZ⟩ : ∃ Z, (decide (e = e2) && decide (b = b2)) = Z := ⟨_, rfl⟩
  have hZ' : (decide (e2 = e) && decide (b2 = b)) = Z := by rw [← hZ]; simp [eq_comm]
  obtain ⟨d1, d2, hd, hd0, hd1⟩ : ∃ d1 d2 : Int, (decide (e = d1) && decide (b = d2)) = false ∧ (q % 2 = 0 → IntKind.u64.wrap (e + 1) = d1 ∧ b = d2) ∧ (q % 2 ≠ 0 → e = d1 ∧ IntKind.u64.wrap (b + 1) = d2) := by
    by_cases h : q % 2 = 0
    · exact ⟨IntKind.u64.wrap (e + 1), b, by simp [up_ne he0 he1], fun _ => ⟨rfl, rfl⟩, fun n => absurd h n⟩
    · exact ⟨e, IntKind.u64.wrap (b + 1), by simp [up_ne hb0 hb1], fun n => absurd n h, fun _ => ⟨rfl, rfl⟩⟩
  have HAC := Lib.hid (fun W => same_at (e := e) (b := b) (e' := e) (b' := b) (Z := true) (by simp) p p2 k k2 W)
  have HCA := Lib.hid (fun W => same_at (e := e) (b := b) (e' := e) (b' := b) (Z := true) (by simp) p2 p k2 k W)
  have HAD := Lib.hid (fun W => same_at hd p p k k W)
  have HAB := Lib.hid (fun W => same_at hZ p p2 k k2 W)
  have HBA := Lib.hid (fun W => same_at hZ' p2 p k2 k W)
  have hZZ : (Z == Z) = true := by cases Z <;> rfl
  have HD := Lib.hid (And.intro hd0 hd1)
  clear hZ hZ' hd hd0 hd1 he0 he1 hb0 hb1
  have bA := ((Blk.new w #[.string p, .int .u64 e, .int .u64 b, .int .u8 k] 29).alloc (.cells #[.string p2, .int .u64 e2, .int .u64 b2, .int .u8 k2] 29)).alloc (.cells #[.string p, .int .u64 e, .int .u64 b, .int .u8 k] 29)
  have bB := (Blk.new' (w.alloc (.cells #[.string p, .int .u64 e, .int .u64 b, .int .u8 k] 29)) #[.string p2, .int .u64 e2, .int .u64 b2, .int .u8 k2] 29 (b := w.heap.size + 1) (by simp)).alloc (.cells #[.string p, .int .u64 e, .int .u64 b, .int .u8 k] 29)
  have bC := Blk.new' ((w.alloc (.cells #[.string p, .int .u64 e, .int .u64 b, .int .u8 k] 29)).alloc (.cells #[.string p2, .int .u64 e2, .int .u64 b2, .int .u8 k2] 29)) #[.string p, .int .u64 e, .int .u64 b, .int .u8 k] 29 (b := w.heap.size + 1 + 1) (by simp)
  have hx0 : Ext w (((w.alloc (.cells #[.string p, .int .u64 e, .int .u64 b, .int .u8 k] 29)).alloc (.cells #[.string p2, .int .u64 e2, .int .u64 b2, .int .u8 k2] 29)).alloc (.cells #[.string p, .int .u64 e, .int .u64 b, .int .u8 k] 29)) := (((Ext.refl w).alloc _).alloc _).alloc _
  go_enter Tryz.func7, Tryz.ntmps7
  go_upto_region 2 with fail
  generalize ((w.alloc (.cells #[.string p, .int .u64 e, .int .u64 b, .int .u8 k] 29)).alloc (.cells #[.string p2, .int .u64 e2, .int .u64 b2, .int .u8 k2] 29)).alloc (.cells #[.string p, .int .u64 e, .int .u64 b, .int .u8 k] 29) = w1 at *
  generalize hS : w.heap.size = S at *
  have cB := bB.cell
  have cC := bC.cell
  have fC := bC.free
  have lC := bC.lt
  go_upto_region 4 with fail
  have bC2 : Blk ((w1.setCell ⟨S + 1 + 1, 0, none⟩ (.string p2)).setCell ⟨S + 1 + 1, 3, none⟩ (.int .u8 k2)) (S + 1 + 1) #[.string p2, .int .u64 e, .int .u64 b, .int .u8 k2] 29 := (bC.set 0 _).set 3 _
  have bA2 := (bA.other (a := ⟨S + 1 + 1, 0, none⟩) (by dsimp only; omega) (.string p2)).other (a := ⟨S + 1 + 1, 3, none⟩) (by dsimp only; omega) (.int .u8 k2)
  have bB2 := (bB.other (a := ⟨S + 1 + 1, 0, none⟩) (by dsimp only; omega) (.string p2)).other (a := ⟨S + 1 + 1, 3, none⟩) (by dsimp only; omega) (.int .u8 k2)
  have hx2 := (hx0.setCell (p := ⟨S + 1 + 1, 0, none⟩) (by dsimp only; omega) (.string p2)).setCell (p := ⟨S + 1 + 1, 3, none⟩) (by dsimp only; omega) (.int .u8 k2)
  generalize (w1.setCell ⟨S + 1 + 1, 0, none⟩ (.string p2)).setCell ⟨S + 1 + 1, 3, none⟩ (.int .u8 k2) = w2 at *
  clear bA bB bC cB cC fC lC hx0
  have cA := bA2.cell
  have bD := Blk.new w2 #[.string p, .int .u64 e, .int .u64 b, .int .u8 k] 29
  have hxd : Ext w2 (w2.alloc (.cells #[.string p, .int .u64 e, .int .u64 b, .int .u8 k] 29)) := (Ext.refl w2).alloc _
  go_upto_region 5 with fail
  have bA3 := bA2.ext hxd
  have bB3 := bB2.ext hxd
  have bC3 := bC2.ext hxd
  have hx3 := hx2.trans hxd
  have hlC := bC2.lt
  generalize w2.alloc (.cells #[.string p, .int .u64 e, .int .u64 b, .int .u8 k] 29) = w3 at *
  generalize hD : w2.heap.size = D at *
  clear bA2 bB2 bC2 cA hxd hx2
  have cD := bD.cell
  have fD := bD.free
  have lD := bD.lt
  have HA := Lib.hid bA3
  have HB := Lib.hid bB3
  have HC := Lib.hid bC3
  have HX := Lib.hid hx3
  clear bA3 bB3 bC3 hx3
  by_cases h2 : q % 2 = 0
  · obtain ⟨rfl, rfl⟩ := HD.out.1 h2
    go_upto_region 8 with fail
    generalize IntKind.u64.wrap (e + 1) = d1 at *
    have bD4 : Blk (w3.setCell ⟨D, 1, none⟩ (.int .u64 d1)) D #[.string p, .int .u64 d1, .int .u64 b, .int .u8 k] 29 := bD.set 1 _
    have bA4 := HA.out.other (a := ⟨D, 1, none⟩) (by dsimp only; omega) (.int .u64 d1)
    have bB4 := HB.out.other (a := ⟨D, 1, none⟩) (by dsimp only; omega) (.int .u64 d1)
    have bC4 := HC.out.other (a := ⟨D, 1, none⟩) (by dsimp only; omega) (.int .u64 d1)
    have hx4 := HX.out.setCell (p := ⟨D, 1, none⟩) (by dsimp only; omega) (.int .u64 d1)
    generalize w3.setCell ⟨D, 1, none⟩ (.int .u64 d1) = w4 at *
    clear cD fD lD bD
    go_region_held3 (fun w' => (∀ o, w'.cell? ⟨S, o, none⟩ = (#[.string p, .int .u64 e, .int .u64 b, .int .u8 k] : Array Value)[o]?) ∧ (∀ o, w'.cell? ⟨S + 1, o, none⟩ = (#[.string p2, .int .u64 e2, .int .u64 b2, .int .u8 k2] : Array Value)[o]?) ∧ (∀ o, w'.cell? ⟨S + 1 + 1, o, none⟩ = (#[.string p2, .int .u64 e, .int .u64 b, .int .u8 k2] : Array Value)[o]?) ∧ (∀ o, w'.cell? ⟨D, o, none⟩ = (#[.string p, .int .u64 d1, .int .u64 b, .int .u8 k] : Array Value)[o]?) ∧ Ext w4 w')
      (((try go_split_ands); refine ⟨Blk.cell (bA4.ext ?_), Blk.cell (bB4.ext ?_), Blk.cell (bC4.ext ?_), Blk.cell (bD4.ext ?_), ?_⟩ <;> (repeat (first | with_reducible exact Ext.refl _ | with_reducible assumption | with_reducible refine Ext.alloc ?_ _ | with_reducible refine Ext.drew ?_ | (with_reducible refine Ext.setCell ?_ (by first | exact Nat.le_refl _ | (dsimp only; omega) | (simp; done) | (simp; omega)) _) | with_reducible refine Ext.trans ?_ (by with_reducible assumption)))))
      (first
        | (go_at_call 11; (with_reducible refine (law15_known _).mono ?_); rintro x w5 ⟨rfl, hx5⟩)
        | (go_at_call 12; (with_reducible refine (HAC.out _).mono ?_); rintro x w6 ⟨rfl, hx6⟩)
        | (go_at_call 12; (with_reducible refine (HCA.out _).mono ?_); rintro x w7 ⟨rfl, hx7⟩)
        | (go_at_call 12; (with_reducible refine (HAD.out _).mono ?_); rintro x w8 ⟨rfl, hx8⟩)
        | (go_at_call 12; (with_reducible refine (HAB.out _).mono ?_); rintro x w9 ⟨rfl, hx9⟩)
        | (go_at_call 12; (with_reducible refine (HBA.out _).mono ?_); rintro x w10 ⟨rfl, hx10⟩))
    all_goals
      have hxf : Ext w4 w10 := (by repeat (first | with_reducible exact Ext.refl _ | with_reducible assumption | with_reducible refine Ext.alloc ?_ _ | with_reducible refine Ext.drew ?_ | (with_reducible refine Ext.setCell ?_ (by first | exact Nat.le_refl _ | (dsimp only; omega) | (simp; done) | (simp; omega)) _) | with_reducible refine Ext.trans ?_ (by with_reducible assumption)))
      go_wp2
      go_ret
      exact ⟨rfl, hx4.trans hxf⟩
  · obtain ⟨rfl, rfl⟩ := HD.out.2 h2
    go_upto_region 8 with fail
    generalize IntKind.u64.wrap (b + 1) = d2 at *
    have bD4 : Blk (w3.setCell ⟨D, 2, none⟩ (.int .u64 d2)) D #[.string p, .int .u64 e, .int .u64 d2, .int .u8 k] 29 := bD.set 2 _
    have bA4 := HA.out.other (a := ⟨D, 2, none⟩) (by dsimp only; omega) (.int .u64 d2)
    have bB4 := HB.out.other (a := ⟨D, 2, none⟩) (by dsimp only; omega) (.int .u64 d2)
    have bC4 := HC.out.other (a := ⟨D, 2, none⟩) (by dsimp only; omega) (.int .u64 d2)
    have hx4 := HX.out.setCell (p := ⟨D, 2, none⟩) (by dsimp only; omega) (.int .u64 d2)
    generalize w3.setCell ⟨D, 2, none⟩ (.int .u64 d2) = w4 at *
    clear cD fD lD bD
    go_region_held3 (fun w' => (∀ o, w'.cell? ⟨S, o, none⟩ = (#[.string p, .int .u64 e, .int .u64 b, .int .u8 k] : Array Value)[o]?) ∧ (∀ o, w'.cell? ⟨S + 1, o, none⟩ = (#[.string p2, .int .u64 e2, .int .u64 b2, .int .u8 k2] : Array Value)[o]?) ∧ (∀ o, w'.cell? ⟨S + 1 + 1, o, none⟩ = (#[.string p2, .int .u64 e, .int .u64 b, .int .u8 k2] : Array Value)[o]?) ∧ (∀ o, w'.cell? ⟨D, o, none⟩ = (#[.string p, .int .u64 e, .int .u64 d2, .int .u8 k] : Array Value)[o]?) ∧ Ext w4 w')
      (((try go_split_ands); refine ⟨Blk.cell (bA4.ext ?_), Blk.cell (bB4.ext ?_), Blk.cell (bC4.ext ?_), Blk.cell (bD4.ext ?_), ?_⟩ <;> (repeat (first | with_reducible exact Ext.refl _ | with_reducible assumption | with_reducible refine Ext.alloc ?_ _ | with_reducible refine Ext.drew ?_ | (with_reducible refine Ext.setCell ?_ (by first | exact Nat.le_refl _ | (dsimp only; omega) | (simp; done) | (simp; omega)) _) | with_reducible refine Ext.trans ?_ (by with_reducible assumption)))))
      (first
        | (go_at_call 11; (with_reducible refine (law15_known _).mono ?_); rintro x w5 ⟨rfl, hx5⟩)
        | (go_at_call 12; (with_reducible refine (HAC.out _).mono ?_); rintro x w6 ⟨rfl, hx6⟩)
        | (go_at_call 12; (with_reducible refine (HCA.out _).mono ?_); rintro x w7 ⟨rfl, hx7⟩)
        | (go_at_call 12; (with_reducible refine (HAD.out _).mono ?_); rintro x w8 ⟨rfl, hx8⟩)
        | (go_at_call 12; (with_reducible refine (HAB.out _).mono ?_); rintro x w9 ⟨rfl, hx9⟩)
        | (go_at_call 12; (with_reducible refine (HBA.out _).mono ?_); rintro x w10 ⟨rfl, hx10⟩))
    all_goals
      have hxf : Ext w4 w10 := (by repeat (first | with_reducible exact Ext.refl _ | with_reducible assumption | with_reducible refine Ext.alloc ?_ _ | with_reducible refine Ext.drew ?_ | (with_reducible refine Ext.setCell ?_ (by first | exact Nat.le_refl _ | (dsimp only; omega) | (simp; done) | (simp; omega)) _) | with_reducible refine Ext.trans ?_ (by with_reducible assumption)))
      go_wp2
      go_ret
      exact ⟨rfl, hx4.trans hxf⟩
end Go.Proofs.YtfglpejbgfmojaaGreat

/- Walk: tollerlaw15.KeepNothing. -/
namespace Go.Proofs.YtfglpejbgfmojaaGreat
open Go.RowKit
set_option linter.unusedVariables false
set_option linter.unusedSimpArgs false

theorem law15_start (q : Int) (v : Value) (ds : List Deed) (w : World) (hv : DeedSlice w v ds) (hq0 : 0 ≤ q) (hq1 : q < 256) :
    Calls Tryz.prog 17 #[.int .u8 q, v] w fun x w' => ∃ t m c most clock l xs a n cp, x = .returned (.tuple #[.pointer (some ⟨t, 0, none⟩), .agg #[.int .i64 most, .int .u64 clock, .slice a n cp]]) ∧ HasTab w' t m c most clock l xs ∧ xs.length ≤ 30 ∧ (∀ s ∈ xs, s.e < 20000 ∨ 90000 < s.e) ∧ Ext w w' := by
  refine (law15_BothG q v ds w hv hq0 hq1).mono ?_
  rintro x w' ⟨B, c, clock, l, v', all, rfl, hB, hrel, hx, hg⟩
  obtain ⟨a, cp, rfl⟩ := hrel.row.size
  have e := hrel.rel.slots hrel.ok hrel.n0 hrel.n1
  have hn := Act.eNum hg
  rw [e] at hn
  exact ⟨_, _, c, _, clock, l, _, a, _, cp, rfl, hrel.has hg, Nat.le_trans (hrel.has hg).lenX hrel.lenL, hn, hx⟩

set_option maxHeartbeats 2000000 in
set_option maxRecDepth 100000 in
theorem keepNothing_walk (q : Int) (v : Value) (ds : List Deed) (ev bu : Int) (w : World) (hq0 : 0 ≤ q) (hq1 : q < 256) (hv : DeedSlice w v ds) (he0 : 0 ≤ ev) (he1 : ev < 65536) (hb0 : 0 ≤ bu) (hb1 : bu < 65536) :
    Calls Tryz.prog 6 #[.int .u8 q, v, .int .u16 ev, .int .u16 bu] w fun x w' => x = .returned (.bool true) ∧ Ext w w' := by
  have HV := Lib.hid hv
  obtain ⟨a, c, rfl, -⟩ := hv.form
  clear hv
  have hw1 : IntKind.u64.wrap ev = ev := by rw [wrap_u64]; omega
  have hw2 : IntKind.u64.wrap (20000 + ev) = 20000 + ev := by rw [wrap_u64]; omega
  have hw3 : IntKind.u64.wrap bu = bu := by rw [wrap_u64]; omega
  have hw4 : IntKind.u64.wrap (1 + bu) = 1 + bu := by rw [wrap_u64]; omega
  go_enter Tryz.func6, Tryz.ntmps6
  go_wp2_with fail
  refine (law14_Heavy _ ds _ HV.out).mono ?_
  rintro x w1 ⟨⟨n, rfl⟩, hx1⟩
  by_cases hn : 400 < n
  · go_wp2_with fail
    refine (law15_known _).mono ?_
    rintro x w2 ⟨rfl, hx2⟩
    go_wp2
    go_ret
    exact ⟨rfl, hx1.trans hx2⟩
  go_wp2_with fail
  refine (law15_start q _ ds _ (HV.out.ext hx1) hq0 hq1).mono ?_
  rintro x w2 ⟨t, m, cc, most, clock, l, xs, a3, n3, c3, rfl, hT, hlen, hnum, hx2⟩
  have hst1 : ∀ s ∈ xs, staysR [⟨⟨#[]⟩, 20000 + ev, 1 + bu, 1⟩] s = none := fun s hs => stays_other fun r hr => by
    obtain rfl := List.mem_singleton.1 hr
    have := hnum s hs
    dsimp only
    omega
  have HN1 := Lib.hid (none_stays (clock := clock) hst1)
  have HN2 := Lib.hid (none_stays (clock := clock) (rs := []) (xs := xs) fun s hs => rfl)
  have HT := Lib.hid hT
  have HX := Lib.hid (hx1.trans hx2)
  have hn0 := hT.n0
  have hn1 := hT.n1
  clear hT hnum hst1 hx1 hx2
  go_wp2_with fail
  have hxG : Ext w2 (w2.alloc (.cells #[.int .i64 most, .int .u64 clock, .slice a3 n3 c3] 42)) := (Ext.refl w2).alloc _
  generalize w2.alloc (.cells #[.int .i64 most, .int .u64 clock, .slice a3 n3 c3] 42) = wG at *
  refine (table_SlotsA _ (HT.out.ext hxG)).mono ?_
  rintro x w3 ⟨vs, rfl, hs3, hx3⟩
  obtain ⟨az, cz, rfl⟩ := hs3.size
  have HS3 := Lib.hid hs3
  have HX3 := Lib.hid (hxG.trans hx3)
  clear hs3 hxG hx3
  have bR := (Blk.new w3 #[.string ⟨#[]⟩, .int .u64 (20000 + ev), .int .u64 (1 + bu), .int .u8 1] 29).alloc (.cells #[.int .i64 9, .slice (some ⟨w3.heap.size, 0, none⟩) 1 1] 25)
  have bP := Blk.new' (w3.alloc (.cells #[.string ⟨#[]⟩, .int .u64 (20000 + ev), .int .u64 (1 + bu), .int .u8 1] 29)) #[.int .i64 9, .slice (some ⟨w3.heap.size, 0, none⟩) 1 1] 25 (b := w3.heap.size + 1) (by simp)
  have hx4 : Ext w3 ((w3.alloc (.cells #[.string ⟨#[]⟩, .int .u64 (20000 + ev), .int .u64 (1 + bu), .int .u8 1] 29)).alloc (.cells #[.int .i64 9, .slice (some ⟨w3.heap.size, 0, none⟩) 1 1] 25)) := ((Ext.refl w3).alloc _).alloc _
  go_upto_region 8 with fail
  generalize (w3.alloc (.cells #[.string ⟨#[]⟩, .int .u64 (20000 + ev), .int .u64 (1 + bu), .int .u8 1] 29)).alloc (.cells #[.int .i64 9, .slice (some ⟨w3.heap.size, 0, none⟩) 1 1] 25) = w4 at *
  have cP := bP.cell
  have HR := Lib.hid (RulesAt.one (r := ⟨⟨#[]⟩, 20000 + ev, 1 + bu, 1⟩) bR 1)
  have HX4 := Lib.hid (HX3.out.trans hx4)
  have HX34 := Lib.hid hx4
  clear bR bP hx4
  go_wp2_with fail
  refine (keep_KeepA _ (HT.out.ext HX4.out) 9 _ [⟨⟨#[]⟩, 20000 + ev, 1 + bu, 1⟩] HR.out (fun r hr => by obtain rfl := List.mem_singleton.1 hr; exact rlOk_of (by decide) (by omega) (by omega) (by omega) (by omega) (by decide) (by decide)) (show 1 ≤ maxLen by decide) (by decide) (by decide)).mono ?_
  rw [HN1.out.1, HN1.out.2]
  rintro x w5 ⟨hx5, ⟨-, t5, m5, c5, l5, rfl, hT5⟩ | ⟨h, -⟩⟩
  rotate_left
  · exact absurd (by decide) h
  have HT5 := Lib.hid hT5
  have HX5 := Lib.hid hx5
  clear hT5 hx5 cP
  go_wp2_with fail
  refine (keep_KeepA _ (HT.out.ext (HX4.out.trans HX5.out)) 9 _ [] (ElemsAt.nil _ _ _) (fun r hr => by cases hr) (by decide) (by decide) (by decide)).mono ?_
  rw [HN2.out.1, HN2.out.2]
  rintro x w6 ⟨hx6, ⟨-, t6, m6, c6, l6, rfl, hT6⟩ | ⟨h, -⟩⟩
  rotate_left
  · exact absurd (by decide) h
  have HT6 := Lib.hid hT6
  have HX6 := Lib.hid hx6
  clear hT6 hx6
  go_wp2_with fail
  refine (law15_known _).mono ?_
  rintro x w7 ⟨rfl, hx7⟩
  go_wp2_with fail
  refine (table_ActiveA _ (HT5.out.ext (HX6.out.trans hx7))).mono ?_
  rintro x w8 ⟨rfl, hx8⟩
  go_wp2_with fail
  refine (table_ActiveA _ (HT6.out.ext (hx7.trans hx8))).mono ?_
  rintro x w9 ⟨rfl, hx9⟩
  have hx59 := HX6.out.trans (hx7.trans (hx8.trans hx9))
  have hx49 := HX5.out.trans hx59
  go_wp2_with fail
  refine (table_SlotsA _ (HT.out.ext (HX4.out.trans hx49))).mono ?_
  rintro x w10 ⟨v10, rfl, hs10, hx10⟩
  obtain ⟨a10, c10, rfl⟩ := hs10.size
  go_wp2_with fail
  refine (ref14_Same_yes _ _ xs _ hs10 (HS3.out.ext (HX34.out.trans (hx49.trans hx10))) (by omega)).mono ?_
  rintro x w11 ⟨rfl, hx11⟩
  go_wp2
  go_ret
  exact ⟨rfl, HX.out.trans (HX4.out.trans (hx49.trans (hx10.trans hx11)))⟩
end Go.Proofs.YtfglpejbgfmojaaGreat

/- Walk: tollerlaw15.KeepTwice. -/
namespace Go.Proofs.YtfglpejbgfmojaaGreat
open Go.RowKit
set_option linter.unusedVariables false
set_option linter.unusedSimpArgs false

theorem keepErr_ok {most : Int} {n : Nat} (h1 : 1 ≤ most) (h2 : most ≤ 1000000) (h3 : (n : Int) ≤ most) : keepErr most n = 0 := by
  unfold keepErr
  rw [if_neg (by omega), if_neg (by omega)]
theorem keep_KeepY {t m c : Nat} {most clock : Int} {l : SMap} {xs : List Slot} (w : World) (h : HasTab w t m c most clock l xs) (most' : Int) (rv : Value) (rs : List Rl) (hr : RulesAt w rv rs) (hro : ∀ r ∈ rs, RlOk r) (hrl : rs.length ≤ maxLen)
    (h1 : 1 ≤ most') (h2 : most' ≤ 1000000) (h3 : ((keptL clock rs xs).length : Int) ≤ most') :
    Calls Tryz.prog 20 #[.pointer (some ⟨t, 0, none⟩), .agg #[.int .i64 most', rv]] w fun x w' => ∃ t m c l, x = .returned (.tuple #[.pointer (some ⟨t, 0, none⟩), .int .i64 ((goneL rs xs).length : Int), .int .u16 0]) ∧ HasTab w' t m c most' clock l (keptL clock rs xs) ∧ Ext w w' := by
  refine (keep_KeepA w h most' rv rs hr hro hrl (by omega) (by omega)).mono ?_
  rintro x w' ⟨hx, ⟨-, t', m', c', l', rfl, hT⟩ | ⟨hn, -⟩⟩
  · exact ⟨t', m', c', l', rfl, hT, hx⟩
  · exact absurd (keepErr_ok h1 h2 h3) hn

set_option maxHeartbeats 2000000 in
set_option maxRecDepth 100000 in
theorem keepTwice_walk (q : Int) (v : Value) (ds : List Deed) (mq : Int) (cv : Value) (cs : List UInt8) (w : World) (hq0 : 0 ≤ q) (hq1 : q < 256) (hv : DeedSlice w v ds) (hm0 : 0 ≤ mq) (hm1 : mq < 256) (hc : ByteSlice w cv cs) :
    Calls Tryz.prog 5 #[.int .u8 q, v, .int .u8 mq, cv] w fun x w' => x = .returned (.bool true) ∧ Ext w w' := by
  have HV := Lib.hid hv
  have HC := Lib.hid hc
  obtain ⟨a, c, rfl, -⟩ := hv.form
  obtain ⟨ca, cc', rfl, -⟩ := hc.form
  clear hv hc
  go_enter Tryz.func5, Tryz.ntmps5
  go_wp2_with fail
  refine (law14_Heavy _ ds _ HV.out).mono ?_
  rintro x w1 ⟨⟨n, rfl⟩, hx1⟩
  by_cases hn : 400 < n
  · go_wp2_with fail
    refine (law15_known _).mono ?_
    rintro x w2 ⟨rfl, hx2⟩
    go_wp2
    go_ret
    exact ⟨rfl, hx1.trans hx2⟩
  go_wp2_with fail
  refine (law15_start q _ ds _ (HV.out.ext hx1) hq0 hq1).mono ?_
  rintro x w2 ⟨t, m, cc, most, clock, l, xs, a3, n3, c3, rfl, hT, hlen, -, hx2⟩
  have HT := Lib.hid hT
  have HX := Lib.hid (hx1.trans hx2)
  have hn0 := hT.n0
  have hn1 := hT.n1
  have HTW := Lib.hid (fun rs => hT.act.twice (rs := rs) hT.n0 (by omega))
  clear hT hx1 hx2
  go_wp2_with fail
  have hxG : Ext w2 (w2.alloc (.cells #[.int .i64 most, .int .u64 clock, .slice a3 n3 c3] 42)) := (Ext.refl w2).alloc _
  generalize w2.alloc (.cells #[.int .i64 most, .int .u64 clock, .slice a3 n3 c3] 42) = wG at *
  refine (law15_Rules mq _ cs _ (by assumption) (by assumption) (HC.out.ext (HX.out.trans hxG))).mono ?_
  rintro x w3 ⟨m3, rv, rs, rfl, hm31, hm39, hR, hro, hrl, hx3⟩
  obtain ⟨ra, rc, rfl⟩ := hR.size
  have hkl := keptL_len clock rs xs
  have hml : (9 : Nat) ≤ maxLen := by decide
  have bP := Blk.new w3 #[.int .i64 50, .slice ra rs.length rc] 25
  have hx4 : Ext w3 (w3.alloc (.cells #[.int .i64 50, .slice ra rs.length rc] 25)) := (Ext.refl w3).alloc _
  have HRO := Lib.hid hro
  go_upto_region 8 with fail
  generalize w3.alloc (.cells #[.int .i64 50, .slice ra rs.length rc] 25) = w4 at *
  have cP : ∀ o, w4.cell? ⟨w3.heap.size, o, none⟩ = (#[.int .i64 50, .slice ra rs.length rc] : Array Value)[o]? := bP.cell
  have HR := Lib.hid (hR.ext Rl.size4 hx4)
  have HP := Lib.hid bP
  have HX4 := Lib.hid (hxG.trans (hx3.trans hx4))
  clear hR hx4 hx3 hxG hro bP
  go_wp2_with fail
  refine (keep_KeepY _ (HT.out.ext HX4.out) 50 _ rs HR.out HRO.out (by omega) (by decide) (by decide) (by omega)).mono ?_
  rintro x w6 ⟨t6, m6, c6, l6, rfl, hT6, hx6⟩
  have HT6 := Lib.hid hT6
  have cP6 : ∀ o, w6.cell? ⟨w3.heap.size, o, none⟩ = (#[.int .i64 50, .slice ra rs.length rc] : Array Value)[o]? := (HP.out.ext hx6).cell
  have hkl2 := keptL_len clock rs (keptL clock rs xs)
  have HX6 := Lib.hid hx6
  clear hT6 cP
  go_wp2_with fail
  refine (keep_KeepY _ HT6.out 50 _ rs (HR.out.ext Rl.size4 HX6.out) HRO.out (by omega) (by decide) (by decide) (by omega)).mono ?_
  rw [(HTW.out rs).1, (HTW.out rs).2]
  rintro x w7 ⟨t7, m7, c7, l7, rfl, hT7, hx7⟩
  have HT7 := Lib.hid hT7
  have HX7 := Lib.hid hx7
  clear hT7 hx7 hx6 cP6
  go_wp2_with fail
  refine (law15_known _).mono ?_
  rintro x w8 ⟨rfl, hx8⟩
  go_wp2_with fail
  refine (table_SlotsA _ (HT6.out.ext (HX7.out.trans hx8))).mono ?_
  rintro x w9 ⟨v9, rfl, hs9, hx9⟩
  obtain ⟨a9, c9, rfl⟩ := hs9.size
  go_wp2_with fail
  refine (table_SlotsA _ (HT7.out.ext (hx8.trans hx9))).mono ?_
  rintro x w10 ⟨v10, rfl, hs10, hx10⟩
  obtain ⟨a10, c10, rfl⟩ := hs10.size
  go_wp2_with fail
  refine (ref14_Same_yes _ _ (keptL clock rs xs) _ (hs9.ext hx10) hs10 (by omega)).mono ?_
  rintro x w11 ⟨rfl, hx11⟩
  have hx611 := HX7.out.trans (hx8.trans (hx9.trans (hx10.trans hx11)))
  have cP11 : ∀ o, w11.cell? ⟨w3.heap.size, o, none⟩ = (#[.int .i64 50, .slice ra rs.length rc] : Array Value)[o]? := ((HP.out.ext HX6.out).ext hx611).cell
  go_wp2_with fail
  refine (keep_LostA _ (HT6.out.ext hx611) 50 _ rs (HR.out.ext Rl.size4 (HX6.out.trans hx611)) HRO.out (by omega)).mono ?_
  rw [(HTW.out rs).2]
  rintro x w12 ⟨v12, rfl, hr12, hx12⟩
  obtain ⟨a12, c12, rfl⟩ := hr12.size
  go_wp2
  go_ret
  exact ⟨rfl, HX.out.trans (HX4.out.trans (HX6.out.trans (hx611.trans hx12)))⟩
end Go.Proofs.YtfglpejbgfmojaaGreat
