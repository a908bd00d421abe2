/- Walk: tollerlaw15.known. -/
import Derived.Test.YtfglpejbgfmojaaGreatG50
import Derived.Test.YtfglpejbgfmojaaGreatG41

/- Walk: tollerlaw15.known. -/
namespace Go.Proofs.YtfglpejbgfmojaaGreat
open Go.RowKit
set_option linter.unusedVariables false
set_option linter.unusedSimpArgs false

/-- a slice of one rule -/
theorem RulesAt.one {w : World} {b : Nat} {t : TypeId} {r : Rl} (h : Blk w b r.cells t) (c : Nat) : RulesAt w (.slice (some ⟨b, 0, none⟩) 1 c) [r] := by
  refine ⟨_, _, rfl, fun _ => ⟨b, 0, rfl, fun j hj i hi => ?_⟩⟩
  have hj0 : j = 0 := by simp at hj; omega
  subst hj0
  have := h.cell i
  simpa using this
theorem Act.of' {clock : Int} {l : SMap} {c : Nat} (g : Gd clock l) (hok : TabOk l c) (hu : Rises (slotsOf clock l)) (hn0 : 0 ≤ clock) (hn1 : clock < 18446744073709551616) : Act clock (slotsOf clock l) := by
  have hm : ∀ s ∈ slotsOf clock l, s ∈ actives clock l := fun s hs => (slotsOf_perm clock l).mem_iff.1 hs
  refine ⟨hu, fun s hs => ?_, fun s hs => ?_, fun s hs => ?_, fun s hs => ?_⟩
  · obtain ⟨n, hn⟩ := actives_mem (hm s hs); exact hok.ok _ hn
  · obtain ⟨n, hn⟩ := actives_mem (hm s hs); exact g.good _ hn
  · obtain ⟨n, hn⟩ := actives_mem (hm s hs); exact g.key _ hn
  · have h := hm s hs
    unfold actives at h
    obtain ⟨⟨a, b⟩, h1, rfl⟩ := List.mem_map.1 h
    obtain ⟨h2, h3⟩ := List.mem_filter.1 h1
    exact (drained_iff (hok.ok _ h2) hn0 hn1).1 (by simpa using h3)
theorem rlOk_of {p : ByteArray} {e b k : Int} (hp : p.size ≤ maxLen) (he0 : 0 ≤ e) (he1 : e < 18446744073709551616) (hb0 : 0 ≤ b) (hb1 : b < 18446744073709551616) (hk0 : 0 ≤ k) (hk1 : k < 256) : RlOk ⟨p, e, b, k⟩ := ⟨hp, he0, he1, hb0, hb1, hk0, hk1⟩

def k15_s : Slot := ⟨⟨#[97]⟩, ⟨#[]⟩, 10, 2, 1, 1, 10, 0⟩
def k15_l : SMap := [(k15_s, 0)]
theorem k15_cg : cgL 1 0 [] 0 ⟨#[97]⟩ ⟨#[]⟩ 10 2 1 1 = k15_l := by kernel_rfl
theorem k15_act : actives 0 k15_l = [k15_s] := by kernel_rfl
theorem k15_slots : slotsOf 0 k15_l = [k15_s] := by unfold slotsOf; rw [k15_act, List.mergeSort_singleton]
theorem k15_gd : Gd 0 k15_l := by rw [← k15_cg]; exact Gd.nil.charge (by decide) 1 0 ⟨#[97]⟩ ⟨#[]⟩ 10 2 1 1 (by decide) (Or.inl (by decide))
theorem k15_A {c : Nat} (h : TabOk k15_l c) : Act 0 [k15_s] := by
  have := Act.of' k15_gd h (by rw [k15_slots]; exact List.pairwise_singleton _ _) (by decide) (by decide)
  rw [k15_slots] at this
  exact this
theorem bestR_one (r : Rl) (k : List UInt8) (h : r.key <+: k) : bestR [r] k = some r := by
  have := bestR_snoc [] r k
  rw [List.nil_append] at this
  rw [this, if_pos ⟨h, fun x hx => by cases hx⟩]
def k15_r : Rl := ⟨⟨#[]⟩, 10, 2, 3⟩
def k15_q : Rl := ⟨⟨#[]⟩, 10, 3, 3⟩
theorem k15_yes : keptL 0 [k15_r] [k15_s] = [keptS 0 k15_r k15_s] ∧ goneL [k15_r] [k15_s] = [] := by
  have h : staysR [k15_r] k15_s = some k15_r := by
    unfold staysR
    rw [bestR_one k15_r k15_s.key.data.toList (show ([] : List UInt8) <+: _ from List.nil_prefix)]
    exact if_pos ⟨rfl, rfl, by kernel_rfl⟩
  unfold keptL goneL
  simp [h]
theorem k15_no : keptL 0 [k15_q] [k15_s] = [] ∧ goneL [k15_q] [k15_s] = [k15_s] := by
  refine none_stays fun s hs => ?_
  obtain rfl := List.mem_singleton.1 hs
  unfold staysR
  rw [bestR_one k15_q k15_s.key.data.toList (show ([] : List UInt8) <+: _ from List.nil_prefix)]
  exact if_neg (by rintro ⟨-, h, -⟩; exact absurd h (by decide))
theorem k15_none : goneL [] [k15_s] = [k15_s] := (none_stays (clock := 0) fun s hs => rfl).2

set_option maxHeartbeats 2000000 in
set_option maxRecDepth 100000 in
theorem law15_known (w : World) :
    Calls Tryz.prog 11 #[] w fun x w' => x = .returned (.bool true) ∧ Ext w w' := by
  go_enter Tryz.func11, Tryz.ntmps11
  go_wp2_with fail
  refine (table_New 1 w (by decide) (by decide)).mono ?_
  rw [show mostOf 1 = 1 from by decide]
  rintro x w1 ⟨rfl, ht1, hx1⟩
  have HT1 := Lib.hid ht1
  have hsz := ht1.blk.lt
  clear ht1
  go_wp2_with fail
  refine (charge_any (w.heap.size + 1) w.heap.size 0 ⟨#[97]⟩ ⟨#[]⟩ 1 0 10 2 1 1 [] _ HT1.out (TabOk.nil 0) (by decide) (by decide) (by decide) (by decide) (by decide) (by decide) (by decide) (by decide) (by decide) (by decide) (by decide) (by decide)).mono ?_
  rw [k15_cg]
  generalize cgC 1 0 [] 0 ⟨#[97]⟩ ⟨#[]⟩ 10 2 1 1 = c3
  generalize cgV 1 0 [] ⟨#[97]⟩ ⟨#[]⟩ 10 2 1 1 = v3
  rintro x w3 ⟨rfl, ht3, hok3, hx3⟩
  have HT3 := Lib.hid (show HasTab w3 (w.heap.size + 1) w.heap.size c3 1 0 k15_l [k15_s] from ⟨ht3, hok3, k15_slots, k15_A hok3, by decide, by decide, by decide⟩)
  have hxx : Ext w w3 := hx1.own2 (hx3.to2m (w.heap.size + 1)) (Nat.le_succ _) (Nat.le_refl _)
  have HX3 := Lib.hid hxx
  clear ht3 hok3 hx3 hxx hx1 HT1
  have b4 := Blk.new w3 #[.string ⟨#[]⟩, .int .u64 10, .int .u64 2, .int .u8 3] 29
  have hx4 : Ext w3 (w3.alloc (.cells #[.string ⟨#[]⟩, .int .u64 10, .int .u64 2, .int .u8 3] 29)) := (Ext.refl w3).alloc _
  go_wp2_with fail
  generalize w3.alloc (.cells #[.string ⟨#[]⟩, .int .u64 10, .int .u64 2, .int .u8 3] 29) = w4 at *
  refine (keep_KeepA _ (HT3.out.ext hx4) 1 _ [k15_r] (RulesAt.one (r := k15_r) b4 _) (fun r hr => by obtain rfl := List.mem_singleton.1 hr; exact rlOk_of (by decide) (by decide) (by decide) (by decide) (by decide) (by decide) (by decide)) (by decide) (by decide) (by decide)).mono ?_
  rw [k15_yes.1, k15_yes.2]
  rintro x w5 ⟨hx5, ⟨-, t5, m5, c5, l5, rfl, hT5⟩ | ⟨h, -⟩⟩
  rotate_left
  · exact absurd (by decide) h
  have HT5 := Lib.hid hT5
  have HX5 := Lib.hid (hx4.trans hx5)
  clear hT5 hx4 hx5 b4
  have b6 := Blk.new w5 #[.string ⟨#[]⟩, .int .u64 10, .int .u64 3, .int .u8 3] 29
  have hx6 : Ext w5 (w5.alloc (.cells #[.string ⟨#[]⟩, .int .u64 10, .int .u64 3, .int .u8 3] 29)) := (Ext.refl w5).alloc _
  go_wp2_with fail
  generalize w5.alloc (.cells #[.string ⟨#[]⟩, .int .u64 10, .int .u64 3, .int .u8 3] 29) = w6 at *
  refine (keep_KeepA _ (HT3.out.ext (HX5.out.trans hx6)) 1 _ [k15_q] (RulesAt.one (r := k15_q) b6 _) (fun r hr => by obtain rfl := List.mem_singleton.1 hr; exact rlOk_of (by decide) (by decide) (by decide) (by decide) (by decide) (by decide) (by decide)) (by decide) (by decide) (by decide)).mono ?_
  rw [k15_no.1, k15_no.2]
  rintro x w7 ⟨hx7, ⟨-, t7, m7, c7, l7, rfl, hT7⟩ | ⟨h, -⟩⟩
  rotate_left
  · exact absurd (by decide) h
  have HT7 := Lib.hid hT7
  have HX7 := Lib.hid (hx6.trans hx7)
  clear hT7 hx6 hx7 b6
  go_wp2_with fail
  refine (table_ActiveA _ (HT5.out.ext HX7.out)).mono ?_
  rintro x w8 ⟨rfl, hx8⟩
  go_wp2_with fail
  refine (table_ActiveA _ (HT7.out.ext hx8)).mono ?_
  rintro x w9 ⟨rfl, hx9⟩
  go_wp2_with fail
  have hx59 := HX7.out.trans (hx8.trans hx9)
  refine (keep_LostA _ (HT3.out.ext (HX5.out.trans hx59)) 0 _ [] (ElemsAt.nil _ _ _) (fun r hr => by cases hr) (by decide)).mono ?_
  rw [k15_none]
  rintro x w10 ⟨v, rfl, hr10, hx10⟩
  obtain ⟨a, cp, rfl⟩ := hr10.size
  go_wp2
  go_ret
  exact ⟨rfl, HX3.out.trans (HX5.out.trans (hx59.trans hx10))⟩
end Go.Proofs.YtfglpejbgfmojaaGreat
