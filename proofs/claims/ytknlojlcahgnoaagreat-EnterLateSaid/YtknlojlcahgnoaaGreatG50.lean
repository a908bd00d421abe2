/- Plain: who enters is there, until when he said. Plain: slices of keys' choices, of far ones; parts of a row of entries. How a slice of slices of bytes, and one of u16, come out of an argument's reading. -/
import Derived.Deep.Slices
import Derived.Deep.Fields
import Derived.ChangeSame
import Derived.Lib.SmallJoins
import Derived.Test.YtknlojlcahgnoaaGreatG49
import Derived.Test.YtknlojlcahgnoaaGreatG39
import Derived.Test.YtknlojlcahgnoaaGreatG32
import Derived.Test.YtknlojlcahgnoaaGreatG37
import Derived.Test.YtknlojlcahgnoaaGreatG45
import Derived.Test.YtknlojlcahgnoaaGreatG6
import Derived.Test.YtknlojlcahgnoaaGreatG11

/- Plain: who enters is there, until when he said. -/
namespace Go.Proofs.YtknlojlcahgnoaaGreat
set_option linter.unusedVariables false
set_option linter.unusedSimpArgs false

theorem entRight_all {most clock : Int} {rs : List Rl} {es : List Ent} (h : entRight most clock rs es = 0) : sortedB (es.map (·.key)) = true ∧ ∀ e ∈ es, entErr clock rs e = 0 := by
  obtain ⟨h1, h2, h3, h4, h5⟩ := entRight_zero h
  have hc : cfgErr most rs = 0 := by
    by_cases q : cfgErr most rs = 0
    · exact q
    · rw [entRight_cfg q] at h; exact absurd h q
  have hs : sortedB (es.map (·.key)) = true := by
    cases q : sortedB (es.map (·.key)) with
    | true => rfl
    | false => rw [entRight_order hc (by omega) (by omega) q] at h; cases h
  refine ⟨hs, fun e he => ?_⟩
  unfold entRight at h
  rw [if_neg (by simpa using hc), if_neg (by omega), if_neg (by omega), if_neg (by simp [hs])] at h
  cases hq : es.find? (fun e => decide (entErr clock rs e ≠ 0)) with
  | none =>
    rw [List.find?_eq_none] at hq
    simpa using hq e he
  | some x =>
    rw [hq] at h
    have := List.find?_some hq
    simp at this
    exact absurd h this
theorem entErr_zero {clock : Int} {rs : List Rl} {e : Ent} (h : entErr clock rs e = 0) : keyOk e.key = true ∧ clock < e.till ∧ e.till - clock ≤ rCap (bestD rs e.key) := by
  unfold entErr at h
  by_cases h1 : keyOk e.key = false
  · rw [if_pos h1] at h; cases h
  · rw [if_neg h1] at h
    by_cases h2 : satSub e.till clock = 0
    · rw [if_pos h2] at h; cases h
    · rw [if_neg h2] at h
      by_cases h3 : rCap (bestD rs e.key) < satSub e.till clock
      · rw [if_pos h3] at h; cases h
      · unfold satSub at h2 h3
        refine ⟨by simpa using h1, ?_, ?_⟩ <;> split at h2 <;> omega
/-- the slot of an entry that is active -/
theorem entSlot_good {clock now : Int} {rs : List Rl} {e : Ent} (hr : ∀ r ∈ rs, RlOk r) (h : entErr clock rs e = 0) (h0 : 0 ≤ clock) (hn : clock ≤ now) (hn1 : now < 9223372036854775808) (ha : now < e.till) :
    Good now (entSlot now rs e) ∧ (entSlot now rs e).fill now = e.till - now := by
  obtain ⟨h1, h2, h3⟩ := entErr_zero h
  obtain ⟨q1, q2, q3, q4, q5, q6, q7⟩ := bestD_ok hr e.key
  unfold entSlot
  generalize bestD rs e.key = r at *
  have hre : ruleErr r.p r.e r.b r.k = 0 := by
    by_cases q : ruleErr r.p r.e r.b r.k = 0
    · exact q
    · exfalso
      have : rCap r = 0 := by unfold rCap ruleCap; rw [if_neg q]
      omega
  have hcap : rCap r = r.e * r.b := by unfold rCap ruleCap; rw [if_pos hre]
  have hrk := (ruleErr_zero hre).2.2.2.2
  have hcl := capOk_lt (ruleErr_zero hre).2.2.2.1
  have hkk : r.k = 1 ∨ r.k = 2 ∨ r.k = 3 := by unfold rightKind at hrk; simp at hrk; omega
  have := Sane.ofF (clock := now) (cap := r.e * r.b) (F := e.till - now) hkk (by omega) (by omega) (by omega) (by omega)
  rw [if_pos hrk, hcap]
  have g : Good now ⟨e.key, r.p, r.e, r.b, r.k, r.k, kOfA r.k now (r.e * r.b) (e.till - now), kOfB r.k now⟩ := ⟨hre, this.1⟩
  refine ⟨g, ?_⟩
  rw [g.fill]
  exact this.2
theorem ent_act {most clock now : Int} {rs : List Rl} {es : List Ent} (hr : ∀ r ∈ rs, RlOk r) (he : ∀ e ∈ es, EntOk e) (h : entRight most clock rs es = 0) (h0 : 0 ≤ clock) (hn : clock ≤ now) (hn1 : now < 9223372036854775808) :
    Act now (entSlots now rs es) ∧ (entSlots now rs es).map (entOf now) = es.filter (actE now) := by
  obtain ⟨hs, hz⟩ := entRight_all h
  have hok := entSlots_ok (now := now) (by omega) (by omega) hr he
  have hm : ∀ s ∈ entSlots now rs es, ∃ e ∈ es, now < e.till ∧ s = entSlot now rs e := by
    intro s q
    obtain ⟨e, h2, rfl⟩ := List.mem_map.1 q
    obtain ⟨h3, h4⟩ := List.mem_filter.1 h2
    exact ⟨e, h3, of_decide_eq_true h4, rfl⟩
  refine ⟨⟨?_, hok, ?_, ?_, ?_⟩, ?_⟩
  · have e1 : Rises (es.map (entSlot now rs)) := by
      refine rises_of_sorted _ ?_
      rw [List.map_map]
      exact hs
    exact List.Pairwise.sublist (List.Sublist.map _ List.filter_sublist) e1
  · intro s q
    obtain ⟨e, h1, h2, rfl⟩ := hm s q
    exact (entSlot_good hr (hz e h1) h0 hn hn1 h2).1
  · intro s q
    obtain ⟨e, h1, h2, rfl⟩ := hm s q
    exact (entErr_zero (hz e h1)).1
  · intro s q
    obtain ⟨e, h1, h2, rfl⟩ := hm s q
    rw [(entSlot_good hr (hz e h1) h0 hn hn1 h2).2]
    omega
  · unfold entSlots
    rw [List.map_map]
    refine (List.map_congr_left (g := id) ?_).trans (List.map_id _)
    intro e q
    obtain ⟨h3, h4⟩ := List.mem_filter.1 q
    have h5 : now < e.till := of_decide_eq_true h4
    obtain ⟨o1, o2, o3⟩ := he e h3
    simp only [Function.comp, id]
    unfold entOf
    rw [(entSlot_good hr (hz e h3) h0 hn hn1 h5).2]
    unfold kUntil
    rw [if_pos (by omega), satAdd_lt (by omega)]
    cases e
    simp [entSlot]
    omega
/-- all that a table holds of those who entered -/
theorem ent_table {most clock now : Int} {rs : List Rl} {es : List Ent} (hr : ∀ r ∈ rs, RlOk r) (he : ∀ e ∈ es, EntOk e) (h : entRight most clock rs es = 0) (h0 : 0 ≤ clock) (hn : clock ≤ now) (hn1 : now < 9223372036854775808) :
    ofErr most now (entSlots now rs es) = 0 ∧ entsOf now (putTo (entSlots now rs es)).1 = es.filter (actE now) := by
  obtain ⟨h1, h2, h3, h4, h5⟩ := entRight_zero h
  obtain ⟨ha, hb⟩ := ent_act hr he h h0 hn hn1
  have hl : (entSlots now rs es).length ≤ es.length := by
    unfold entSlots
    rw [List.length_map]
    exact List.length_filter_le _ _
  have e0 : ofErr most now (entSlots now rs es) = 0 := by
    rw [ha.ofErr (by omega), if_neg (by omega), if_neg (by omega)]
  refine ⟨e0, ?_⟩
  unfold entsOf
  rw [ha.put e0 (by omega) (by omega), hb]
end Go.Proofs.YtknlojlcahgnoaaGreat

/- Plain: slices of keys' choices, of far ones; parts of a row of entries. -/
namespace Go.Proofs.YtknlojlcahgnoaaGreat
open Go.RowKit
set_option linter.unusedVariables false
set_option linter.unusedSimpArgs false

/-- a slice of slices of bytes -/
structure BytesSl (w : World) (v : Value) (l : List (List UInt8)) : Prop where
  form : ∃ a c, v = .slice a l.length c ∧ (l ≠ [] → ∃ b o, a = some ⟨b, o, none⟩ ∧ ∀ j (h : j < l.length), ∃ x, w.cell? ⟨b, o + j, none⟩ = some x ∧ ByteSlice w x l[j])
  len : l.length ≤ maxLen
/-- a slice of u16 -/
structure FarSl (w : World) (v : Value) (l : List Int) : Prop where
  form : ∃ a c, v = .slice a l.length c ∧ (l ≠ [] → ∃ b o, a = some ⟨b, o, none⟩ ∧ ∀ j (h : j < l.length), w.cell? ⟨b, o + j, none⟩ = some (.int .u16 l[j]))
  len : l.length ≤ maxLen
  u : ∀ x ∈ l, 0 ≤ x ∧ x < 65536
theorem BytesSl.ext {w w' : World} {v : Value} {l : List (List UInt8)} (h : BytesSl w v l) (e : Ext w w') : BytesSl w' v l := by
  obtain ⟨a, c, hv, hl⟩ := h.form
  refine ⟨⟨a, c, hv, fun hne => ?_⟩, h.len⟩
  obtain ⟨b, o, ha, hc⟩ := hl hne
  refine ⟨b, o, ha, fun j hj => ?_⟩
  obtain ⟨x, h1, h2⟩ := hc j hj
  exact ⟨x, e.keep h1, h2.ext e⟩
theorem FarSl.ext {w w' : World} {v : Value} {l : List Int} (h : FarSl w v l) (e : Ext w w') : FarSl w' v l := by
  obtain ⟨a, c, hv, hl⟩ := h.form
  refine ⟨⟨a, c, hv, fun hne => ?_⟩, h.len, h.u⟩
  obtain ⟨b, o, ha, hc⟩ := hl hne
  exact ⟨b, o, ha, fun j hj => e.keep (hc j hj)⟩

theorem ent_news {base : Nat} {w : World} {b n c : Nat} {l : List Ent} (h : EntRow base w (.slice (some ⟨b, 0, none⟩) n c) l) (i m : Nat) (hm : i + m ≤ l.length) :
    ∀ j u, (flatE Ent.cells ((l.drop i).take m))[j]? = some u → w.cell? ((⟨b, i * 2, none⟩ : Addr).add j) = some u := by
  intro j u hu
  have hlen : ((l.drop i).take m).length = m := by simp; omega
  have hj : j < m * 2 := by
    have : j < (flatE Ent.cells ((l.drop i).take m)).length := by
      rcases Nat.lt_or_ge j (flatE Ent.cells ((l.drop i).take m)).length with q | q
      · exact q
      · rw [List.getElem?_eq_none q] at hu; cases hu
    rw [flatE_len Ent.size2, hlen] at this
    exact this
  have hjd : j / 2 < m := by omega
  have hjm : j % 2 < 2 := by omega
  have e1 : j = j / 2 * 2 + j % 2 := by omega
  rw [e1, flatE_get Ent.size2 _ (j / 2) (j % 2) (by rw [hlen]; exact hjd) hjm] at hu
  obtain ⟨b', c', hv', -, -, hq⟩ := h.cells Ent.size2 (i + j / 2) (by omega)
  cases hv'
  have e2 : ((⟨b, i * 2, none⟩ : Addr).add j) = ⟨b, (i + j / 2) * 2 + j % 2, none⟩ := by
    unfold Addr.add
    have : i * 2 + j = (i + j / 2) * 2 + j % 2 := by omega
    split
    · rename_i q
      have q' : j = 0 := by simpa using q
      rw [← this, q']
      rfl
    · simp [this]
  rw [e2, hq _ hjm]
  have e3 : ((l.drop i).take m)[j / 2]'(by rw [hlen]; exact hjd) = l[i + j / 2]'(by omega) := by simp
  rw [e3] at hu
  exact hu
theorem ent_news0 {base : Nat} {w : World} {b n c : Nat} {l : List Ent} (h : EntRow base w (.slice (some ⟨b, 0, none⟩) n c) l) (m : Nat) (hm : m ≤ l.length) :
    ∀ j u, (flatE Ent.cells (l.take m))[j]? = some u → w.cell? ((⟨b, 0, none⟩ : Addr).add j) = some u := by
  have := ent_news h 0 m (by omega)
  rw [List.drop_zero, Nat.zero_mul] at this
  exact this
theorem ent_with {base n : Nat} {w : World} {v : Value} {xs : List Ent} {s : Ent} (h : w.ownsRow base 80 2 v (0 + n + 1 + (xs.length - n)) ([] ++ flatE Ent.cells (xs.take n) ++ s.cells.toList ++ flatE Ent.cells ((xs.drop n).take (xs.length - n)))) (hn : n ≤ xs.length) : EntRow base w v (xs.take n ++ s :: xs.drop n) := by
  have e1 : (xs.drop n).take (xs.length - n) = xs.drop n := List.take_of_length_le (by simp)
  rw [e1] at h
  refine RowOf.mk' h (by simp; omega) ?_ ?_
  · rw [show xs.take n ++ s :: xs.drop n = (xs.take n ++ [s]) ++ xs.drop n by simp]
    unfold flatE
    simp
  · obtain ⟨g, cap, rfl⟩ := ownsRow_succ (k := n + (xs.length - n)) (by rw [show n + (xs.length - n) + 1 = 0 + n + 1 + (xs.length - n) by omega]; exact h)
    simp
theorem ent_withz {base n : Nat} {w : World} {v : Value} {xs zs : List Ent} {s : Ent} (h : w.ownsRow base 80 2 v (0 + n + 1 + (xs.length - n)) ([] ++ flatE Ent.cells (xs.take n) ++ s.cells.toList ++ flatE Ent.cells ((xs.drop n).take (xs.length - n)))) (hn : n ≤ xs.length) (e : Hid (xs.take n ++ s :: xs.drop n = zs)) : EntRow base w v zs := by
  rw [← e.out]
  exact ent_with h hn
theorem ent_one {l : List Ent} : ∀ u ∈ flatE Ent.cells l, u.oneCell' = true := by
  intro u hu
  unfold flatE at hu
  rw [List.mem_flatMap] at hu
  obtain ⟨s, -, hs⟩ := hu
  simp [Ent.cells] at hs
  rcases hs with rfl | rfl <;> rfl
theorem ent_first {base : Nat} {w : World} {v : Value} {s : Ent} (h : w.ownsRow base 80 2 v (0 + 1) ([] ++ s.cells.toList)) : EntRow base w v [s] := by
  refine RowOf.mk' h (by simp) (by simp [flatE]) ?_
  obtain ⟨g, cap, rfl⟩ := ownsRow_succ (k := 0) (by simpa using h)
  simp
theorem ent_firstz {base : Nat} {w : World} {v : Value} {s : Ent} {zs : List Ent} (h : w.ownsRow base 80 2 v (0 + 1) ([] ++ s.cells.toList)) (e : Hid ([s] = zs)) : EntRow base w v zs := by
  rw [← e.out]
  exact ent_first h
/-- at the end of a row nothing is left -/
theorem ent_lastz {base n : Nat} {w : World} {v : Value} {xs zs : List Ent} {s : Ent} (h : w.ownsRow base 80 2 v (0 + n + 1 + 0) ([] ++ flatE Ent.cells (xs.take n) ++ s.cells.toList ++ [])) (hn : n = xs.length) (e : Hid (xs.take n ++ s :: xs.drop n = zs)) : EntRow base w v zs := by
  rw [← e.out]
  refine ent_with (n := n) ?_ (Nat.le_of_eq hn)
  rw [show xs.length - n = 0 by omega, List.take_zero]
  exact h
/-- what has been gathered is right -/
def SnapOk (es : List Ent) (k : Nat) : Prop := es.length ≤ k ∧ ∀ e ∈ es, EntOk e
theorem SnapOk.more {es : List Ent} {k j : Nat} {e : Ent} (h : SnapOk es k) (he : EntOk e) : SnapOk (es.take j ++ e :: es.drop j) (k + 1) := by
  obtain ⟨h1, h2⟩ := h
  refine ⟨?_, ?_⟩
  · have := congrArg List.length (List.take_append_drop j es)
    simp only [List.length_append, List.length_cons] at this ⊢
    omega
  · intro x hx
    rcases List.mem_append.1 hx with q | q
    · exact h2 x (List.mem_of_mem_take q)
    · rcases List.mem_cons.1 q with rfl | q
      · exact he
      · exact h2 x (List.mem_of_mem_drop q)
theorem SnapOk.up {es : List Ent} {k : Nat} (h : SnapOk es k) : SnapOk es (k + 1) := ⟨Nat.le_succ_of_le h.1, h.2⟩
end Go.Proofs.YtknlojlcahgnoaaGreat

/- How a slice of slices of bytes, and one of u16, come out of an argument's reading. -/
namespace Go.Proofs.YtknlojlcahgnoaaGreat
open Go.ChangeShapes Go.WideShapes Go.ChangeAt Go.RowKit Go.Deep
set_option linter.unusedVariables false
set_option linter.unusedSimpArgs false

section
variable {H : Type} {enc : TypeId × Value → H} {W : World} {r : Reach} {b0 base : Nat} {held : Bool} {v : Value} {d : DataW H} {p : List MemPlace}

set_option maxRecDepth 100000 in
theorem open_bytessl (hv : Value.okWide Tryz.prog W r b0 53 v) (h : DataW.Trod enc Tryz.prog W base (fun _ => true) held 53 v d p) : ∃ l, BytesSl W v l := by
  obtain ⟨a0, len, cap, rfl⟩ := okWide_slice Tryz.underlying53 hv
  obtain ⟨fuel, hf⟩ := h
  rcases Go.Deep.open_slice1 Tryz.underlying53 (by kernel_rfl) hf with ⟨hcs, _⟩ | ⟨x, len', cap', m, n, V, D, Pl, hcs, hb, hl, hm, hmm, _, hi⟩
  · simp [Value.cells] at hcs
    obtain ⟨rfl, rfl, rfl⟩ := hcs
    exact ⟨[], ⟨_, _, rfl, fun h => absurd rfl h⟩, by simp⟩
  · simp [Value.cells] at hcs
    obtain ⟨rfl, rfl, rfl⟩ := hcs
    simp only [if_true] at hmm
    have each : ∀ i : Fin len, ∃ l, ByteSlice W (V i.1) l := fun i => field_bytes Tryz.underlying22 Tryz.underlying5 (by kernel_rfl) (hi i.1 (by omega)).2
    have hlen : (List.ofFn fun i => Classical.choose (each i)).length = len := List.length_ofFn
    refine ⟨List.ofFn fun i => Classical.choose (each i), ⟨some x, cap, by rw [hlen], fun hne => ?_⟩, by rw [hlen]; omega⟩
    have h0 : 0 < len := by
      rcases Nat.eq_zero_or_pos len with e | e
      · subst e; simp at hne
      · exact e
    have ex := plain_addr (hi 0 (by omega)).1
    refine ⟨x.block, x.off, by rw [← ex], fun j hj => ?_⟩
    rw [hlen] at hj
    refine ⟨V j, ?_, ?_⟩
    · rw [← addr_add, ← ex]
      exact (hi j (by omega)).1
    · rw [List.getElem_ofFn]
      exact Classical.choose_spec (each ⟨j, hj⟩)
set_option maxRecDepth 100000 in
theorem open_far (hv : Value.okWide Tryz.prog W r b0 54 v) (h : DataW.Trod enc Tryz.prog W base (fun _ => true) held 54 v d p) : ∃ l, FarSl W v l := by
  obtain ⟨a0, len, cap, rfl⟩ := okWide_slice Tryz.underlying54 hv
  obtain ⟨fuel, hf⟩ := h
  rcases open_ints Tryz.underlying54 Tryz.underlying23 (by kernel_rfl) hf with ⟨hcs, _⟩ | ⟨x, len', cap', zs, hcs, _, hl, hm, hz, _, hcell, hwz⟩
  · simp [Value.cells] at hcs
    obtain ⟨rfl, rfl, rfl⟩ := hcs
    exact ⟨[], ⟨_, _, rfl, fun h => absurd rfl h⟩, by simp, fun x hx => by cases hx⟩
  · simp [Value.cells] at hcs
    obtain ⟨rfl, rfl, rfl⟩ := hcs
    simp only [if_true] at hz
    have hlen : (zs.take len).length = len := by rw [List.length_take, hz]; omega
    refine ⟨zs.take len, ⟨some x, cap, by rw [hlen], fun hne => ?_⟩, by rw [hlen]; omega, fun y hy => wfu16 (hwz y (List.mem_of_mem_take hy))⟩
    have h0 : 0 < len := by
      rcases Nat.eq_zero_or_pos len with e | e
      · subst e; simp at hne
      · exact e
    have ex := plain_addr (hcell 0 (by omega))
    refine ⟨x.block, x.off, by rw [← ex], fun j hj => ?_⟩
    rw [hlen] at hj
    rw [← addr_add, ← ex, hcell j (by omega)]
    simp [List.getD, List.getElem?_eq_getElem (show j < zs.length by omega)]
end
end Go.Proofs.YtknlojlcahgnoaaGreat
