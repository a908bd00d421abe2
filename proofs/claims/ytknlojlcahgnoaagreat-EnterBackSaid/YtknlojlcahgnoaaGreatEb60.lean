/- Plain: who enters is there, until when he said. Plain: slices of keys' choices, of far ones; parts of a row of entries. Plain: which policies may be; those of choices may be. -/
import Derived.Test.YtknlojlcahgnoaaGreatEb57
import Derived.Test.YtknlojlcahgnoaaGreatEb44
import Derived.Test.YtknlojlcahgnoaaGreatEb36
import Derived.Test.YtknlojlcahgnoaaGreatEb43
import Derived.Test.YtknlojlcahgnoaaGreatEb50
import Derived.Test.YtknlojlcahgnoaaGreatEb7
import Derived.Test.YtknlojlcahgnoaaGreatEb59
import Derived.Test.YtknlojlcahgnoaaGreatEb49
import Derived.Test.YtknlojlcahgnoaaGreatEb35

namespace Go.Proofs.YtknlojlcahgnoaaGreat
set_option linter.unusedVariables false
set_option linter.unusedSimpArgs false

theorem entRight_all {most clock : Int} {rs : List Rl} {es : List Ent} (h : entRight most clock rs es = 0) : sortedB (es.map (·.key)) = true ∧ ∀ e ∈ es, entErr clock rs e = 0 := by
  obtain ⟨h1, h2, h3, h4, h5⟩ := entRight_zero h
  have hc : cfgErr most rs = 0 := by
    by_cases q : cfgErr most rs = 0
    · exact q
    · rw [entRight_cfg q] at h; exact absurd h q
  have hs : sortedB (es.map (·.key)) = true := by
    cases q : sortedB (es.map (·.key)) with
    | true => rfl
    | false => rw [entRight_order hc (by omega) (by omega) q] at h; cases h
  refine ⟨hs, fun e he => ?_⟩
  unfold entRight at h
  rw [if_neg (by simpa using hc), if_neg (by omega), if_neg (by omega), if_neg (by simp [hs])] at h
  cases hq : es.find? (fun e => decide (entErr clock rs e ≠ 0)) with
  | none =>
    rw [List.find?_eq_none] at hq
    simpa using hq e he
  | some x =>
    rw [hq] at h
    have := List.find?_some hq
    simp at this
    exact absurd h this
theorem entErr_zero {clock : Int} {rs : List Rl} {e : Ent} (h : entErr clock rs e = 0) : keyOk e.key = true ∧ clock < e.till ∧ e.till - clock ≤ rCap (bestD rs e.key) := by
  unfold entErr at h
  by_cases h1 : keyOk e.key = false
  · rw [if_pos h1] at h; cases h
  · rw [if_neg h1] at h
    by_cases h2 : satSub e.till clock = 0
    · rw [if_pos h2] at h; cases h
    · rw [if_neg h2] at h
      by_cases h3 : rCap (bestD rs e.key) < satSub e.till clock
      · rw [if_pos h3] at h; cases h
      · unfold satSub at h2 h3
        refine ⟨by simpa using h1, ?_, ?_⟩ <;> split at h2 <;> omega
/-- the slot of an entry that is active -/
theorem entSlot_good {clock now : Int} {rs : List Rl} {e : Ent} (hr : ∀ r ∈ rs, RlOk r) (h : entErr clock rs e = 0) (h0 : 0 ≤ clock) (hc : clock ≤ 9223372036854775807) (hn : clock ≤ now) (ha : now < e.till) :
    Good now (entSlot now rs e) ∧ (entSlot now rs e).fill now = e.till - now := by
  obtain ⟨h1, h2, h3⟩ := entErr_zero h
  obtain ⟨q1, q2, q3, q4, q5, q6, q7⟩ := bestD_ok hr e.key
  unfold entSlot
  generalize bestD rs e.key = r at *
  have hre : ruleErr r.p r.e r.b r.k = 0 := by
    by_cases q : ruleErr r.p r.e r.b r.k = 0
    · exact q
    · exfalso
      have : rCap r = 0 := by unfold rCap ruleCap; rw [if_neg q]
      omega
  have hcap : rCap r = r.e * r.b := by unfold rCap ruleCap; rw [if_pos hre]
  have hrk := (ruleErr_zero hre).2.2.2.2
  have hcl := capOk_lt (ruleErr_zero hre).2.2.2.1
  have hkk : r.k = 1 ∨ r.k = 2 ∨ r.k = 3 := by unfold rightKind at hrk; simp at hrk; omega
  have := Sane.ofF (clock := now) (cap := r.e * r.b) (F := e.till - now) hkk (by omega) (by omega) (by omega) (by omega)
  rw [if_pos hrk, hcap]
  have g : Good now ⟨e.key, r.p, r.e, r.b, r.k, r.k, kOfA r.k now (r.e * r.b) (e.till - now), kOfB r.k now⟩ := ⟨hre, this.1⟩
  refine ⟨g, ?_⟩
  rw [g.fill]
  exact this.2
theorem ent_act {most clock now : Int} {rs : List Rl} {es : List Ent} (hr : ∀ r ∈ rs, RlOk r) (he : ∀ e ∈ es, EntOk e) (h : entRight most clock rs es = 0) (h0 : 0 ≤ clock) (hn : clock ≤ now) (hn1 : now < 18446744073709551616) :
    Act now (entSlots now rs es) ∧ (entSlots now rs es).map (entOf now) = es.filter (actE now) := by
  obtain ⟨hs, hz⟩ := entRight_all h
  have hc := (entRight_zero h).2.2.2.1
  have hok := entSlots_ok (now := now) (by omega) (by omega) hr he
  have hm : ∀ s ∈ entSlots now rs es, ∃ e ∈ es, now < e.till ∧ s = entSlot now rs e := by
    intro s q
    obtain ⟨e, h2, rfl⟩ := List.mem_map.1 q
    obtain ⟨h3, h4⟩ := List.mem_filter.1 h2
    exact ⟨e, h3, of_decide_eq_true h4, rfl⟩
  refine ⟨⟨?_, hok, ?_, ?_, ?_⟩, ?_⟩
  · have e1 : Rises (es.map (entSlot now rs)) := by
      refine rises_of_sorted _ ?_
      rw [List.map_map]
      exact hs
    exact List.Pairwise.sublist (List.Sublist.map _ List.filter_sublist) e1
  · intro s q
    obtain ⟨e, h1, h2, rfl⟩ := hm s q
    exact (entSlot_good hr (hz e h1) h0 hc hn h2).1
  · intro s q
    obtain ⟨e, h1, h2, rfl⟩ := hm s q
    exact (entErr_zero (hz e h1)).1
  · intro s q
    obtain ⟨e, h1, h2, rfl⟩ := hm s q
    rw [(entSlot_good hr (hz e h1) h0 hc hn h2).2]
    omega
  · unfold entSlots
    rw [List.map_map]
    refine (List.map_congr_left (g := id) ?_).trans (List.map_id _)
    intro e q
    obtain ⟨h3, h4⟩ := List.mem_filter.1 q
    have h5 : now < e.till := of_decide_eq_true h4
    obtain ⟨o1, o2, o3⟩ := he e h3
    simp only [Function.comp, id]
    unfold entOf
    rw [(entSlot_good hr (hz e h3) h0 hc hn h5).2]
    unfold kUntil
    rw [if_pos (by omega), satAdd_lt (by omega)]
    cases e
    simp [entSlot]
    omega
/-- all that a table holds of those who entered -/
theorem ent_table {most clock now : Int} {rs : List Rl} {es : List Ent} (hr : ∀ r ∈ rs, RlOk r) (he : ∀ e ∈ es, EntOk e) (h : entRight most clock rs es = 0) (h0 : 0 ≤ clock) (hn : clock ≤ now) (hn1 : now < 18446744073709551616) :
    ofErr most now (entSlots now rs es) = 0 ∧ entsOf now (putTo (entSlots now rs es)).1 = es.filter (actE now) := by
  obtain ⟨h1, h2, h3, h4, h5⟩ := entRight_zero h
  obtain ⟨ha, hb⟩ := ent_act hr he h h0 hn hn1
  have hl : (entSlots now rs es).length ≤ es.length := by
    unfold entSlots
    rw [List.length_map]
    exact List.length_filter_le _ _
  have e0 : ofErr most now (entSlots now rs es) = 0 := by
    rw [ha.ofErr (by omega), if_neg (by omega), if_neg (by omega)]
  refine ⟨e0, ?_⟩
  unfold entsOf
  rw [ha.put e0 (by omega) (by omega), hb]
end Go.Proofs.YtknlojlcahgnoaaGreat

namespace Go.Proofs.YtknlojlcahgnoaaGreat
open Go.RowKit
set_option linter.unusedVariables false
set_option linter.unusedSimpArgs false

/-- a slice of slices of bytes -/
structure BytesSl (w : World) (v : Value) (l : List (List UInt8)) : Prop where
  form : ∃ a c, v = .slice a l.length c ∧ (l ≠ [] → ∃ b o, a = some ⟨b, o, none⟩ ∧ ∀ j (h : j < l.length), ∃ x, w.cell? ⟨b, o + j, none⟩ = some x ∧ ByteSlice w x l[j])
  len : l.length ≤ maxLen
/-- a slice of u16 -/
structure FarSl (w : World) (v : Value) (l : List Int) : Prop where
  form : ∃ a c, v = .slice a l.length c ∧ (l ≠ [] → ∃ b o, a = some ⟨b, o, none⟩ ∧ ∀ j (h : j < l.length), w.cell? ⟨b, o + j, none⟩ = some (.int .u16 l[j]))
  len : l.length ≤ maxLen
  u : ∀ x ∈ l, 0 ≤ x ∧ x < 65536
theorem BytesSl.ext {w w' : World} {v : Value} {l : List (List UInt8)} (h : BytesSl w v l) (e : Ext w w') : BytesSl w' v l := by
  obtain ⟨a, c, hv, hl⟩ := h.form
  refine ⟨⟨a, c, hv, fun hne => ?_⟩, h.len⟩
  obtain ⟨b, o, ha, hc⟩ := hl hne
  refine ⟨b, o, ha, fun j hj => ?_⟩
  obtain ⟨x, h1, h2⟩ := hc j hj
  exact ⟨x, e.keep h1, h2.ext e⟩
theorem FarSl.ext {w w' : World} {v : Value} {l : List Int} (h : FarSl w v l) (e : Ext w w') : FarSl w' v l := by
  obtain ⟨a, c, hv, hl⟩ := h.form
  refine ⟨⟨a, c, hv, fun hne => ?_⟩, h.len, h.u⟩
  obtain ⟨b, o, ha, hc⟩ := hl hne
  exact ⟨b, o, ha, fun j hj => e.keep (hc j hj)⟩

/-- what has been gathered is right -/
def SnapOk (es : List Ent) (k : Nat) : Prop := es.length ≤ k ∧ ∀ e ∈ es, EntOk e
theorem SnapOk.up {es : List Ent} {k : Nat} (h : SnapOk es k) : SnapOk es (k + 1) := ⟨Nat.le_succ_of_le h.1, h.2⟩
end Go.Proofs.YtknlojlcahgnoaaGreat

namespace Go.Proofs.YtknlojlcahgnoaaGreat
open Go.RowKit
set_option linter.unusedVariables false
set_option linter.unusedSimpArgs false

theorem key_inj {r s : Rl} (h : r.key = s.key) : r.p = s.p := by
  unfold Rl.key at h
  exact ByteArray.ext (Array.toList_inj.1 h)
theorem lt_of_up {a b : List UInt8} (h : ¬ b < a) (n : a ≠ b) : a < b := by
  by_cases q : a < b
  · exact q
  · exact absurd (List.le_antisymm (List.not_lt.1 h) (List.not_lt.1 q)) n
theorem keyLt_yes {a b : ByteArray} (h : a.data.toList < b.data.toList) : keyLt a b = true := by
  unfold keyLt
  rw [decide_eq_true_eq, keyLt_iff]
  exact h
theorem sorted_up : ∀ {l : List Rl}, UpL Rl.key l → (l.map (·.p)).Nodup → sortedB (l.map (·.p)) = true
  | [], _, _ => rfl
  | [_], _, _ => rfl
  | a :: b :: t, h, n => by
    have h1 := List.pairwise_cons.1 h
    have n1 := List.nodup_cons.1 n
    show (keyLt a.p b.p && sortedB ((b :: t).map (·.p))) = true
    rw [sorted_up h1.2 n1.2, Bool.and_true]
    refine keyLt_yes (lt_of_up (h1.1 b (by simp)) fun e => ?_)
    have := key_inj (r := a) (s := b) e
    exact n1.1 (List.mem_map.2 ⟨b, by simp, this.symm⟩)
theorem up_sorted : ∀ {l : List ByteArray}, sortedB l = true → l.Pairwise fun a b => a.data.toList < b.data.toList
  | [], _ => List.Pairwise.nil
  | [_], _ => by simp
  | a :: b :: t, h => by
    have h2 : keyLt a b = true ∧ sortedB (b :: t) = true := by simpa [sortedB] using h
    have ih := up_sorted h2.2
    have hab : a.data.toList < b.data.toList := by have := h2.1; unfold keyLt at this; rw [decide_eq_true_eq, keyLt_iff] at this; exact this
    refine List.pairwise_cons.2 ⟨fun x hx => ?_, ih⟩
    rcases List.mem_cons.1 hx with rfl | hx
    · exact hab
    · exact List.lt_trans hab ((List.pairwise_cons.1 ih).1 x hx)
theorem sorted_nodup {l : List ByteArray} (h : sortedB l = true) : l.Nodup := by
  refine (up_sorted h).imp fun {a b} q e => ?_
  subst e
  exact List.lt_irrefl _ q
theorem restL_cons (r : Rl) (t : List Rl) : restL (r :: t) = if r.p = ⟨#[]⟩ then (if sortedB ((r :: t).map (·.p)) = true then 0 else 28) else 31 := rfl
/-- the first one of all that are in order is the one for all -/
theorem first_dft {l : List Rl} (h : UpL Rl.key l) (hd : (⟨#[]⟩ : ByteArray) ∈ l.map (·.p)) : ∃ r t, l = r :: t ∧ r.p = ⟨#[]⟩ := by
  cases l with
  | nil => simp at hd
  | cons r t =>
    refine ⟨r, t, rfl, ?_⟩
    by_cases q : r.p = ⟨#[]⟩
    · exact q
    · exfalso
      obtain ⟨x, hx, hp⟩ := List.mem_map.1 hd
      rcases List.mem_cons.1 hx with rfl | hx
      · exact q hp
      · have := (List.pairwise_cons.1 h).1 x hx
        apply this
        have e : x.key = [] := by unfold Rl.key; rw [show x.p = ⟨#[]⟩ from hp]
        rw [e]
        cases hk : r.key with
        | nil => exact absurd (ByteArray.ext (Array.toList_inj.1 (by unfold Rl.key at hk; rw [hk]))) q
        | cons a b => exact List.nil_lt_cons a b
theorem PolOk.cfg {most : Int} {rs : List Rl} (h : PolOk most rs) : cfgErr most rs = 0 := by
  have h0 := h.m0
  have h1 := h.m1
  have h2 := h.len
  have ho := h.ord
  rw [cfgErr_rest (by omega) (by omega) h.err]
  unfold cfgRest
  obtain ⟨r, t, e, hr⟩ := first_dft (ordL_up rs) ho.dft
  have hs := sorted_up (ordL_up rs) ho.nd
  rw [e] at hs ⊢
  rw [restL_cons, if_pos hr, if_pos hs]
theorem PolOk.of {most : Int} {rs : List Rl} (h : cfgErr most rs = 0) (ho : ∀ r ∈ rs, RlOk r) : PolOk most rs := by
  obtain ⟨z1, z2, z3⟩ := cfg_zero h
  have he := cfgErr_rules h
  have p := (ordL_perm (key := Rl.key) rs).map (·.p)
  rw [cfgErr_rest (by omega) (by omega) he] at h
  unfold cfgRest at h
  cases q : ordL Rl.key rs with
  | nil => rw [q] at h; simp [restL] at h
  | cons r t =>
    rw [q] at h p
    rw [restL_cons] at h
    split at h
    · rename_i hr
      split at h
      · rename_i hs
        exact ⟨z1, z2, ho, he, p.nodup_iff.1 (sorted_nodup hs), z3, p.mem_iff.1 (by rw [List.map_cons, hr]; simp)⟩
      · omega
    · omega
theorem numsR_err {w : World} {d : Nms} (h : NmsOk w d) : rErr (numsR d) = 0 := by
  have hk := (keyText_ok d.pre).1
  have hp : prefOk (keyText d.pre) = true := by unfold prefOk; rw [hk]; simp
  have h1 := h.e0; have h2 := h.e1; have h3 := h.b0; have h4 := h.b1; have h5 := h.k0; have h6 := h.k1
  have hm : ∀ x y : Int, 0 ≤ x → x ≤ 4294967296 → 0 ≤ y → y ≤ 65536 → x * y ≤ 4611686018427387904 := fun x y q1 q2 q3 q4 => by
    have : x * y ≤ 4294967296 * 65536 := Int.mul_le_mul q2 q4 q3 (by omega)
    omega
  have hr : rightKind (1 + d.kind % 3) = true := by unfold rightKind; simp; omega
  unfold rErr numsR nmR
  split
  · exact ruleErr_yes hp (by show 0 < 1 + d.every % 50; omega) (by show 0 < 1 + d.burst % 9; omega) (capOk_yes (hm (1 + d.every % 50) (1 + d.burst % 9) (by omega) (by omega) (by omega) (by omega))) hr
  · exact ruleErr_yes hp (by show 0 < 1 + d.every; omega) (by show 0 < 1 + d.burst; omega) (capOk_yes (hm (1 + d.every) (1 + d.burst) (by omega) (by omega) (by omega) (by omega))) hr
theorem polR0_err {n : Int} (h : 0 ≤ n) : rErr (polR0 n) = 0 := ruleErr_yes (show prefOk ⟨#[]⟩ = true by decide) (by show (0 : Int) < 1000; decide) (by show (0 : Int) < 5; decide) (capOk_yes (by show (1000 : Int) * 5 ≤ _; decide)) (by show rightKind (1 + n % 3) = true; unfold rightKind; simp; omega)
theorem polNew_iff {rs : List Rl} {p : ByteArray} : polNew rs p = true ↔ p ∉ rs.map (·.p) := by
  unfold polNew
  simp
theorem polTo_all {n : Int} (hn : 0 ≤ n) {w : World} (l : List Nms) (hl : ∀ d ∈ l, NmsOk w d) : (∀ r ∈ polTo n l, rErr r = 0) ∧ ((polTo n l).map (·.p)).Nodup ∧ ∃ t, polTo n l = polR0 n :: t := by
  induction l using list_snoc with
  | h0 => exact ⟨fun r hr => by obtain rfl := List.mem_singleton.1 hr; exact polR0_err hn, by simp [polTo], [], rfl⟩
  | h1 l d ih =>
    obtain ⟨i1, i2, t, i3⟩ := ih fun x hx => hl x (List.mem_append_left _ hx)
    rw [polTo_snoc]
    unfold polAdd
    split
    · rename_i q
      rw [polNew_iff] at q
      refine ⟨fun r hr => ?_, ?_, t ++ [numsR d], by rw [i3]; rfl⟩
      · rcases List.mem_append.1 hr with hr | hr
        · exact i1 r hr
        · rw [List.mem_singleton.1 hr]; exact numsR_err (hl d (by simp))
      · rw [List.map_append, List.nodup_append]
        refine ⟨i2, by simp, fun a ha b hb e => ?_⟩
        rw [List.map_singleton, List.mem_singleton] at hb
        exact q (by rw [← hb, ← e]; exact ha)
    · exact ⟨i1, i2, t, i3⟩
theorem polRs_ok {n : Int} (hn : 0 ≤ n) {w : World} (l : List Nms) (hl : ∀ d ∈ l, NmsOk w d) : PolOk (1 + n % 50) (polRs n l) ∧ (polRs n l).length ≤ 13 ∧ ∃ t, polRs n l = polR0 n :: t := by
  have hl2 : ∀ d ∈ l.take 12, NmsOk w d := fun d hd => hl d (List.mem_of_mem_take hd)
  obtain ⟨a1, a2, t, a3⟩ := polTo_all hn (l.take 12) hl2
  have hlen := polTo_len n (l.take 12)
  have h12 : (l.take 12).length ≤ 12 := by rw [List.length_take]; omega
  refine ⟨⟨by omega, by omega, polTo_ok hn _ hl2, a1, a2, by unfold polRs; omega, ?_⟩, by unfold polRs; omega, t, a3⟩
  unfold polRs
  rw [a3]
  simp [polR0]
end Go.Proofs.YtknlojlcahgnoaaGreat
