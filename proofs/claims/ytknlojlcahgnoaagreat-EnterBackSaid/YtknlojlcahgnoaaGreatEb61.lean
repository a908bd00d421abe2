/- Plain: tables whose active slots look alike go on alike; who leaves enters alike. -/
import Derived.Test.YtknlojlcahgnoaaGreatEb60
import Derived.Test.YtknlojlcahgnoaaGreatEb43
import Derived.Test.YtknlojlcahgnoaaGreatEb42

namespace Go.Proofs.YtknlojlcahgnoaaGreat
set_option linter.unusedVariables false
set_option linter.unusedSimpArgs false

theorem slots_sg {clock : Int} {l : SMap} (h : Goods clock l) : (slotsOf clock l).map (sg clock) = ((sgs clock l).filter fun y => !(y.2.2.2 == 0)).mergeSort fun x y => decide (x.1.toList ≤ y.1.toList) := by
  have h1 : (actives clock l).map (sg clock) = (sgs clock l).filter fun y => !(y.2.2.2 == 0) := by
    rw [← swept_sg h]
    unfold actives sgs
    rw [List.map_map]
    rfl
  rw [← h1]
  exact List.map_mergeSort fun a _ b _ => rfl
theorem slots_rises {clock : Int} {l : SMap} (hk : l.keys.Nodup) : Rises (slotsOf clock l) := by
  have h0 := List.pairwise_mergeSort (le := fun x y : Slot => decide (x.key.toList ≤ y.key.toList)) (fun a b c h1 h2 => by simp only [decide_eq_true_eq] at *; exact List.le_trans h1 h2) (fun a b => by simp only [Bool.or_eq_true, decide_eq_true_eq]; exact List.le_total _ _) (actives clock l)
  have h1 : ((actives clock l).map (·.key)).Nodup := by
    have q : ((l.filter fun x => !drained clock x.1).map (·.1.key)).Nodup := by
      have := List.Sublist.map (fun x : Slot × Nat => x.1.key) (List.filter_sublist (p := fun x => !drained clock x.1) (l := l))
      exact hk.sublist this
    have q2 : ((l.filter fun x => !drained clock x.1).map (·.1)).map (·.key) = (l.filter fun x => !drained clock x.1).map (·.1.key) := by rw [List.map_map]; rfl
    rw [← q2] at q
    exact q
  have h2 : ((slotsOf clock l).map (·.key)).Nodup := ((slotsOf_perm clock l).map _).nodup_iff.2 h1
  have h3 : (slotsOf clock l).Pairwise fun a b => a.key ≠ b.key := List.pairwise_map.1 h2
  have h4 : (slotsOf clock l).Pairwise fun a b => a.key.toList ≤ b.key.toList := h0.imp fun q => by simpa using q
  exact (h3.and h4).imp fun {a b} ⟨q1, q2⟩ => by
    rcases Classical.em (a.key.toList < b.key.toList) with q | q
    · exact q
    · exact absurd (toList_inj (List.le_antisymm q2 (List.not_lt.1 q))) q1
theorem rel_own {clock : Int} {l : SMap} {c : Nat} (hok : TabOk l c) (hn0 : 0 ≤ clock) (hn1 : clock < 18446744073709551616) : Rel clock l (slotsOf clock l) := by
  refine ⟨fun s hs => ?_, slots_rises hok.keys, fun s hs => ?_⟩
  · rw [(slotsOf_perm clock l).mem_iff, actives_iff]
    constructor
    · rintro ⟨n, hn⟩; exact ⟨⟨n, hn⟩, (drained_iff (hok.ok _ hn) hn0 hn1).2 hs⟩
    · rintro ⟨h, -⟩; exact h
  · obtain ⟨n, hn⟩ := actives_mem ((slotsOf_perm clock l).mem_iff.1 hs); exact hok.ok _ hn
/-- slots as a map -/
def asMap (xs : List Slot) : SMap := xs.zipIdx
theorem asMap_fst (xs : List Slot) : (asMap xs).map (·.1) = xs := List.zipIdx_map_fst _ _
theorem asMap_mem {xs : List Slot} {s : Slot} : (∃ n, (s, n) ∈ asMap xs) ↔ s ∈ xs := by
  constructor
  · rintro ⟨n, h⟩
    rw [← asMap_fst xs]
    exact List.mem_map.2 ⟨_, h, rfl⟩
  · intro h
    rw [← asMap_fst xs] at h
    obtain ⟨⟨a, n⟩, h1, rfl⟩ := List.mem_map.1 h
    exact ⟨n, h1⟩
theorem asMap_ok {xs : List Slot} (hu : Rises xs) (hs : ∀ s ∈ xs, SlotOk s) : TabOk (asMap xs) xs.length := by
  refine ⟨fun x hx => ?_, ?_, ?_, fun x hx => hs _ (asMap_mem.1 ⟨x.2, hx⟩)⟩
  · have := List.snd_lt_of_mem_zipIdx hx
    simpa using this
  · show (xs.zipIdx.map Prod.snd).Nodup
    rw [List.zipIdx_map_snd]
    exact List.nodup_range'
  · have e : (asMap xs).keys = xs.map (·.key) := by
      show (asMap xs).map (fun x => x.1.key) = _
      rw [← asMap_fst xs, List.map_map, asMap_fst]
      rfl
    rw [e]
    exact rises_keys hu
theorem asMap_rel {clock : Int} {xs : List Slot} (hu : Rises xs) (hs : ∀ s ∈ xs, SlotOk s) : Rel clock (asMap xs) xs := ⟨fun s _ => asMap_mem, hu, hs⟩
theorem asMap_sgs (clock : Int) (xs : List Slot) : sgs clock (asMap xs) = xs.map (sg clock) := by
  have e : sgs clock (asMap xs) = ((asMap xs).map (·.1)).map (sg clock) := by unfold sgs; rw [List.map_map]; rfl
  rw [e, asMap_fst]
/-- tables of which what is active looks alike -/
structure AlS (clock : Int) (l l' : SMap) : Prop where
  sig : (slotsOf clock l).map (sg clock) = (slotsOf clock l').map (sg clock)
  a : Goods clock l
  b : Goods clock l'
theorem slots_good {clock : Int} {l : SMap} (h : Goods clock l) : Goods clock (asMap (slotsOf clock l)) := fun x hx => by
  have := asMap_mem.1 ⟨x.2, hx⟩
  obtain ⟨n, hn⟩ := actives_mem ((slotsOf_perm clock l).mem_iff.1 this)
  exact h (x.1, n) hn
theorem AlS.al {clock : Int} {l l' : SMap} (h : AlS clock l l') : Al clock (asMap (slotsOf clock l)) (asMap (slotsOf clock l')) :=
  ⟨by rw [asMap_sgs, asMap_sgs, h.sig], slots_good h.a, slots_good h.b⟩
theorem Al.slots {clock : Int} {l l' : SMap} (h : Al clock l l') : (slotsOf clock l).map (sg clock) = (slotsOf clock l').map (sg clock) := by rw [slots_sg h.a, slots_sg h.b, h.sig]
theorem ents_of_slots {clock : Int} {l : SMap} (h : Goods clock l) : entsOf clock l = ((slotsOf clock l).map (sg clock)).map (entSig clock) := by
  unfold entsOf
  rw [List.map_map]
  refine List.map_congr_left fun x hx => ?_
  obtain ⟨n, hn⟩ := actives_mem ((slotsOf_perm clock l).mem_iff.1 hx)
  unfold entOf
  show _ = entSig clock (sg clock x)
  unfold entSig
  rw [(h _ hn).fill]
  rfl
theorem AlS.ents {clock : Int} {l l' : SMap} (h : AlS clock l l') : entsOf clock l = entsOf clock l' := by rw [ents_of_slots h.a, ents_of_slots h.b, h.sig]
theorem AlS.later {clock now : Int} {l l' : SMap} {c c' : Nat} (h : AlS clock l l') (hok : TabOk l c) (hok' : TabOk l' c') (hn0 : 0 ≤ clock) (hn : clock ≤ now) (hn1 : now < 18446744073709551616) : AlS now l l' := by
  have r1 := rel_own hok hn0 (by omega)
  have r2 := rel_own hok' hn0 (by omega)
  have k1 := asMap_ok r1.up r1.ok
  have k2 := asMap_ok r2.up r2.ok
  have q1 := (r1.later hok hn0 hn).slots hok (by omega) hn1
  have q2 := (r2.later hok' hn0 hn).slots hok' (by omega) hn1
  have q3 := ((asMap_rel (clock := clock) r1.up r1.ok).later k1 hn0 hn).slots k1 (by omega) hn1
  have q4 := ((asMap_rel (clock := clock) r2.up r2.ok).later k2 hn0 hn).slots k2 (by omega) hn1
  refine ⟨?_, h.a.later hn, h.b.later hn⟩
  rw [q1, q2, ← q3, ← q4]
  exact (h.al.later hn0 hn hn1).slots
/-- the same charge, of a table and of what is active of it -/
theorem charge_as {clock most : Int} {l : SMap} {c : Nat} (hok : TabOk l c) (hn0 : 0 ≤ clock) (hn1 : clock < 18446744073709551616) (k p : ByteArray) (e b rk n : Int)
    (hok' : TabOk (chargeL most clock l c k p e b rk n) (chargeC most clock l c k p e b rk n)) (d : Nat) :
    chargeV most clock (asMap (slotsOf clock l)) k e b rk n = chargeV most clock l k e b rk n ∧ slotsOf clock (chargeL most clock (asMap (slotsOf clock l)) (slotsOf clock l).length k p e b rk n) = slotsOf clock (chargeL most clock l c k p e b rk n) := by
  have r1 := rel_own hok hn0 hn1
  have k1 := asMap_ok r1.up r1.ok
  have r2 := asMap_rel (clock := clock) r1.up r1.ok
  generalize slotsOf clock l = xs at *
  have c1 := r1.charge (most := most) hok hn0 hn1 k p e b rk n hok'
  have hk2 : TabOk (chargeL most clock (asMap xs) xs.length k p e b rk n) (chargeC most clock (asMap xs) xs.length k p e b rk n) := by
    have f1 := r1.isFull (most := most) hok hn0 hn1 k e b
    have f2 := r2.isFull (most := most) k1 hn0 hn1 k e b
    have g1 := r1.hit hok hn0 hn1 k e b
    have g2 := r2.hit k1 hn0 hn1 k e b
    have hroom : TabOk (chRoom most clock (asMap xs) k e b) xs.length := by
      have hl : TabOk (slotLeft (asMap xs) k e b clock) xs.length := by unfold slotLeft; split <;> first | exact k1 | exact k1.del k
      unfold chRoom roomed
      split
      · exact hl.filter _
      · exact hl
    unfold chargeL chargeC at hok' ⊢
    rw [f2, ← f1, g2, ← g1]
    by_cases hq : chFull most clock l k e b = true
    · simp only [if_pos hq]
      exact hroom
    · simp only [if_neg hq] at hok' ⊢
      unfold chL chC at hok' ⊢
      cases ho : chgOk clock (slotHit l k e b clock) e b rk n
      · simp only [Bool.false_eq_true, if_false]
        exact hroom
      · rw [ho] at hok'
        simp only [if_true] at hok' ⊢
        obtain ⟨n1, h1⟩ := (put_iff (l := chRoom most clock l k e b) (s0 := chgS clock (slotHit l k e b clock) k p e b rk n) (c := c)).2 (Or.inl rfl)
        exact hroom.put (hok'.ok _ h1)
  have c2 := r2.charge (most := most) k1 hn0 hn1 k p e b rk n hk2
  exact ⟨c2.1.trans c1.1.symm, (c2.2.slots hk2 hn0 hn1).trans (c1.2.slots hok' hn0 hn1).symm⟩
/-- a charge of two tables of which what is active looks alike -/
theorem AlS.charge {clock most : Int} {l l' : SMap} {c c' : Nat} (h : AlS clock l l') (hok : TabOk l c) (hok' : TabOk l' c') {k p : ByteArray} {e b rk n : Int} (hr : ruleErr p e b rk = 0) (hn0 : 0 ≤ clock) (hb : clock + e * b < 18446744073709551616) (hn : 0 ≤ n)
    (h1 : TabOk (cgL most clock l c k p e b rk n) (cgC most clock l c k p e b rk n)) (h2 : TabOk (cgL most clock l' c' k p e b rk n) (cgC most clock l' c' k p e b rk n)) :
    cgV most clock l k p e b rk n = cgV most clock l' k p e b rk n ∧ AlS clock (cgL most clock l c k p e b rk n) (cgL most clock l' c' k p e b rk n) := by
  obtain ⟨-, he, hbb, -, -⟩ := ruleErr_zero hr
  have hc : 0 ≤ e * b := Int.mul_nonneg (by omega) (by omega)
  have ga := (Al.charge (most := most) (k := k) (n := n) ⟨rfl, h.a, h.a⟩ c c hr hr hn0 hb hn).2.a
  have gb := (Al.charge (most := most) (k := k) (n := n) ⟨rfl, h.b, h.b⟩ c' c' hr hr hn0 hb hn).2.a
  have hA := h.al.charge (most := most) (k := k) (n := n) (slotsOf clock l).length (slotsOf clock l').length hr hr hn0 hb hn
  unfold cgV cgL cgC at *
  by_cases hk : keyOk k = false
  · simp only [if_pos hk] at *
    exact ⟨trivial, h⟩
  · simp only [if_neg hk, if_neg (not_not_intro hr)] at *
    have q1 := charge_as (most := most) hok hn0 (by omega) k p e b rk n h1 0
    have q2 := charge_as (most := most) hok' hn0 (by omega) k p e b rk n h2 0
    refine ⟨?_, ?_, ga, gb⟩
    · rw [← q1.1, ← q2.1]; exact hA.1
    · rw [← q1.2, ← q2.2]; exact hA.2.slots

/-- the slots of a table are by these rules, and by right keys -/
structure ByRs (clock : Int) (rs : List Rl) (l : SMap) : Prop where
  good : Goods clock l
  key : ∀ x ∈ l, keyOk x.1.key = true
  rule : ∀ x ∈ l, x.1.e = (bestD rs x.1.key).e ∧ x.1.b = (bestD rs x.1.key).b
theorem ByRs.nil (clock : Int) (rs : List Rl) : ByRs clock rs [] := ⟨fun x h => (by cases h), fun x h => (by cases h), fun x h => (by cases h)⟩
theorem ByRs.later {clock now : Int} {rs : List Rl} {l : SMap} (h : ByRs clock rs l) (hn : clock ≤ now) : ByRs now rs l := ⟨h.good.later hn, h.key, h.rule⟩
theorem ByRs.charge {clock : Int} {rs : List Rl} {l : SMap} (h : ByRs clock rs l) (hn0 : 0 ≤ clock) (hn1 : clock < 9223372036854775808) (most : Int) (c : Nat) (k : ByteArray) (n : Int) (hn : 0 ≤ n) {r : Rl} (hr : bestD rs k = r) (hre : rErr r = 0) : ByRs clock rs (cgL most clock l c k r.p r.e r.b r.k n) := by
  have hm : ∀ x ∈ cgL most clock l c k r.p r.e r.b r.k n, x ∈ l ∨ (keyOk k = true ∧ x.1.key = k ∧ x.1.e = r.e ∧ x.1.b = r.b) := by
    intro x hx
    unfold cgL at hx
    split at hx
    · exact Or.inl hx
    · rename_i hk
      split at hx
      · exact Or.inl hx
      · unfold chargeL at hx
        split at hx
        · exact Or.inl (chRoom_sub.1 x hx)
        · unfold chL at hx
          split at hx
          · rcases put_mem hx with q | q
            · exact Or.inl (chRoom_sub.1 x q)
            · rw [q]; unfold chgS chSlot; exact Or.inr ⟨by simpa using hk, rfl, rfl, rfl⟩
          · exact Or.inl (chRoom_sub.1 x hx)
  obtain ⟨-, he, hb, hc, -⟩ := ruleErr_zero hre
  have := capOk_lt hc
  refine ⟨(Al.charge (most := most) (k := k) (n := n) ⟨rfl, h.good, h.good⟩ c c hre hre hn0 (by omega) hn).2.a, ?_, ?_⟩
  · intro x hx
    rcases hm x hx with q | ⟨q1, q2, -⟩
    · exact h.key x q
    · rw [q2]; exact q1
  · intro x hx
    rcases hm x hx with q | ⟨-, q2, q3, q4⟩
    · exact h.rule x q
    · rw [q2, hr]; exact ⟨q3, q4⟩
/-- who leaves may enter, and looks as he did -/
theorem back {most clock : Int} {rs : List Rl} {l : SMap} {c : Nat} (h : ByRs clock rs l) (hok : TabOk l c) (hro : ∀ r ∈ rs, RlOk r) (hre : ∀ k, rErr (bestD rs k) = 0) (hcfg : cfgErr most rs = 0) (hn0 : 0 ≤ clock) (hn1 : clock < 4611686018427387904) (hlen : (l.length : Int) ≤ most) :
    entRight most clock rs (entsOf clock l) = 0 ∧ ofErr most clock (entSlots clock rs (entsOf clock l)) = 0 ∧ AlS clock l (putTo (entSlots clock rs (entsOf clock l))).1 ∧ (∀ e ∈ entsOf clock l, EntOk e) := by
  have hr := rel_own hok hn0 (by omega)
  have hm : ∀ s ∈ slotsOf clock l, ∃ n, (s, n) ∈ l ∧ 0 < s.fill clock := by
    intro s hs
    have q := (slotsOf_perm clock l).mem_iff.1 hs
    obtain ⟨⟨n, q1⟩, q2⟩ := actives_iff.1 q
    exact ⟨n, q1, (drained_iff (hok.ok _ q1) hn0 (by omega)).1 q2⟩
  -- each entry
  have hE : ∀ s ∈ slotsOf clock l, entErr clock rs (entOf clock s) = 0 ∧ EntOk (entOf clock s) ∧ clock < (entOf clock s).till ∧ (entOf clock s).till - clock = s.fill clock := by
    intro s hs
    obtain ⟨n, q1, q2⟩ := hm s hs
    have g := h.good _ q1
    obtain ⟨c1, c2, c3⟩ := g.cap
    have f1 := g.sane.fill_le c2 hn0
    have f2 : s.fill clock = kFill s.sk s.sa s.sb clock (s.e * s.b) := g.fill
    obtain ⟨e1, e2⟩ := h.rule _ q1
    have ht : (entOf clock s).till = clock + s.fill clock := by
      unfold entOf kUntil
      dsimp only
      rw [if_pos q2, satAdd_lt (by dsimp only at *; omega)]
    have hcap : rCap (bestD rs s.key) = s.e * s.b := by
      unfold rCap ruleCap
      rw [if_pos (show ruleErr _ _ _ _ = 0 from hre s.key), ← e1, ← e2]
    dsimp only at c1 c2 c3 f1 f2
    refine ⟨?_, ⟨(hok.ok _ q1).1, by omega, by omega⟩, by omega, by omega⟩
    have ss : satSub (entOf clock s).till clock = s.fill clock := by unfold satSub; split <;> omega
    unfold entErr
    rw [ss, if_neg (by show ¬ keyOk s.key = false; rw [h.key _ q1]; decide), if_neg (by omega), if_neg (by show ¬ rCap (bestD rs s.key) < _; rw [hcap]; omega)]
  have hkeys : (entsOf clock l).map (·.key) = (slotsOf clock l).map (·.key) := by unfold entsOf; rw [List.map_map]; rfl
  have hso : sortedB ((entsOf clock l).map (·.key)) = true := by rw [hkeys]; exact sorted_of_rises _ hr.up
  have hll : (entsOf clock l).length ≤ l.length := by unfold entsOf; rw [List.length_map, slotsOf_len]; exact actives_len clock l
  have hall : ∀ e ∈ entsOf clock l, entErr clock rs e = 0 ∧ EntOk e ∧ clock < e.till := by
    intro e he
    obtain ⟨s, hs, rfl⟩ := List.mem_map.1 he
    exact ⟨(hE s hs).1, (hE s hs).2.1, (hE s hs).2.2.1⟩
  have hright : entRight most clock rs (entsOf clock l) = 0 := by
    unfold entRight
    rw [if_neg (by rw [hcfg]; simp), if_neg (by omega), if_neg (by omega), if_neg (by rw [hso]; decide)]
    have : (entsOf clock l).find? (fun e => decide (entErr clock rs e ≠ 0)) = none := by
      rw [List.find?_eq_none]
      intro e he
      simpa using (hall e he).1
    rw [this]
  have heo : ∀ e ∈ entsOf clock l, EntOk e := fun e he => (hall e he).2.1
  obtain ⟨ha, -⟩ := ent_act hro heo hright hn0 (Int.le_refl clock) (by omega)
  obtain ⟨h0, -⟩ := ent_table hro heo hright hn0 (Int.le_refl clock) (by omega)
  have hput := ha.put h0 hn0 (by omega)
  refine ⟨hright, h0, ⟨?_, h.good, ?_⟩, heo⟩
  · rw [hput]
    have hf : (entsOf clock l).filter (actE clock) = entsOf clock l := List.filter_eq_self.2 fun e he => by unfold actE; simpa using (hall e he).2.2
    unfold entSlots
    rw [hf]
    unfold entsOf
    rw [List.map_map, List.map_map]
    refine List.map_congr_left fun s hs => ?_
    obtain ⟨n, q1, q2⟩ := hm s hs
    obtain ⟨k1, k2, k3, k4⟩ := hE s hs
    obtain ⟨g, gf⟩ := entSlot_good (now := clock) hro k1 hn0 (by omega) (Int.le_refl _) k3
    obtain ⟨e1, e2⟩ := h.rule _ q1
    show sg clock s = sg clock (entSlot clock rs (entOf clock s))
    have gs := (h.good _ q1).fill
    rw [g.fill, k4, gs] at gf
    have e3 : (entSlot clock rs (entOf clock s)).key = s.key := rfl
    have e4 : (entSlot clock rs (entOf clock s)).e = s.e := e1.symm
    have e5 : (entSlot clock rs (entOf clock s)).b = s.b := e2.symm
    have e6 : sg clock (entSlot clock rs (entOf clock s)) = ((entSlot clock rs (entOf clock s)).key, (entSlot clock rs (entOf clock s)).e, (entSlot clock rs (entOf clock s)).b, (sg clock (entSlot clock rs (entOf clock s))).2.2.2) := rfl
    rw [e6, gf, e3, e4, e5]
    rfl
  · intro x hx
    have : x.1 ∈ entSlots clock rs (entsOf clock l) := (putTo_mem _ (rises_keys ha.up) x.1).1 ⟨x.2, hx⟩
    exact ha.good _ this
end Go.Proofs.YtknlojlcahgnoaaGreat
