/- Plain: where the first rule with a prefix is; what is wrong with rules, by that. Walks: tollerref12.find, tollerref12.Right. Walk: tollerref12.Order. Walks: tollerref12.size, tollerref12.one. Walk: tollerref12.one. Walk: tollerref12.Parse. Walk: tollerlaw12.parses. -/
import Derived.BigQuiet
import Derived.RegionTactic
import Derived.BigRegion
import Derived.Test.YtknlojlcahgnoaaGreatCf45
import Derived.Test.YtknlojlcahgnoaaGreatCf8
import Derived.Test.YtknlojlcahgnoaaGreatCf40
import Derived.Test.YtknlojlcahgnoaaGreatCf2
import Derived.Test.YtknlojlcahgnoaaGreatCf7
import Derived.Test.YtknlojlcahgnoaaGreatCf26
import Derived.Test.YtknlojlcahgnoaaGreatCf3
import Derived.Test.YtknlojlcahgnoaaGreatCf43
import Derived.Test.YtknlojlcahgnoaaGreatCf30
import Derived.Test.YtknlojlcahgnoaaGreatCf46

namespace Go.Proofs.YtknlojlcahgnoaaGreat
open Go.RowKit
set_option linter.unusedVariables false
set_option linter.unusedSimpArgs false

/-- where the first rule with a prefix is; below nought: nowhere -/
def findI (rs : List Rl) (p : ByteArray) : Int := match rs.findIdx? (fun r => decide (r.p = p)) with
  | some k => k
  | none => -1
theorem findI_hit {rs : List Rl} {p : ByteArray} {k : Nat} (hk : k < rs.length) (h : rs[k].p = p) (hb : ∀ j (hj : j < k), rs[j].p ≠ p) : findI rs p = k := by
  have e : rs.findIdx? (fun r => decide (r.p = p)) = some k := by
    rw [List.findIdx?_eq_some_iff_getElem]
    exact ⟨hk, by simpa using h, fun j hj => by simpa using hb j hj⟩
  unfold findI
  rw [e]
theorem findI_none {rs : List Rl} {p : ByteArray} (h : ∀ j (hj : j < rs.length), rs[j].p ≠ p) : findI rs p = -1 := by
  have e : rs.findIdx? (fun r => decide (r.p = p)) = none := by
    rw [List.findIdx?_eq_none_iff]
    intro r hr
    obtain ⟨j, hj, rfl⟩ := List.mem_iff_getElem.1 hr
    simpa using h j hj
  unfold findI
  rw [e]
theorem findI_cases (rs : List Rl) (p : ByteArray) : (findI rs p = -1 ∧ ∀ j (hj : j < rs.length), rs[j].p ≠ p) ∨ ∃ (k : Nat) (hk : k < rs.length), findI rs p = k ∧ rs[k].p = p ∧ ∀ j (hj : j < k), rs[j].p ≠ p := by
  cases e : rs.findIdx? (fun r => decide (r.p = p)) with
  | none =>
    rw [List.findIdx?_eq_none_iff] at e
    have h : ∀ j (hj : j < rs.length), rs[j].p ≠ p := fun j hj => by simpa using e _ (List.getElem_mem hj)
    exact Or.inl ⟨findI_none h, h⟩
  | some k =>
    rw [List.findIdx?_eq_some_iff_getElem] at e
    obtain ⟨hk, h1, h2⟩ := e
    have h3 : ∀ j (hj : j < k), rs[j].p ≠ p := fun j hj => by simpa using h2 j hj
    have h4 : rs[k].p = p := by simpa using h1
    exact Or.inr ⟨k, hk, findI_hit hk h4 h3, h4, h3⟩
theorem findI_has (rs : List Rl) (p : ByteArray) : (findI rs p < 0 ↔ hasPre rs p = false) ∧ findI rs p < rs.length ∧ -1 ≤ findI rs p := by
  rcases findI_cases rs p with ⟨h1, h2⟩ | ⟨k, hk, h1, h2, -⟩
  · refine ⟨⟨fun _ => ?_, fun _ => by omega⟩, by omega, by omega⟩
    rw [Bool.eq_false_iff]
    intro q
    obtain ⟨r, hr, e⟩ := List.mem_map.1 (has_pre_iff.1 q)
    obtain ⟨j, hj, rfl⟩ := List.mem_iff_getElem.1 hr
    exact h2 j hj e
  · refine ⟨⟨fun q => by omega, fun q => ?_⟩, by omega, by omega⟩
    rw [Bool.eq_false_iff] at q
    exact absurd (has_pre_iff.2 (List.mem_map.2 ⟨rs[k], List.getElem_mem hk, h2⟩)) q
theorem findI_early {rs : List Rl} {k : Nat} (hk : k < rs.length) : findI rs rs[k].p < k ↔ ∃ (j : Nat) (hj : j < k), rs[j].p = rs[k].p := by
  rcases findI_cases rs rs[k].p with ⟨h1, h2⟩ | ⟨i, hi, h1, h2, h3⟩
  · exact absurd rfl (h2 k hk)
  · constructor
    · intro q
      exact ⟨i, by omega, h2⟩
    · rintro ⟨j, hj, e⟩
      rcases Nat.lt_or_ge j i with q | q
      · exact absurd e (h3 j q)
      · omega
theorem dup_no {rs : List Rl} (h : ∀ k (hk : k < rs.length), ¬ findI rs rs[k].p < k) : (rs.map (·.p)).Nodup := by
  rw [List.nodup_iff_pairwise_ne, List.pairwise_map, List.pairwise_iff_getElem]
  intro i j hi hj hij e
  exact h j hj ((findI_early hj).2 ⟨i, hij, e⟩)
theorem dup_yes {rs : List Rl} {k : Nat} (hk : k < rs.length) (h : findI rs rs[k].p < k) : ¬ (rs.map (·.p)).Nodup := by
  intro q
  obtain ⟨j, hj, e⟩ := (findI_early hk).1 h
  rw [List.nodup_iff_pairwise_ne, List.pairwise_map, List.pairwise_iff_getElem] at q
  exact q j k (by omega) hk hj e
theorem rest_no {rs : List Rl} (h : hasPre rs ⟨#[]⟩ = false) : cfgRest rs = 31 := by
  unfold cfgRest
  cases q : ordL Rl.key rs with
  | nil => rfl
  | cons r t =>
    rw [restL_cons, if_neg]
    intro e
    rw [Bool.eq_false_iff] at h
    apply h
    rw [has_pre_iff]
    have p := (ordL_perm (key := Rl.key) rs).map (·.p)
    rw [← p.mem_iff, q]
    exact List.mem_map.2 ⟨r, by simp, e⟩
theorem rest_yes {rs : List Rl} (h : hasPre rs ⟨#[]⟩ = true) : (¬ (rs.map (·.p)).Nodup → cfgRest rs = 28) ∧ ((rs.map (·.p)).Nodup → cfgRest rs = 0) := by
  have p := (ordL_perm (key := Rl.key) rs).map (·.p)
  obtain ⟨r, t, e, hr⟩ := first_dft (ordL_up rs) (p.mem_iff.2 (has_pre_iff.1 h))
  unfold cfgRest
  have hs : (rs.map (·.p)).Nodup → sortedB ((ordL Rl.key rs).map (·.p)) = true := fun n => sorted_up (ordL_up rs) (p.nodup_iff.2 n)
  have hs2 : sortedB ((ordL Rl.key rs).map (·.p)) = true → (rs.map (·.p)).Nodup := fun n => p.nodup_iff.1 (sorted_nodup n)
  rw [e] at hs hs2 ⊢
  rw [restL_cons, if_pos hr]
  constructor
  · intro n
    rw [if_neg fun q => n (hs2 q)]
  · intro n
    rw [if_pos (hs n)]
/-- a rule is put into an order -/
theorem ordL_put {l A B : List Rl} {r : Rl} (h : ordL Rl.key l = A ++ B) (h1 : ∀ x ∈ B, r.key < x.key) (h2 : ∀ A' a, A = A' ++ [a] → ¬ r.key < a.key) : ordL Rl.key (l ++ [r]) = A ++ r :: B := by
  have up := ordL_up (key := Rl.key) l
  have sm := ordL_same (key := Rl.key) l
  rw [h] at up sm
  obtain ⟨u1, u2, u3⟩ := List.pairwise_append.1 up
  have hA : ∀ x ∈ A, ¬ r.key < x.key := by
    intro x hx q
    have hne : A ≠ [] := List.ne_nil_of_mem hx
    have e := List.dropLast_concat_getLast hne
    have hl := h2 _ _ e.symm
    rw [← e] at hx u1
    rcases List.mem_append.1 hx with hx | hx
    · have := (List.pairwise_append.1 u1).2.2 x hx _ (List.mem_singleton.2 rfl)
      exact le_trans' this hl q
    · rw [List.mem_singleton.1 hx] at q
      exact hl q
  refine (ordL_of ?_ ?_).symm
  · refine List.pairwise_append.2 ⟨u1, List.pairwise_cons.2 ⟨fun x hx => List.lt_asymm (h1 x hx), u2⟩, fun x hx y hy => ?_⟩
    rcases List.mem_cons.1 hy with rfl | hy
    · exact hA x hx
    · exact u3 x hx y hy
  · intro k
    have := sm k
    rw [List.filter_append, this, List.filter_append, List.filter_append]
    by_cases q : r.key = k
    · have hB : B.filter (fun x => decide (x.key = k)) = [] := by
        rw [List.filter_eq_nil_iff]
        intro x hx e
        have e1 : x.key = k := by simpa using e
        have := h1 x hx
        rw [q, e1] at this
        exact List.lt_irrefl _ this
      rw [hB, List.append_nil, List.filter_cons, List.filter_cons, if_pos (by simpa using q), hB, if_pos (by simpa using q)]
      rfl
    · rw [List.filter_cons, if_neg (by simpa using q), List.filter_cons, if_neg (by simpa using q)]
      simp
end Go.Proofs.YtknlojlcahgnoaaGreat

namespace Go.Proofs.YtknlojlcahgnoaaGreat
open Go.RowKit
set_option linter.unusedVariables false
set_option linter.unusedSimpArgs false

set_option maxHeartbeats 1000000 in
set_option maxRecDepth 100000 in
theorem ref12_find (v : Value) (rs : List Rl) (p : ByteArray) (w : World) (h : RulesAt w v rs) (hl : rs.length ≤ 1000000000) :
    Calls Tryz.prog 88 #[v, .string p] w fun x w' => x = .returned (.int .i64 (findI rs p)) ∧ w = w' := by
  obtain ⟨a, c, rfl⟩ := h.size
  have H := Lib.hid h
  clear h
  go_enter Tryz.func88, Tryz.ntmps88
  go_wp2
  go_loopw [5] (fun i wr => ∃ k : Nat, k ≤ rs.length ∧ i = .int .i64 k ∧ wr = w ∧ Hid (∀ j (hj : j < k) (hj2 : j < rs.length), rs[j].p ≠ p)) (fun i _ => rs.length - (intOf i).toNat)
  case atStart => exact ⟨0, by omega, rfl, rfl, Lib.hid (fun j hj => absurd hj (Nat.not_lt_zero j))⟩
  case round =>
    obtain ⟨k, hk, rfl, rfl, hb⟩ := hrel
    by_cases hlt : k < rs.length
    · obtain ⟨g, o, e, -, q⟩ := H.out.cells Rl.size4 (by decide) k hlt
      cases e
      have c0 : wr.cell? ⟨g, o + k * 4, none⟩ = some (.string rs[k].p) := q 0 (by decide)
      have HIT := Lib.hid (fun e => findI_hit hlt e (fun j hj => hb.out j hj (by omega)))
      have HNX := Lib.hid (fun (ne : rs[k].p ≠ p) => show ∀ j (hj : j < k + 1) (hj2 : j < rs.length), rs[j].p ≠ p from fun j hj hj2 => by
        rcases Nat.lt_or_ge j k with q | q
        · exact hb.out j q hj2
        · have : j = k := by omega
          subst this
          exact ne)
      generalize rs[k].p = pk at *
      clear q hb
      by_cases hp : pk = p
      · subst hp
        go_wp2
        go_ret
        exact ⟨ret_int (by rw [HIT.out trivial]), rfl⟩
      · have hpd : (pk.toList == p.toList) = false := beq_eq_false_iff_ne.2 fun e => hp (toList_inj e)
        go_wp2
        go_roundw
        case rel => exact ⟨k + 1, by omega, by go_num, trivial, Lib.hid (HNX.out hp)⟩
        case measure => simp [intOf]; omega
    · have hkl : k = rs.length := by omega
      have HN := Lib.hid (findI_none (rs := rs) (p := p) (fun j hj => hb.out j (by omega) hj))
      clear hb
      go_wp2
      go_ret
      exact ⟨ret_int (by rw [HN.out]), rfl⟩
set_option maxHeartbeats 2000000 in
set_option maxRecDepth 100000 in
theorem ref12_Right (most : Int) (v : Value) (rs : List Rl) (w : World) (hm0 : -9223372036854775808 ≤ most) (hm1 : most ≤ 9223372036854775807) (hv : RulesAt w v rs) (hro : ∀ r ∈ rs, RlOk r) (hlen : rs.length ≤ 1000000000) :
    Calls Tryz.prog 39 #[.agg #[.int .i64 most, v]] w fun x w' => x = .returned (.int .i64 (cfgErr most rs)) ∧ Ext w w' := by
  obtain ⟨a, c, rfl⟩ := hv.size
  have hx0 : Ext w (w.alloc (.cells #[.int .i64 most, .slice a rs.length c] 28)) := (Ext.refl w).alloc _
  have bP := Blk.new w #[.int .i64 most, .slice a rs.length c] 28
  have HV := Lib.hid (hv.ext Rl.size4 hx0)
  have HRO := Lib.hid hro
  clear hv hro
  go_enter Tryz.func39, Tryz.ntmps39
  go_upto_region 1 with fail
  generalize w.alloc (.cells #[.int .i64 most, .slice a rs.length c] 28) = w0 at *
  have c0 : w0.cell? ⟨w.heap.size, 0, none⟩ = some (.int .i64 most) := bP.cell 0
  have c1 : w0.cell? ⟨w.heap.size, 1, none⟩ = some (.slice a rs.length c) := bP.cell 1
  have HX0 := Lib.hid hx0
  clear bP hx0
  by_cases hm : most < 1 ∨ 1000000 < most
  · have HE := Lib.hid (cfgErr_most (rs := rs) hm)
    rcases hm with hm | hm
    · go_wp2_with fail
      go_ret
      exact ⟨ret_int (by rw [HE.out]), HX0.out⟩
    · have hm2 : ¬ most < 1 := by omega
      go_wp2_with fail
      go_ret
      exact ⟨ret_int (by rw [HE.out]), HX0.out⟩
  · have hm2 : ¬ most < 1 := by omega
    have hm3 : ¬ 1000000 < most := by omega
    have HM := Lib.hid hm
    clear hm
    by_cases hl : 1000 < rs.length
    · have HE := Lib.hid (cfgErr_many HM.out hl)
      have hl2 : (1000 : Int) < rs.length := by omega
      go_wp2_with fail
      go_ret
      exact ⟨ret_int (by rw [HE.out]), HX0.out⟩
    · have hl2 : ¬ (1000 : Int) < rs.length := by omega
      have HL := Lib.hid hl
      go_wp2_with fail
      go_loopw [3] (fun i wr => ∃ k : Nat, k ≤ rs.length ∧ i = .int .i64 k ∧ Ext w0 wr ∧ Hid (∀ r ∈ rs.take k, rErr r = 0)) (fun i _ => rs.length - (intOf i).toNat)
      case atStart => exact ⟨0, by omega, rfl, Ext.refl _, Lib.hid (by simp)⟩
      case round =>
        obtain ⟨k, hk, rfl, hx, hb⟩ := hrel
        have d1 := hx.keep c1
        have HX := Lib.hid hx
        by_cases hlt : k < rs.length
        · obtain ⟨g, o, e, -, q⟩ := (HV.out.ext Rl.size4 hx).cells Rl.size4 (by decide) k hlt
          cases e
          have a0 : wr.cell? ⟨g, o + k * 4, none⟩ = some (.string rs[k].p) := q 0 (by decide)
          have a1 : wr.cell? ⟨g, o + k * 4 + 1, none⟩ = some (.int .u64 rs[k].e) := q 1 (by decide)
          have a2 : wr.cell? ⟨g, o + k * 4 + 2, none⟩ = some (.int .u64 rs[k].b) := q 2 (by decide)
          have a3 : wr.cell? ⟨g, o + k * 4 + 3, none⟩ = some (.int .u8 rs[k].k) := q 3 (by decide)
          obtain ⟨m, e0, e1, b0, b1, -, -⟩ := HRO.out rs[k] (List.getElem_mem hlt)
          have HRI := Lib.hid (fun V => ref11_Right rs[k].p rs[k].e rs[k].b rs[k].k V m e0 e1 b0 b1)
          have HBAD := Lib.hid (fun (ne : rErr rs[k] ≠ 0) => cfgErr_rule HM.out HL.out hlt hb.out ne)
          have HGO := Lib.hid (fun (e : rErr rs[k] = 0) => show ∀ r ∈ rs.take (k + 1), rErr r = 0 from fun r hr => by
            rw [List.take_succ_eq_append_getElem hlt] at hr
            rcases List.mem_append.1 hr with hr | hr
            · exact hb.out r hr
            · rw [List.mem_singleton.1 hr]; exact e)
          have hre : ruleErr rs[k].p rs[k].e rs[k].b rs[k].k = rErr rs[k] := rfl
          rw [hre] at HRI
          generalize rErr rs[k] = E at *
          obtain ⟨r, hr⟩ : ∃ r, rs[k] = r := ⟨_, rfl⟩
          rw [hr] at a0 a1 a2 a3 HRI
          clear q hb hx hre hr m e0 e1 b0 b1
          by_cases hE : E = 0
          · subst hE
            go_wp2_with (first | (go_at_call 89; refine (HRI.out _).mono ?_; rintro x w2 ⟨rfl, hx2⟩) | fail)
            go_roundw
            case rel => exact ⟨k + 1, by omega, by go_num, HX.out.trans hx2, Lib.hid (HGO.out trivial)⟩
            case measure => simp [intOf]; omega
          · have hz : (E == 0) = false := by simpa using hE
            have hz2 : decide (E = 0) = false := by simpa using hE
            go_wp2_with (first
              | (go_at_call 89; refine (HRI.out _).mono ?_; rintro x w2 ⟨rfl, hx2⟩; have f1 := hx2.keep d1; have f2 := hx2.keep a0; have f3 := hx2.keep a1; have f4 := hx2.keep a2; have f5 := hx2.keep a3; have HX2 := Lib.hid (HX.out.trans hx2); clear d1 a0 a1 a2 a3 hx2)
              | (go_at_call 89; refine (HRI.out _).mono ?_; rintro x w3 ⟨rfl, hx3⟩)
              | fail)
            go_ret
            exact ⟨ret_int (by rw [HBAD.out hE]), HX0.out.trans (HX2.out.trans hx3)⟩
        · have hkl : k = rs.length := by omega
          have HALL := Lib.hid (show ∀ r ∈ rs, rErr r = 0 from fun r hr => hb.out r (by rw [hkl, List.take_length]; exact hr))
          have HREST := Lib.hid (cfgErr_rest HM.out HL.out HALL.out)
          have HF := Lib.hid (fun V (e : Ext wr V) p => ref12_find _ rs p V ((HV.out.ext Rl.size4 HX.out).ext Rl.size4 e) hlen)
          have HFH := Lib.hid (findI_has rs ⟨#[]⟩)
          have hfl := (findI_has rs ⟨#[]⟩).2
          clear hb hx
          by_cases hd : findI rs ⟨#[]⟩ < 0
          · have HV31 := Lib.hid (HREST.out.trans (rest_no (HFH.out.1.1 hd)))
            have HFC := Lib.hid (HF.out wr (Ext.refl _) ⟨#[]⟩)
            generalize findI rs ⟨#[]⟩ = d at *
            go_wp2_with (first | (go_at_call 88; refine HFC.out.mono ?_; rintro x w2 ⟨rfl, rfl⟩) | fail)
            go_ret
            exact ⟨ret_int (by rw [HV31.out]), HX0.out.trans HX.out⟩
          · have hpre : hasPre rs ⟨#[]⟩ = true := by
              cases q : hasPre rs ⟨#[]⟩ with
              | true => rfl
              | false => exact absurd (HFH.out.1.2 q) hd
            have HY := Lib.hid (rest_yes hpre)
            have HFC := Lib.hid (HF.out wr (Ext.refl _) ⟨#[]⟩)
            generalize findI rs ⟨#[]⟩ = d at *
            go_wp2_with (first | (go_at_call 88; refine HFC.out.mono ?_; rintro x w2 ⟨rfl, rfl⟩) | fail)
            obtain ⟨wk, hwk⟩ : ∃ wk, wk = wr := ⟨_, rfl⟩
            subst hwk
            go_loopw [4] (fun i wz => ∃ k : Nat, k ≤ rs.length ∧ i = .int .i64 k ∧ Ext wk wz ∧ Hid (∀ j (hj : j < rs.length), j < k → ¬ findI rs rs[j].p < j)) (fun i _ => rs.length - (intOf i).toNat)
            case atStart => exact ⟨0, by omega, rfl, Ext.refl _, Lib.hid (fun j hj h => absurd h (Nat.not_lt_zero j))⟩
            case round =>
              obtain ⟨k, hk, rfl, hxz, hb⟩ := hrel
              have d1 := (HX.out.trans hxz).keep c1
              have HXZ := Lib.hid hxz
              by_cases hlt : k < rs.length
              · obtain ⟨g, o, e, -, q⟩ := ((HV.out.ext Rl.size4 HX.out).ext Rl.size4 hxz).cells Rl.size4 (by decide) k hlt
                cases e
                have a0 : wr.cell? ⟨g, o + k * 4, none⟩ = some (.string rs[k].p) := q 0 (by decide)
                have HFK := Lib.hid (fun n => (HF.out (wr.drewN n) (hxz.trans (Ext.drewNs wr n)) rs[k].p).mono (R' := fun e w' => e = .returned (.int .i64 (findI rs rs[k].p)) ∧ w' = wr.drewN n) (fun e w' h => ⟨h.1, h.2.symm⟩))
                have hfb := (findI_has rs rs[k].p).2
                have HDY := Lib.hid (fun (h : findI rs rs[k].p < k) => dup_yes hlt h)
                have HDN := Lib.hid (fun (h : ¬ findI rs rs[k].p < k) => show ∀ j (hj : j < rs.length), j < k + 1 → ¬ findI rs rs[j].p < j from fun j hj h2 => by
                  rcases Nat.lt_or_ge j k with q | q
                  · exact hb.out j hj q
                  · have : j = k := by omega
                    subst this
                    exact h)
                generalize findI rs rs[k].p = f at *
                generalize rs[k].p = pk at *
                obtain ⟨hf1, hf2⟩ := hfb
                clear q hb hxz
                by_cases hfk : f < k
                · have HR := Lib.hid (HY.out.1 (HDY.out hfk))
                  go_upto_region 15 with fail
                  go_quiet ((go_at_call 88; exact Calls.quiet_of_same (HFK.out _)))
                  go_wp2
                  go_ret
                  exact ⟨ret_int (by rw [HREST.out, HR.out]), HX0.out.trans (HX.out.trans (HXZ.out.trans (Ext.drewNs _ _)))⟩
                · go_upto_region 15 with fail
                  go_quiet ((go_at_call 88; exact Calls.quiet_of_same (HFK.out _)))
                  go_wp2
                  go_roundw
                  case rel => exact ⟨k + 1, by omega, by go_num, HXZ.out.trans (Ext.drewNs _ _), Lib.hid (HDN.out hfk)⟩
                  case measure => simp [intOf]; omega
              · have HD := Lib.hid (HY.out.2 (dup_no (fun j hj => hb.out j hj (by omega))))
                clear hb
                go_wp2_with fail
                go_ret
                exact ⟨ret_int (by rw [HREST.out, HD.out]), HX0.out.trans (HX.out.trans HXZ.out)⟩
end Go.Proofs.YtknlojlcahgnoaaGreat

namespace Go.Proofs.YtknlojlcahgnoaaGreat
open Go.RowKit
set_option linter.unusedVariables false
set_option linter.unusedSimpArgs false

theorem key_lt {a b : Rl} : keyLt a.p b.p = true ↔ a.key < b.key := by
  unfold keyLt
  rw [decide_eq_true_eq, keyLt_iff]
  exact Iff.rfl
theorem flat_one12 {l : List Rl} : ∀ u ∈ flatE Rl.cells l, u.oneCell' = true := by
  intro u hu
  unfold flatE at hu
  rw [List.mem_flatMap] at hu
  obtain ⟨s, -, hs⟩ := hu
  simp [Rl.cells] at hs
  rcases hs with rfl | rfl | rfl | rfl <;> rfl
theorem flatE_app12 {l l' : List Rl} : flatE Rl.cells (l ++ l') = flatE Rl.cells l ++ flatE Rl.cells l' := by unfold flatE; rw [List.flatMap_append]
/-- some of a slice, as news -/
theorem rule_news {w : World} {b o n c : Nat} {l : List Rl} (h : RulesAt w (.slice (some ⟨b, o, none⟩) n c) l) (i m : Nat) (hm : i + m ≤ l.length) :
    ∀ j u, (flatE Rl.cells ((l.drop i).take m))[j]? = some u → w.cell? ((⟨b, o + i * 4, none⟩ : Addr).add j) = some u := by
  intro j u hu
  have hlen : ((l.drop i).take m).length = m := by simp; omega
  have hj : j < m * 4 := by
    have : j < (flatE Rl.cells ((l.drop i).take m)).length := by
      rcases Nat.lt_or_ge j (flatE Rl.cells ((l.drop i).take m)).length with q | q
      · exact q
      · rw [List.getElem?_eq_none q] at hu; cases hu
    rw [flatE_len Rl.size4, hlen] at this
    exact this
  have hjd : j / 4 < m := by omega
  have hjm : j % 4 < 4 := by omega
  have e1 : j = j / 4 * 4 + j % 4 := by omega
  rw [e1, flatE_get Rl.size4 _ (j / 4) (j % 4) (by rw [hlen]; exact hjd) hjm] at hu
  obtain ⟨b', o', hv', -, hq⟩ := h.cells Rl.size4 (by decide) (i + j / 4) (by omega)
  cases hv'
  rw [addr_add, show o + i * 4 + j = o + ((i + j / 4) * 4 + j % 4) by omega, hq _ hjm]
  have e3 : ((l.drop i).take m)[j / 4]'(by rw [hlen]; exact hjd) = l[i + j / 4]'(by omega) := by simp
  rw [e3] at hu
  exact hu
/-- the parts of a slice of rules -/
theorem rules_head (a : Option Addr) (n c hi : Nat) (h : hi ≤ c) (ha : 0 < c → ∃ b o, a = some ⟨b, o, none⟩) (V : World) : (Instr.slice 26 (.slice a n c) none (some (.int .i64 (hi : Int))) none).run Tryz.prog V = .ok (.slice a hi c) V := by
  have hz : (sizeOf (Tryz.prog.elem 26)).run Tryz.prog V = .ok 4 V := by kernel_rfl
  rw [run_slice_h V 26 a n c (by kernel_rfl) .i64 (hi : Int) (by omega) (by omega), hz]
  simp only [Result.andThen, sliced, Int.toNat_natCast, Nat.zero_mul, Nat.sub_zero]
  by_cases q : c = 0
  · rw [if_pos q]
  · obtain ⟨b, o, rfl⟩ := ha (by omega)
    rw [if_neg q, Option.map_some, addr_add, Nat.add_zero]
theorem rules_rest (b o n c lo : Nat) (h : lo ≤ n) (hc : n ≤ c) : ∃ b' o', (∀ V, (Instr.slice 26 (.slice (some ⟨b, o, none⟩) n c) (some (.int .i64 (lo : Int))) none none).run Tryz.prog V = .ok (.slice (some ⟨b', o', none⟩) (n - lo) (c - lo)) V) ∧ (lo < n → b' = b ∧ o' = o + lo * 4) := by
  have hz : ∀ V, (sizeOf (Tryz.prog.elem 26)).run Tryz.prog V = .ok 4 V := fun V => by kernel_rfl
  by_cases q : c = lo
  · refine ⟨b, o, fun V => ?_, fun h2 => absurd h2 (by omega)⟩
    rw [run_slice_l V 26 (some ⟨b, o, none⟩) n c (by kernel_rfl) .i64 (lo : Int) (by omega) (by omega), hz]
    simp only [Result.andThen, sliced, Int.toNat_natCast]
    rw [if_pos q]
  · refine ⟨b, o + lo * 4, fun V => ?_, fun _ => ⟨rfl, rfl⟩⟩
    rw [run_slice_l V 26 (some ⟨b, o, none⟩) n c (by kernel_rfl) .i64 (lo : Int) (by omega) (by omega), hz]
    simp only [Result.andThen, sliced, Int.toNat_natCast]
    rw [if_neg q, Option.map_some, addr_add]
theorem put_row {base k j : Nat} {w : World} {v : Value} {L l' : List Rl} {r : Rl} (hL : L.length = k) (hj : j ≤ k) (h : w.ownsRow base 37 4 v (0 + j + 1 + (k - j)) ([] ++ flatE Rl.cells (L.take j) ++ r.cells.toList ++ flatE Rl.cells (L.drop j))) (e : l' = L.take j ++ r :: L.drop j) : RuleRow base w v l' := by
  subst e
  refine RowOf.mk' h (by simp; omega) ?_ ?_
  · rw [show L.take j ++ r :: L.drop j = (L.take j ++ [r]) ++ L.drop j by simp, flatE_app12, flatE_snoc, List.nil_append]
  · obtain ⟨g, cap, rfl⟩ := ownsRow_succ (k := j + (k - j)) (by rw [show j + (k - j) + 1 = 0 + j + 1 + (k - j) by omega]; exact h)
    simp
set_option maxHeartbeats 4000000 in
set_option maxRecDepth 100000 in
theorem ref12_Order (most : Int) (v : Value) (rs : List Rl) (w : World) (h : RulesAt w v rs) (hro : ∀ r ∈ rs, r.p.size ≤ maxLen) (hlen : rs.length ≤ 1000000000) :
    Calls Tryz.prog 40 #[.agg #[.int .i64 most, v]] w fun e w' => ∃ v', e = .returned (.agg #[.int .i64 most, v']) ∧ RuleRow w.heap.size w' v' (ordL Rl.key rs) ∧ Ext w w' := by
  obtain ⟨a, c, rfl⟩ := h.size
  have b1 := (Blk.new w #[.int .i64 most, .slice a rs.length c] 28).alloc (.cells #[.int .i64 0, .slice none 0 0] 28)
  have b2 := Blk.new' (w.alloc (.cells #[.int .i64 most, .slice a rs.length c] 28)) #[.int .i64 0, .slice none 0 0] 28 (b := w.heap.size + 1) (by simp)
  have hx0 : Ext w ((w.alloc (.cells #[.int .i64 most, .slice a rs.length c] 28)).alloc (.cells #[.int .i64 0, .slice none 0 0] 28)) := ((Ext.refl w).alloc _).alloc _
  have H := Lib.hid (h.ext Rl.size4 hx0)
  have HRO := Lib.hid hro
  obtain ⟨i0, hi, hz0, hz1, hz2⟩ := info_parts rule_info
  have HI := Lib.hid (And.intro hi (And.intro hz0 (And.intro hz1 hz2)))
  have hml : (2000000000 : Nat) ≤ maxLen := by decide
  clear h hro hi hz0 hz1 hz2
  go_enter Tryz.func40, Tryz.ntmps40
  go_upto_region 1 with fail
  generalize (w.alloc (.cells #[.int .i64 most, .slice a rs.length c] 28)).alloc (.cells #[.int .i64 0, .slice none 0 0] 28) = w0 at *
  have B1 := Lib.hid b1
  have B2 := Lib.hid b2
  have HX0 := Lib.hid hx0
  have hs0 := hx0.sz
  clear b1 b2 hx0
  go_wp2_with fail
  go_loopw [3, 4] (fun lv i wr => ∃ k : Nat, k ≤ rs.length ∧ i = .int .i64 k ∧ RuleRow w0.heap.size wr lv (ordL Rl.key (rs.take k)) ∧ Ext w0 wr) (fun _ i _ => rs.length - (intOf i).toNat)
  case atStart => exact ⟨0, by omega, rfl, by rw [List.take_zero, show ordL Rl.key ([] : List Rl) = [] from List.length_eq_zero_iff.1 (by rw [ordL_len]; rfl)]; exact RowOf.empty _ _ _ _ _, Ext.refl _⟩
  case round =>
    obtain ⟨k, hk, rfl, hrow, hx⟩ := hrel
    have c1 : wr.cell? ⟨w.heap.size, 1, none⟩ = some (.slice a rs.length c) := (B1.out.ext hx).cell 1
    have HX := Lib.hid hx
    have hsz := hx.sz
    by_cases hlt : k < rs.length
    · have hL : (ordL Rl.key (rs.take k)).length = k := by rw [ordL_len, List.length_take]; omega
      obtain ⟨g, o, e, -, q⟩ := (H.out.ext Rl.size4 hx).cells Rl.size4 (by decide) k hlt
      cases e
      have a0 : wr.cell? ⟨g, o + k * 4, none⟩ = some (.string rs[k].p) := q 0 (by decide)
      have HA : Hid (∀ i, i < 4 → wr.cell? ⟨g, o + (k * 4 + i), none⟩ = (rs[k].cells)[i]?) := Lib.hid (fun i hi => q i hi)
      have hrm := HRO.out rs[k] (List.getElem_mem hlt)
      have HPUT : Hid (∀ j, (∀ x ∈ (ordL Rl.key (rs.take k)).drop j, rs[k].key < x.key) → (∀ A' a, (ordL Rl.key (rs.take k)).take j = A' ++ [a] → ¬ rs[k].key < a.key) → ordL Rl.key (rs.take (k + 1)) = (ordL Rl.key (rs.take k)).take j ++ rs[k] :: (ordL Rl.key (rs.take k)).drop j) := Lib.hid (fun j h1 h2 => by
        rw [List.take_succ_eq_append_getElem hlt]
        exact ordL_put (List.take_append_drop j _).symm h1 h2)
      have HLM : Hid (∀ x ∈ ordL Rl.key (rs.take k), x.p.size ≤ maxLen) := Lib.hid (fun x hx => HRO.out x (List.mem_of_mem_take ((ordL_perm (rs.take k)).mem_iff.1 hx)))
      generalize ordL Rl.key (rs.take k) = L at *
      generalize rs[k] = r at *
      obtain ⟨va, vc, rfl⟩ := hrow.size
      rw [hL]
      have HROW := Lib.hid hrow
      have hcap := hrow.cap
      clear q hrow hx
      obtain ⟨wk, hwk⟩ : ∃ wk, wk = wr := ⟨_, rfl⟩
      subst hwk
      go_wp2_with fail
      go_loopw [5] (fun i wz => ∃ j : Nat, j ≤ k ∧ i = .int .i64 j ∧ Ext wk wz ∧ Hid (∀ x ∈ L.drop j, r.key < x.key)) (fun i _ => (intOf i).toNat)
      case atStart => exact ⟨k, by omega, rfl, Ext.refl _, Lib.hid (by rw [List.drop_of_length_le (by omega)]; simp)⟩
      case round =>
        obtain ⟨j, hj, rfl, hxz, hb⟩ := hrel
        have d0 := hxz.keep a0
        have d1 := hxz.keep c1
        have g0 : ∀ s, (grown wr s).cell? ⟨g, o + k * 4, none⟩ = some (.string r.p) := grown_cell d0
        have g1 : ∀ s, (grown wr s).cell? ⟨w.heap.size, 1, none⟩ = some (.slice (some ⟨g, o, none⟩) rs.length c) := grown_cell d1
        cases j with
        | zero =>
          have dz : decide ((0 : Int) < (0 : Int)) = false := by decide
          go_upto_region 6 with fail
          refine wp_region_grow (by kernel_rfl) (by kernel_rfl) ?_
          repeat (go_big_quiet_step (fail))
          refine wpQuiet_nil ?_
          rintro _ ⟨sg, rfl⟩
          have hxg := hxz.trans (grown_ext wr sg)
          generalize grown wr sg = w2 at *
          have HEQ := Lib.hid (HPUT.out 0 hb.out (fun A' a q => by simp at q))
--TAIL 0
          have HXG := Lib.hid hxg
          have h2s := hxg.sz
          have HAT := Lib.hid (RowOf.elems Rl.size4 HROW.out)
          clear g0 g1 d0 d1 hxz hb
          by_cases hk0 : k = 0
          · subst hk0
            have hLn : L = [] := List.length_eq_zero_iff.1 hL
            subst hLn
            have hnil := HROW.out.nil.2 rfl
            simp only [Value.slice.injEq] at hnil
            obtain ⟨rfl, -, rfl⟩ := hnil
            have e1 := (hxg).keep c1; have e2 : w2.cell? ⟨g, o, none⟩ = some (.string r.p) := (hxg).keep (by simpa [Rl.cells] using HA.out 0 (by decide)); have e3 : w2.cell? ⟨g, o + 1, none⟩ = some (.int .u64 r.e) := (hxg).keep (by simpa [Rl.cells] using HA.out 1 (by decide)); have e4 : w2.cell? ⟨g, o + 2, none⟩ = some (.int .u64 r.b) := (hxg).keep (by simpa [Rl.cells] using HA.out 2 (by decide)); have e5 : w2.cell? ⟨g, o + 3, none⟩ = some (.int .u8 r.k) := (hxg).keep (by simpa [Rl.cells] using HA.out 3 (by decide))
            clear hxg c1 a0
            go_wp2_with (first
              | (at_builtin; refine wpList_append_own_none rfl (.tmp 35) (.tmp 38) 26 rfl w2.heap.size 37 i0 4 Tryz.underlying26 HI.out.1 (.slice none 0 0) 0 [] rfl (World.ownsRow_nil _ _ _ _) rfl ?_)
              | (at_builtin; refine wpList_append_own _ rfl (.tmp 40) (.tmp 46) 26 rfl w2.heap.size 37 i0 (.agg #[.string ⟨#[]⟩, .int .u64 0, .int .u64 0, .int .u8 0]) 4 40 Tryz.underlying26 HI.out.1 HI.out.2.1 HI.out.2.2.1 HI.out.2.2.2 rfl (by decide) (.slice none 0 0) 0 [] rfl (World.ownsRow_nil _ _ _ _) ⟨w2.heap.size, 0, none⟩ 1 1 [.string r.p, .int .u64 r.e, .int .u64 r.b, .int .u8 r.k] rfl rfl (blk_news (C := #[.string r.p, .int .u64 r.e, .int .u64 r.b, .int .u8 r.k]) (Blk.new _ _ _)) (by simp [Value.oneCell']) (by omega) (by omega) (by simp) ?_; rintro v4 w4 hown4 hgrow4 -; have hx4 : Ext w2 w4 := Ext.grownAt ((Ext.refl w2).alloc _) (World.ownsRow_nil _ _ 37 4) (Nat.le_refl _) hgrow4; have h4s := hx4.sz)
              | (at_builtin; refine wpList_append_own_none rfl (.tmp 48) (.tmp 51) 26 rfl w2.heap.size 37 i0 4 Tryz.underlying26 HI.out.1 _ _ _ rfl hown4 rfl ?_)
              | fail)
            have hrow : RuleRow w2.heap.size w4 v4 (ordL Rl.key (rs.take 1)) := rulerow_more (l := []) hown4 (by rw [HEQ.out]; rfl)
            clear hown4
            go_roundw
            case rel => exact ⟨1, by omega, by go_num, hrow.low (by omega), HX.out.trans (HXG.out.trans hx4)⟩
            case measure => simp [intOf]; omega
          · obtain ⟨lb, lc, hv', -, hbl, -⟩ := HROW.out.cells Rl.size4 0 (by omega)
            rw [hL] at hv'
            simp only [Value.slice.injEq, true_and] at hv'
            obtain ⟨rfl, rfl⟩ := hv'
            have hs1 := fun V => rules_head (some ⟨lb, 0, none⟩) k vc 0 (by omega) (fun _ => ⟨_, _, rfl⟩) V
            obtain ⟨rb, ro, hs2, hrr⟩ := rules_rest lb 0 k vc 0 (by omega) (by omega)
            obtain ⟨hrb, hro⟩ := hrr (by omega)
            have hrb := hrb.symm
            subst hrb
            have hro0 : ro = 0 := by omega
            subst hro0
            have hat := HAT.out
            rw [hL] at hat
            have n1 : ∀ i u, (flatE Rl.cells (L.take 0))[i]? = some u → w2.cell? ((⟨lb, 0, none⟩ : Addr).add i) = some u := fun i u hu => hxg.keep (by
              have := rule_news hat 0 0 (by omega) i u (by simpa using hu)
              simpa using this)
            clear hrr hro hs2
            have n2 : ∀ i u, (flatE Rl.cells (L.drop 0))[i]? = some u → w2.cell? ((⟨lb, 0, none⟩ : Addr).add i) = some u := fun i u hu => hxg.keep (by
              have e : (L.drop 0).take k = L.drop 0 := List.take_of_length_le (by simp; omega)
              exact rule_news hat 0 k (by omega) i u (by rw [e]; exact hu))
            have l1 : (flatE Rl.cells (L.take 0)).length = 0 * 4 := by rw [flatE_len Rl.size4, List.length_take]; omega
            have l2 : (flatE Rl.cells (L.drop 0)).length = (k - 0) * 4 := by rw [flatE_len Rl.size4, List.length_drop, hL]
            have HN := Lib.hid (And.intro n1 (And.intro n2 (And.intro l1 l2)))
            have HHL := Lib.hid hL
            clear hat n1 n2 l1 l2 hL
            go_wp2_with (first
              | (at_builtin; refine wpList_append_own _ rfl (.tmp 35) (.tmp 38) 26 rfl w2.heap.size 37 i0 (.agg #[.string ⟨#[]⟩, .int .u64 0, .int .u64 0, .int .u8 0]) 4 40 Tryz.underlying26 HI.out.1 HI.out.2.1 HI.out.2.2.1 HI.out.2.2.2 rfl (by decide) (.slice none 0 0) 0 [] rfl (World.ownsRow_nil _ _ _ _) ⟨lb, 0, none⟩ 0 vc (flatE Rl.cells (L.take 0)) rfl HN.out.2.2.1 HN.out.1 flat_one12 (by omega) (by omega) (Nat.le_refl _) ?_; rintro v3 w3 hown3 hgrow3 -; have hx3 : Ext w2 w3 := Ext.grownAt (Ext.refl _) (World.ownsRow_nil _ _ 37 4) (Nat.le_refl _) hgrow3; have h3s := hx3.sz; have e1 := (hxg.trans hx3).keep c1; have e2 : w3.cell? ⟨g, o + k * 4, none⟩ = some (.string r.p) := (hxg.trans hx3).keep (HA.out 0 (by decide)); have e3 : w3.cell? ⟨g, o + k * 4 + 1, none⟩ = some (.int .u64 r.e) := (hxg.trans hx3).keep (HA.out 1 (by decide)); have e4 : w3.cell? ⟨g, o + k * 4 + 2, none⟩ = some (.int .u64 r.b) := (hxg.trans hx3).keep (HA.out 2 (by decide)); have e5 : w3.cell? ⟨g, o + k * 4 + 3, none⟩ = some (.int .u8 r.k) := (hxg.trans hx3).keep (HA.out 3 (by decide)))
              | (at_builtin; refine wpList_append_own _ rfl (.tmp 40) (.tmp 46) 26 rfl w2.heap.size 37 i0 (.agg #[.string ⟨#[]⟩, .int .u64 0, .int .u64 0, .int .u8 0]) 4 40 Tryz.underlying26 HI.out.1 HI.out.2.1 HI.out.2.2.1 HI.out.2.2.2 rfl (by decide) _ _ _ rfl (hown3.alloc _) ⟨w3.heap.size, 0, none⟩ 1 1 [.string r.p, .int .u64 r.e, .int .u64 r.b, .int .u8 r.k] rfl rfl (blk_news (C := #[.string r.p, .int .u64 r.e, .int .u64 r.b, .int .u8 r.k]) (Blk.new _ _ _)) (by simp [Value.oneCell']) (by omega) (by omega) (by simp; omega) ?_; rintro v4 w4 hown4 hgrow4 -; have hx4 : Ext w2 w4 := Ext.grownAt (hx3.alloc _) (hown3.alloc _) (Nat.le_refl _) hgrow4; have h4s := hx4.sz)
              | (at_builtin; refine wpList_append_own _ rfl (.tmp 48) (.tmp 51) 26 rfl w2.heap.size 37 i0 (.agg #[.string ⟨#[]⟩, .int .u64 0, .int .u64 0, .int .u8 0]) 4 40 Tryz.underlying26 HI.out.1 HI.out.2.1 HI.out.2.2.1 HI.out.2.2.2 rfl (by decide) _ _ _ rfl hown4 ⟨lb, 0, none⟩ k vc (flatE Rl.cells (L.drop 0)) rfl HN.out.2.2.2 (fun i u hu => hx4.keep (HN.out.2.1 i u hu)) flat_one12 (by omega) (by omega) (by omega) ?_; rintro v5 w5 hown5 hgrow5 -; have hx5 : Ext w2 w5 := Ext.grownAt hx4 hown4 (Nat.le_refl _) hgrow5)
              | fail)
            have hrow := put_row (r := r) HHL.out (by omega) hown5 HEQ.out
            clear hown3 hown4 hown5
            go_roundw
            case rel => exact ⟨k + 1, by omega, by go_num, hrow.low (by omega), HX.out.trans (HXG.out.trans hx5)⟩
            case measure => simp [intOf]; omega
--ENDTAIL
        | succ j =>
          obtain ⟨lb, lc, hv', -, hbl, hq⟩ := HROW.out.cells Rl.size4 j (by omega)
          rw [hL] at hv'
          simp only [Value.slice.injEq, true_and] at hv'
          obtain ⟨rfl, hvc⟩ := hv'
          clear hvc
          have b0 : wr.cell? ⟨lb, j * 4, none⟩ = some (.string (L[j]'(by omega)).p) := hxz.keep (hq 0 (by decide))
          have gb : ∀ s, (grown wr s).cell? ⟨lb, j * 4, none⟩ = some (.string (L[j]'(by omega)).p) := grown_cell b0
          have hxm := HLM.out (L[j]'(by omega)) (List.getElem_mem _)
          have HL := Lib.hid (fun W => ref09_Less r.p (L[j]'(by omega)).p W hrm hxm)
          have HKL := Lib.hid (key_lt (a := r) (b := L[j]'(by omega)))
          have HDR : Hid (L.drop j = (L[j]'(by omega)) :: L.drop (j + 1)) := Lib.hid (List.drop_eq_getElem_cons (by omega))
          have HTK : Hid (L.take (j + 1) = L.take j ++ [L[j]'(by omega)]) := Lib.hid (List.take_succ_eq_append_getElem (by omega))
          have dz : decide ((0 : Int) < ((j + 1 : Nat) : Int)) = true := by simp
          have hj1 : IntKind.i64.wrap (((j + 1 : Nat) : Int) - 1) = (j : Int) := by simp [IntKind.wrap, IntKind.signed, IntKind.bits]; omega
          clear hq b0
          generalize (L[j]'(by omega)) = x at *
          cases hkl : keyLt r.p x.p with
          | true =>
            rw [hkl] at HL
            have HNX : Hid (∀ y ∈ L.drop j, r.key < y.key) := Lib.hid (by
              rw [HDR.out]
              intro y hy
              rcases List.mem_cons.1 hy with rfl | hy
              · exact HKL.out.1 hkl
              · exact hb.out y hy)
            clear hkl hb
            go_upto_region 6 with fail
            refine wp_region_grow (by kernel_rfl) (by kernel_rfl) ?_
            repeat (go_big_quiet_step (first | (go_at_call 55; exact grow_call (HL.out _))))
            refine wpQuiet_nil ?_
            rintro _ ⟨sg, rfl⟩
            have hxg := hxz.trans (grown_ext wr sg)
            generalize grown wr sg = w2 at *
            go_wp2
            go_roundw
            case rel => exact ⟨j, by omega, by go_num, hxg, HNX⟩
            case measure => simp [intOf]
          | false =>
            rw [hkl] at HL
            have HEQ := Lib.hid (HPUT.out (j + 1) hb.out (fun A' a q lt => by
              rw [HTK.out] at q
              obtain ⟨-, q2⟩ := List.append_inj' q rfl
              simp only [List.cons.injEq, and_true] at q2
              subst q2
              have := HKL.out.2 lt
              rw [hkl] at this
              cases this))
            clear hkl
            go_upto_region 6 with fail
            refine wp_region_grow (by kernel_rfl) (by kernel_rfl) ?_
            repeat (go_big_quiet_step (first | (go_at_call 55; exact grow_call (HL.out _))))
            refine wpQuiet_nil ?_
            rintro _ ⟨sg, rfl⟩
            have hxg := hxz.trans (grown_ext wr sg)
            generalize grown wr sg = w2 at *
            clear gb hxm HDR HTK hj1 dz
            generalize hjj : j + 1 = jj at *
            have hjpos : 0 < jj := by omega
            clear hjj
--TAIL jj
            have HXG := Lib.hid hxg
            have h2s := hxg.sz
            have HAT := Lib.hid (RowOf.elems Rl.size4 HROW.out)
            clear g0 g1 d0 d1 hxz hb
            by_cases hk0 : k = 0
            · omega
            · skip
              have hs1 := fun V => rules_head (some ⟨lb, 0, none⟩) k vc jj (by omega) (fun _ => ⟨_, _, rfl⟩) V
              obtain ⟨rb, ro, hs2, hrr⟩ := rules_rest lb 0 k vc jj (by omega) (by omega)
              have hat := HAT.out
              rw [hL] at hat
              have n1 : ∀ i u, (flatE Rl.cells (L.take jj))[i]? = some u → w2.cell? ((⟨lb, 0, none⟩ : Addr).add i) = some u := fun i u hu => hxg.keep (by
                have := rule_news hat 0 jj (by omega) i u (by simpa using hu)
                simpa using this)
              have n2 : ∀ i u, (flatE Rl.cells (L.drop jj))[i]? = some u → w2.cell? ((⟨rb, ro, none⟩ : Addr).add i) = some u := fun i u hu => hxg.keep (by
                by_cases q : jj < k
                · obtain ⟨q1, q2⟩ := hrr q
                  rw [q1, q2]
                  have e : (L.drop jj).take (k - jj) = L.drop jj := List.take_of_length_le (by simp; omega)
                  exact rule_news hat jj (k - jj) (by omega) i u (by rw [e]; exact hu)
                · rw [List.drop_of_length_le (by omega)] at hu
                  simp [flatE] at hu)
              have l1 : (flatE Rl.cells (L.take jj)).length = jj * 4 := by rw [flatE_len Rl.size4, List.length_take]; omega
              have l2 : (flatE Rl.cells (L.drop jj)).length = (k - jj) * 4 := by rw [flatE_len Rl.size4, List.length_drop, hL]
              have HN := Lib.hid (And.intro n1 (And.intro n2 (And.intro l1 l2)))
              have HHL := Lib.hid hL
              clear hrr hat n1 n2 l1 l2 hL
              go_wp2_with (first
                | (at_builtin; refine wpList_append_own _ rfl (.tmp 35) (.tmp 38) 26 rfl w2.heap.size 37 i0 (.agg #[.string ⟨#[]⟩, .int .u64 0, .int .u64 0, .int .u8 0]) 4 40 Tryz.underlying26 HI.out.1 HI.out.2.1 HI.out.2.2.1 HI.out.2.2.2 rfl (by decide) (.slice none 0 0) 0 [] rfl (World.ownsRow_nil _ _ _ _) ⟨lb, 0, none⟩ jj vc (flatE Rl.cells (L.take jj)) rfl HN.out.2.2.1 HN.out.1 flat_one12 (by omega) (by omega) (Nat.le_refl _) ?_; rintro v3 w3 hown3 hgrow3 -; have hx3 : Ext w2 w3 := Ext.grownAt (Ext.refl _) (World.ownsRow_nil _ _ 37 4) (Nat.le_refl _) hgrow3; have h3s := hx3.sz; have e1 := (hxg.trans hx3).keep c1; have e2 : w3.cell? ⟨g, o + k * 4, none⟩ = some (.string r.p) := (hxg.trans hx3).keep (HA.out 0 (by decide)); have e3 : w3.cell? ⟨g, o + k * 4 + 1, none⟩ = some (.int .u64 r.e) := (hxg.trans hx3).keep (HA.out 1 (by decide)); have e4 : w3.cell? ⟨g, o + k * 4 + 2, none⟩ = some (.int .u64 r.b) := (hxg.trans hx3).keep (HA.out 2 (by decide)); have e5 : w3.cell? ⟨g, o + k * 4 + 3, none⟩ = some (.int .u8 r.k) := (hxg.trans hx3).keep (HA.out 3 (by decide)))
                | (at_builtin; refine wpList_append_own _ rfl (.tmp 40) (.tmp 46) 26 rfl w2.heap.size 37 i0 (.agg #[.string ⟨#[]⟩, .int .u64 0, .int .u64 0, .int .u8 0]) 4 40 Tryz.underlying26 HI.out.1 HI.out.2.1 HI.out.2.2.1 HI.out.2.2.2 rfl (by decide) _ _ _ rfl (hown3.alloc _) ⟨w3.heap.size, 0, none⟩ 1 1 [.string r.p, .int .u64 r.e, .int .u64 r.b, .int .u8 r.k] rfl rfl (blk_news (C := #[.string r.p, .int .u64 r.e, .int .u64 r.b, .int .u8 r.k]) (Blk.new _ _ _)) (by simp [Value.oneCell']) (by omega) (by omega) (by simp; omega) ?_; rintro v4 w4 hown4 hgrow4 -; have hx4 : Ext w2 w4 := Ext.grownAt (hx3.alloc _) (hown3.alloc _) (Nat.le_refl _) hgrow4; have h4s := hx4.sz)
                | (at_builtin; refine wpList_append_own _ rfl (.tmp 48) (.tmp 51) 26 rfl w2.heap.size 37 i0 (.agg #[.string ⟨#[]⟩, .int .u64 0, .int .u64 0, .int .u8 0]) 4 40 Tryz.underlying26 HI.out.1 HI.out.2.1 HI.out.2.2.1 HI.out.2.2.2 rfl (by decide) _ _ _ rfl hown4 ⟨rb, ro, none⟩ (k - jj) (vc - jj) (flatE Rl.cells (L.drop jj)) rfl HN.out.2.2.2 (fun i u hu => hx4.keep (HN.out.2.1 i u hu)) flat_one12 (by omega) (by omega) (by omega) ?_; rintro v5 w5 hown5 hgrow5 -; have hx5 : Ext w2 w5 := Ext.grownAt hx4 hown4 (Nat.le_refl _) hgrow5)
                | fail)
              have hrow := put_row (r := r) HHL.out (by omega) hown5 HEQ.out
              clear hown3 hown4 hown5
              go_roundw
              case rel => exact ⟨k + 1, by omega, by go_num, hrow.low (by omega), HX.out.trans (HXG.out.trans hx5)⟩
              case measure => simp [intOf]; omega
--ENDTAIL
    · have hkl : k = rs.length := by omega
      subst hkl
      rw [List.take_length] at hrow
      have hol : (ordL Rl.key rs).length = rs.length := ordL_len rs
      obtain ⟨va, vc, rfl⟩ := hrow.size
      have hP1 := B1.out.ext hx
      have hP2 := B2.out.ext hx
      have d0 : wr.cell? ⟨w.heap.size, 0, none⟩ = some (.int .i64 most) := hP1.cell 0
      have r0 : wr.cell? ⟨w.heap.size + 1, 0, none⟩ = some (.int .i64 0) := hP2.cell 0
      have r1 : wr.cell? ⟨w.heap.size + 1, 1, none⟩ = some (.slice none 0 0) := hP2.cell 1
      have f0 := hP1.free 0
      have f1 := hP1.free 1
      have e0 := hP2.free 0
      have e1 := hP2.free 1
      have l1 := hP1.lt
      have l2 := hP2.lt
      have HP1 := Lib.hid hP1
      have HP2 := Lib.hid hP2
      have HROW := Lib.hid hrow
      have HX := Lib.hid hx
      clear hP1 hP2 hrow hx
      rw [hol] at *
      go_wp2_with fail
      refine ret_cell Tryz.results40 rfl (((HP2.out.other (a := ⟨w.heap.size, 1, none⟩) (by dsimp only; omega) (.slice va rs.length vc)).set 0 (.int .i64 most)).set 1 (.slice va rs.length vc)) Tryz.underlying28 rfl (by kernel_rfl) ?_
      refine ⟨_, rfl, ?_, ?_⟩
      · have hlt1 := B1.out.lt
        have hlt2 := B2.out.lt
        have h1 : RuleRow w0.heap.size (((wr.setCell ⟨w.heap.size, 1, none⟩ (.slice va rs.length vc)).setCell ⟨w.heap.size + 1, 0, none⟩ (.int .i64 most)).setCell ⟨w.heap.size + 1, 1, none⟩ (.slice va rs.length vc)) (.slice va rs.length vc) (ordL Rl.key rs) := ⟨own_extB (own_extB HROW.out.own ((ExtB.refl w.heap.size wr).setCell 1 (.slice va rs.length vc)) hlt1) (((ExtB.refl (w.heap.size + 1) _).setCell 0 (.int .i64 most)).setCell 1 (.slice va rs.length vc)) hlt2, HROW.out.nil⟩
        exact h1.low (by omega)
      · exact (((HX0.out.trans HX.out).setCell (p := ⟨w.heap.size, 1, none⟩) (Nat.le_refl _) _).setCell (p := ⟨w.heap.size + 1, 0, none⟩) (by dsimp only; omega) _).setCell (p := ⟨w.heap.size + 1, 1, none⟩) (by dsimp only; omega) _
end Go.Proofs.YtknlojlcahgnoaaGreat

namespace Go.Proofs.YtknlojlcahgnoaaGreat
open Go.RowKit
set_option linter.unusedVariables false
set_option linter.unusedSimpArgs false

section
variable {P : Program}
theorem ret_ctt {fn : Func} {R : Ending → World → Prop} {tmps : Array Value} {w : World} {p q r : Tmp} {ty t : TypeId} {g : Nat} {C : Array Value} {d : TypeDesc} {v u : Value} (h : fn.results = #[.cell p ty, .tmp q, .tmp r])
    (hp : tmps.getD p undef = .pointer (some ⟨g, 0, none⟩)) (hq : tmps.getD q undef = v) (hr : tmps.getD r undef = u) (hB : Blk w g C t) (hu : P.underlying ty = some d) (hd : aggKind d = true) (hi : (P.info? ty).map (·.size) = some C.size)
    (hR : R (.returned (.tuple #[.agg C, v, u])) w) : bodyPost P fn R .ret { tmps := tmps, defers := [] } w := by
  refine bodyPost_ret (v := .tuple #[.agg C, v, u]) ?_ rfl hR
  have hp' : tmps[p]?.getD undef = .pointer (some ⟨g, 0, none⟩) := by simpa using hp
  have hq' : tmps[q]?.getD undef = v := by simpa using hq
  have hr' : tmps[r]?.getD undef = u := by simpa using hr
  simp [results, h, hp', hq', hr', asAddr, run_loadVar_blk hB hu hd hi]
theorem ret_ctc {fn : Func} {R : Ending → World → Prop} {tmps : Array Value} {w : World} {p q r : Tmp} {ty t ty2 t2 : TypeId} {g g2 : Nat} {C D : Array Value} {d d2 : TypeDesc} {v : Value} (h : fn.results = #[.cell p ty, .tmp q, .cell r ty2])
    (hp : tmps.getD p undef = .pointer (some ⟨g, 0, none⟩)) (hq : tmps.getD q undef = v) (hr : tmps.getD r undef = .pointer (some ⟨g2, 0, none⟩)) (hB : Blk w g C t) (hu : P.underlying ty = some d) (hd : aggKind d = true) (hi : (P.info? ty).map (·.size) = some C.size)
    (hB2 : Blk w g2 D t2) (hu2 : P.underlying ty2 = some d2) (hd2 : aggKind d2 = true) (hi2 : (P.info? ty2).map (·.size) = some D.size)
    (hR : R (.returned (.tuple #[.agg C, v, .agg D])) w) : bodyPost P fn R .ret { tmps := tmps, defers := [] } w := by
  refine bodyPost_ret (v := .tuple #[.agg C, v, .agg D]) ?_ rfl hR
  have hp' : tmps[p]?.getD undef = .pointer (some ⟨g, 0, none⟩) := by simpa using hp
  have hq' : tmps[q]?.getD undef = v := by simpa using hq
  have hr' : tmps[r]?.getD undef = .pointer (some ⟨g2, 0, none⟩) := by simpa using hr
  simp [results, h, hp', hq', hr', asAddr, run_loadVar_blk hB hu hd hi, run_loadVar_blk hB2 hu2 hd2 hi2]
end
set_option maxHeartbeats 2000000 in
set_option maxRecDepth 100000 in
theorem ref12_size (most : Int) (v lv : Value) (ws : List Wd) (w : World) (hm0 : 0 ≤ most) (hm1 : most ≤ 1000000) (hv : ∃ a n c, v = .slice a n c) (hl : StrSlice w lv (wTexts ws)) :
    Calls Tryz.prog 136 #[.agg #[.int .i64 most, v], lv] w fun x w' => ∃ m', x = .returned (.tuple #[.agg #[.int .i64 m', v], .int .i64 (szErr most ws).1, .int .i64 ((szErr most ws).2 : Nat)]) ∧ ((szErr most ws).1 = 0 → m' = digNum (wdAt ws 1).t) ∧ Ext w w' := by
  obtain ⟨va, vn, vc, rfl⟩ := hv
  obtain ⟨⟨a, c, rfl, hc⟩, -, heach⟩ := hl
  have hwl : (wTexts ws).length = ws.length := by unfold wTexts; simp
  have HWL := Lib.hid hwl
  rw [hwl]
  clear hwl
  have b1 := (Blk.new w #[.int .i64 most, .slice va vn vc] 28).alloc (.cells #[.int .i64 0, .slice none 0 0] 28)
  have b2 := Blk.new' (w.alloc (.cells #[.int .i64 most, .slice va vn vc] 28)) #[.int .i64 0, .slice none 0 0] 28 (b := w.heap.size + 1) (by simp)
  have hx0 : Ext w ((w.alloc (.cells #[.int .i64 most, .slice va vn vc] 28)).alloc (.cells #[.int .i64 0, .slice none 0 0] 28)) := ((Ext.refl w).alloc _).alloc _
  have HC := Lib.hid hc
  have HE := Lib.hid heach
  clear hc heach
  go_enter Tryz.func136, Tryz.ntmps136
  go_upto_region 1 with fail
  generalize (w.alloc (.cells #[.int .i64 most, .slice va vn vc] 28)).alloc (.cells #[.int .i64 0, .slice none 0 0] 28) = w0 at *
  have p0 : w0.cell? ⟨w.heap.size, 0, none⟩ = some (.int .i64 most) := b1.cell 0
  have p1 : w0.cell? ⟨w.heap.size, 1, none⟩ = some (.slice va vn vc) := b1.cell 1
  have q0 : w0.cell? ⟨w.heap.size + 1, 0, none⟩ = some (.int .i64 0) := b2.cell 0
  have q1 : w0.cell? ⟨w.heap.size + 1, 1, none⟩ = some (.slice none 0 0) := b2.cell 1
  have f0 := b1.free 0
  have f1 := b1.free 1
  have g0 := b2.free 0
  have g1 := b2.free 1
  have l1 := b1.lt
  have l2 := b2.lt
  have B1 := Lib.hid b1
  have B2 := Lib.hid b2
  have HX0 := Lib.hid hx0
  clear b1 b2 hx0
  by_cases h2 : ws.length = 2
  · by_cases hz : most = 0
    · subst hz
      obtain ⟨b, o, rfl, hcc⟩ := HC.out (by intro q; have := congrArg List.length q; rw [HWL.out, h2] at this; simp at this)
      have hwl := HWL.out
      have ht1 : (wdAt ws 1).t = (wTexts ws)[1]'(by omega) := by rw [wdAt_t, List.getD_eq_getElem?_getD, List.getElem?_eq_getElem (by omega)]; rfl
      have c1 : w0.cell? ⟨b, o + 1, none⟩ = some (.string (wdAt ws 1).t) := by rw [ht1]; exact HX0.out.keep (hcc 1 (by omega))
      have hsz : (wdAt ws 1).t.size ≤ maxLen := by rw [ht1]; exact HE.out _ (List.getElem_mem _)
      have HP := Lib.hid (ref03_Parse (wdAt ws 1).t w0 hsz)
      have hse : szErr 0 ws = if digErr (wdAt ws 1).t ≠ 0 then (digErr (wdAt ws 1).t, 1) else if digNum (wdAt ws 1).t < 1 ∨ 1000000 < digNum (wdAt ws 1).t then (29, 1) else (0, 0) := by
        unfold szErr
        rw [if_neg (by omega), if_neg (by simp)]
      have HSE := Lib.hid hse
      obtain ⟨hn0, hn1⟩ := digNum_bounds (wdAt ws 1).t
      have hl2 : ((ws.length : Int) == 2) = true := by simp; omega
      have hl3 : (ws.length : Int) = 2 := by omega
      rw [h2] at *
      clear hcc hse ht1 hsz hwl
      obtain ⟨de, hde'⟩ : ∃ de, digErr (wdAt ws 1).t = de := ⟨_, rfl⟩
      obtain ⟨dn, hdn'⟩ : ∃ dn, digNum (wdAt ws 1).t = dn := ⟨_, rfl⟩
      have HDN := Lib.hid hdn'
      rw [hde', hdn'] at HSE HP
      rw [hdn'] at hn0 hn1
      clear hde' hdn'
      by_cases hde : de = 0
      · subst hde
        have h1 := HSE.out
        rw [if_neg (by simp)] at h1
        clear HSE
        by_cases hr : dn < 1 ∨ 1000000 < dn
        · rw [if_pos hr] at h1
          have HF := Lib.hid h1
          clear h1
          have hS := (((B2.out.set 0 (.int .i64 0)).set 1 (.slice va vn vc)))
          rcases hr with hr | hr
          · go_wp2_with (first | (go_at_call 188; refine HP.out.mono ?_; rintro x w2 ⟨rfl, rfl⟩) | fail)
            refine ret_ctt (v := .int .i64 29) (u := .int .i64 1) Tryz.results136 rfl rfl rfl hS Tryz.underlying28 rfl (by kernel_rfl) ⟨0, by rw [HF.out]; rfl, fun q => by rw [HF.out] at q; simp at q, (HX0.out.setCell (p := ⟨w.heap.size + 1, 0, none⟩) (by dsimp only; omega) _).setCell (p := ⟨w.heap.size + 1, 1, none⟩) (by dsimp only; omega) _⟩
          · have hr2 : ¬ dn < 1 := by omega
            go_wp2_with (first | (go_at_call 188; refine HP.out.mono ?_; rintro x w2 ⟨rfl, rfl⟩) | fail)
            refine ret_ctt (v := .int .i64 29) (u := .int .i64 1) Tryz.results136 rfl rfl rfl hS Tryz.underlying28 rfl (by kernel_rfl) ⟨0, by rw [HF.out]; rfl, fun q => by rw [HF.out] at q; simp at q, (HX0.out.setCell (p := ⟨w.heap.size + 1, 0, none⟩) (by dsimp only; omega) _).setCell (p := ⟨w.heap.size + 1, 1, none⟩) (by dsimp only; omega) _⟩
        · rw [if_neg hr] at h1
          have HF := Lib.hid h1
          clear h1
          have hr2 : ¬ dn < 1 := by omega
          have hr3 : ¬ 1000000 < dn := by omega
          have hwr : IntKind.i64.wrap dn = dn := by simp [IntKind.wrap, IntKind.signed, IntKind.bits]; omega
          clear hr
          go_wp2_with (first | (go_at_call 188; refine HP.out.mono ?_; rintro x w2 ⟨rfl, rfl⟩) | fail)
          have hS := ((((B2.out.other (a := ⟨w.heap.size, 0, none⟩) (by dsimp only; omega) (.int .i64 dn)).set 0 (.int .i64 dn)).set 1 (.slice va vn vc)))
          refine ret_ctt (v := .int .i64 0) (u := .int .i64 0) Tryz.results136 rfl rfl rfl hS Tryz.underlying28 rfl (by kernel_rfl) ⟨dn, by rw [HF.out]; rfl, fun _ => HDN.out.symm, ((HX0.out.setCell (p := ⟨w.heap.size, 0, none⟩) (Nat.le_refl _) _).setCell (p := ⟨w.heap.size + 1, 0, none⟩) (by dsimp only; omega) _).setCell (p := ⟨w.heap.size + 1, 1, none⟩) (by dsimp only; omega) _⟩
      · have h1 := HSE.out
        rw [if_pos hde] at h1
        have HF := Lib.hid h1
        clear h1
        have hS := (((B2.out.set 0 (.int .i64 0)).set 1 (.slice va vn vc)))
        have hd1 : (de == 0) = false := by simpa using hde
        have hd2 : decide (de = 0) = false := by simpa using hde
        go_wp2_with (first | (go_at_call 188; refine HP.out.mono ?_; rintro x w2 ⟨rfl, rfl⟩) | fail)
        refine ret_ctt (v := .int .i64 de) (u := .int .i64 1) Tryz.results136 rfl rfl rfl hS Tryz.underlying28 rfl (by kernel_rfl) ⟨0, by rw [HF.out]; rfl, fun q => by rw [HF.out] at q; exact absurd q hde, (HX0.out.setCell (p := ⟨w.heap.size + 1, 0, none⟩) (by dsimp only; omega) _).setCell (p := ⟨w.heap.size + 1, 1, none⟩) (by dsimp only; omega) _⟩
    · have hse : szErr most ws = (28, 0) := by
        unfold szErr
        rw [if_neg (by omega), if_pos hz]
      have hmp : 0 < most := by omega
      have HF := Lib.hid hse
      clear hse
      rw [h2] at *
      have hS := (((B2.out.set 0 (.int .i64 most)).set 1 (.slice va vn vc)))
      go_wp2_with fail
      refine ret_ctt (v := .int .i64 28) (u := .int .i64 0) Tryz.results136 rfl rfl rfl hS Tryz.underlying28 rfl (by kernel_rfl) ⟨most, by rw [HF.out]; rfl, fun q => by rw [HF.out] at q; simp at q, (HX0.out.setCell (p := ⟨w.heap.size + 1, 0, none⟩) (by dsimp only; omega) _).setCell (p := ⟨w.heap.size + 1, 1, none⟩) (by dsimp only; omega) _⟩
  · have hse : szErr most ws = (22, 0) := by
      unfold szErr
      rw [if_pos h2]
    have hl2 : ((ws.length : Int) == 2) = false := by simp; omega
    have hl3 : ¬ (ws.length : Int) = 2 := by omega
    have HF := Lib.hid hse
    clear hse
    have hS := (((B2.out.set 0 (.int .i64 most)).set 1 (.slice va vn vc)))
    go_wp2_with fail
    refine ret_ctt (v := .int .i64 22) (u := .int .i64 0) Tryz.results136 rfl rfl rfl hS Tryz.underlying28 rfl (by kernel_rfl) ⟨most, by rw [HF.out]; rfl, fun q => by rw [HF.out] at q; simp at q, (HX0.out.setCell (p := ⟨w.heap.size + 1, 0, none⟩) (by dsimp only; omega) _).setCell (p := ⟨w.heap.size + 1, 1, none⟩) (by dsimp only; omega) _⟩
end Go.Proofs.YtknlojlcahgnoaaGreat

namespace Go.Proofs.YtknlojlcahgnoaaGreat
open Go.RowKit
set_option linter.unusedVariables false
set_option linter.unusedSimpArgs false

/-- what a line of the document's answer gives -/
def OneIs (w : World) (s : CfgSt) (ws : List Wd) (x : Ending) (w' : World) : Prop :=
  ∃ m' v', x = .returned (.tuple #[.agg #[.int .i64 m', v'], .int .i64 (lnErr s ws).1, .int .i64 ((lnErr s ws).2 : Nat)]) ∧ (∃ a n c, v' = .slice a n c) ∧ ((lnErr s ws).1 = 0 → m' = (lnPut s ws).most ∧ RuleRow 0 w' v' (lnPut s ws).rs) ∧ Ext w w'
theorem OneIs.bad {w w' : World} {s : CfgSt} {ws : List Wd} {m' e : Int} {i : Nat} {a : Option Addr} {n c : Nat} (h : lnErr s ws = (e, i)) (h0 : e ≠ 0) (hx : Ext w w') : OneIs w s ws (.returned (.tuple #[.agg #[.int .i64 m', .slice a n c], .int .i64 e, .int .i64 (i : Nat)])) w' :=
  ⟨m', _, by rw [h], ⟨_, _, _, rfl⟩, fun q => by rw [h] at q; exact absurd q h0, hx⟩
set_option maxHeartbeats 4000000 in
set_option maxRecDepth 100000 in
theorem ref12_one (s : CfgSt) (v lv : Value) (ws : List Wd) (w : World) (hm0 : 0 ≤ s.most) (hm1 : s.most ≤ 1000000) (hv : RuleRow 0 w v s.rs) (hlen : s.rs.length ≤ 1000) (hl : StrSlice w lv (wTexts ws)) (hne : ws ≠ []) :
    Calls Tryz.prog 87 #[.agg #[.int .i64 s.most, v], lv] w fun x w' => OneIs w s ws x w' := by
  obtain ⟨va, vc, rfl⟩ := hv.size
  have b1 := (Blk.new w #[.int .i64 s.most, .slice va s.rs.length vc] 28).alloc (.cells #[.int .i64 0, .slice none 0 0] 28)
  have b2 := Blk.new' (w.alloc (.cells #[.int .i64 s.most, .slice va s.rs.length vc] 28)) #[.int .i64 0, .slice none 0 0] 28 (b := w.heap.size + 1) (by simp)
  have hx0 : Ext w ((w.alloc (.cells #[.int .i64 s.most, .slice va s.rs.length vc] 28)).alloc (.cells #[.int .i64 0, .slice none 0 0] 28)) := ((Ext.refl w).alloc _).alloc _
  have HV := Lib.hid (hv.ext hx0)
  have HL := Lib.hid (hl.ext hx0)
  obtain ⟨⟨la, lc, rfl, hlc⟩, -, heach⟩ := id hl
  have hwl : (wTexts ws).length = ws.length := by unfold wTexts; simp
  have hpos : 0 < ws.length := List.length_pos_iff.2 hne
  obtain ⟨lb, lo, rfl, hcc⟩ := hlc (fun q => by have h3 := hwl; rw [q] at h3; rw [← h3] at hpos; exact absurd hpos (Nat.lt_irrefl 0))
  have ht0 : (wdAt ws 0).t = (wTexts ws)[0]'(by omega) := by rw [wdAt_t, List.getD_eq_getElem?_getD, List.getElem?_eq_getElem (by omega)]; rfl
  have c0 : w.cell? ⟨lb, lo, none⟩ = some (.string (wdAt ws 0).t) := by rw [ht0]; exact hcc 0 (by omega)
  obtain ⟨i0, hi, hz0, hz1, hz2⟩ := info_parts rule_info
  have HI := Lib.hid (And.intro hi (And.intro hz0 (And.intro hz1 hz2)))
  have hml : (2000 : Nat) ≤ maxLen := by decide
  have HNE := Lib.hid hne
  have hwp : (0 : Int) < ((wTexts ws).length : Int) := by omega
  clear hi hz0 hz1 hz2 hv hl hlc hcc heach hwl ht0 hne
  go_enter Tryz.func87, Tryz.ntmps87
  go_upto_region 1 with fail
  generalize (w.alloc (.cells #[.int .i64 s.most, .slice va s.rs.length vc] 28)).alloc (.cells #[.int .i64 0, .slice none 0 0] 28) = w0 at *
  have HX0 := Lib.hid hx0
  have B1 := Lib.hid b1
  have B2 := Lib.hid b2
  have d0 := hx0.keep c0
  have l1 := b1.lt
  have l2 := b2.lt
  have p0 : w0.cell? ⟨w.heap.size, 0, none⟩ = some (.int .i64 s.most) := b1.cell 0
  have p1 : w0.cell? ⟨w.heap.size, 1, none⟩ = some (.slice va s.rs.length vc) := b1.cell 1
  clear b1 b2 hx0 c0
  by_cases hs : (wdAt ws 0).t = wSize
  · have hle : lnErr s ws = szErr s.most ws := by unfold lnErr; rw [if_pos hs]
    have hlp : lnPut s ws = ⟨digNum (wdAt ws 1).t, s.rs⟩ := by unfold lnPut; rw [if_pos hs]
    have HLE := Lib.hid hle
    have HLP := Lib.hid hlp
    have HSZ := Lib.hid (ref12_size s.most (.slice va s.rs.length vc) _ ws w0 hm0 hm1 ⟨_, _, _, rfl⟩ HL.out)
    rw [hs] at d0
    have d1 : w0.cell? ⟨lb, lo, none⟩ = some (.string ⟨#[115, 105, 122, 101]⟩) := d0
    clear hle hlp d0 hs
    go_wp2_with (first | (go_at_call 136; refine HSZ.out.mono ?_; rintro x w2 ⟨m', rfl, hm', hx2⟩; have HM' := Lib.hid hm'; have HX2 := Lib.hid hx2; have r0 : w2.cell? ⟨w.heap.size + 1, 0, none⟩ = some (.int .i64 0) := (B2.out.ext hx2).cell 0; have r1 : w2.cell? ⟨w.heap.size + 1, 1, none⟩ = some (.slice none 0 0) := (B2.out.ext hx2).cell 1; have g0 := (B2.out.ext hx2).free 0; have g1 := (B2.out.ext hx2).free 1; have l3 := (B2.out.ext hx2).lt; clear hm' hx2) | fail)
    have hS := ((((B2.out.ext HX2.out).set 0 (.int .i64 m')).set 1 (.slice va s.rs.length vc)).alloc (.cells #[.int .i64 m', .slice va s.rs.length vc] 28))
    refine ret_ctt (v := .int .i64 (szErr s.most ws).1) (u := .int .i64 ((szErr s.most ws).2 : Nat)) Tryz.results87 rfl rfl rfl hS Tryz.underlying28 rfl (by kernel_rfl) ?_
    have hxf := (((HX0.out.trans HX2.out).setCell (p := ⟨w.heap.size + 1, 0, none⟩) (by dsimp only; omega) (.int .i64 m')).setCell (p := ⟨w.heap.size + 1, 1, none⟩) (by dsimp only; omega) (.slice va s.rs.length vc)).alloc (.cells #[.int .i64 m', .slice va s.rs.length vc] 28)
    refine ⟨m', _, by rw [HLE.out]; rfl, ⟨_, _, _, rfl⟩, fun q => ?_, hxf⟩
    rw [HLE.out] at q
    rw [HLP.out]
    refine ⟨HM'.out q, ?_⟩
    have h1 := HV.out.ext HX2.out
    exact ((h1.setOther (B2.out.ext HX2.out) (by decide) 0 _).setOther ((B2.out.ext HX2.out).set 0 _) (by decide) 1 _).ext ((Ext.refl _).alloc _)
  · have hsb := size_beq (t := (wdAt ws 0).t) hs
    have hle : lnErr s ws = rlErr s.rs ws := by unfold lnErr; rw [if_neg hs]
    have hlp : lnPut s ws = ⟨s.most, s.rs ++ [prRl (ruleParse (wTexts ws))]⟩ := by unfold lnPut; rw [if_neg hs]
    have HLE := Lib.hid hle
    have HLP := Lib.hid hlp
    have HPA := Lib.hid (ref11_Parse _ (wTexts ws) w0 HL.out)
    have hal := ruleParse_at (wTexts ws) (by intro q; have := congrArg List.length q; simp [wTexts] at this; exact HNE.out (List.length_eq_zero_iff.1 (by simpa using this)))
    have hrng := err_range (wTexts ws)
    have HRD := Lib.hid (read_line (wTexts ws))
    have hrl : rlErr s.rs ws = if (ruleParse (wTexts ws)).err ≠ 0 then ((ruleParse (wTexts ws)).err, (ruleParse (wTexts ws)).at_.toNat) else if hasPre s.rs (ruleParse (wTexts ws)).p = true then (28, if (ruleParse (wTexts ws)).p = ⟨#[]⟩ then 0 else 1) else if 1000 ≤ s.rs.length then (32, 0) else (0, 0) := rfl
    have HRL := Lib.hid (hle.trans hrl)
    generalize (wdAt ws 0).t = t0 at *
    generalize ruleParse (wTexts ws) = R at *
    obtain ⟨rp, re, rb, rk, er, at_⟩ := R
    simp only [PRes.r, refRet] at HPA
    simp only [prRl] at HLP
    simp only at HRL hal hrng
    clear hle hlp hrl hs
    have HFH := Lib.hid (findI_has s.rs rp)
    have hfb := (findI_has s.rs rp).2
    have HFI := Lib.hid (fun V (e : Ext w0 V) => ref12_find _ s.rs rp V (RuleRow.at (HV.out.ext e)) (by omega))
    obtain ⟨hf1, hf2⟩ := hfb
    go_upto_region 5 with (first | (go_at_call 137; refine HPA.out.mono ?_; rintro x w1 ⟨rfl, hx1⟩; have HX1 := Lib.hid hx1; have l3 := hx1.sz; clear hx1) | fail)
    have bR := Blk.new w1 #[.string rp, .int .u64 re, .int .u64 rb, .int .u8 rk] 37
    have hxa : Ext w1 (w1.alloc (.cells #[.string rp, .int .u64 re, .int .u64 rb, .int .u8 rk] 37)) := (Ext.refl w1).alloc _
    generalize w1.alloc (.cells #[.string rp, .int .u64 re, .int .u64 rb, .int .u8 rk] 37) = wa at *
    have HXA := Lib.hid (HX1.out.trans hxa)
    have HXW := Lib.hid (HX0.out.trans HXA.out)
    have h1 := B1.out.ext HXA.out
    have h2 := B2.out.ext HXA.out
    have m0 : wa.cell? ⟨w.heap.size, 0, none⟩ = some (.int .i64 s.most) := h1.cell 0
    have m1 : wa.cell? ⟨w.heap.size, 1, none⟩ = some (.slice va s.rs.length vc) := h1.cell 1
    have f1 := h1.free 1
    have r0 : wa.cell? ⟨w.heap.size + 1, 0, none⟩ = some (.int .i64 0) := h2.cell 0
    have r1 : wa.cell? ⟨w.heap.size + 1, 1, none⟩ = some (.slice none 0 0) := h2.cell 1
    have g0 := h2.free 0
    have g1 := h2.free 1
    have la1 := h1.lt
    have la2 := h2.lt
    have n0 : wa.cell? ⟨w1.heap.size, 0, none⟩ = some (.string rp) := bR.cell 0
    have n1 : wa.cell? ⟨w1.heap.size, 1, none⟩ = some (.int .u64 re) := bR.cell 1
    have n2 : wa.cell? ⟨w1.heap.size, 2, none⟩ = some (.int .u64 rb) := bR.cell 2
    have n3 : wa.cell? ⟨w1.heap.size, 3, none⟩ = some (.int .u8 rk) := bR.cell 3
    have HB1 := Lib.hid h1
    have HB2 := Lib.hid h2
    have HBR := Lib.hid bR
    have lR := bR.lt
    clear h1 h2 bR hxa
    have HFA := Lib.hid (HFI.out wa HXA.out)
    have hS := (HB2.out.set 0 (.int .i64 s.most)).set 1 (.slice va s.rs.length vc)
    have hxS := (HXW.out.setCell (p := ⟨w.heap.size + 1, 0, none⟩) (by dsimp only; omega) (.int .i64 s.most)).setCell (p := ⟨w.heap.size + 1, 1, none⟩) (by dsimp only; omega) (.slice va s.rs.length vc)
    have HS := Lib.hid hS
    have HXS := Lib.hid hxS
    clear hS hxS
    by_cases her : er = 0
    · subst her
      have h0 := HRL.out
      rw [if_neg (by simp)] at h0
      by_cases hfi : findI s.rs rp < 0
      · have hpre := HFH.out.1.1 hfi
        rw [if_neg (by rw [hpre]; decide)] at h0
        by_cases hln : 1000 ≤ s.rs.length
        · rw [if_pos hln] at h0
          have HF := Lib.hid h0
          generalize findI s.rs rp = f at *
          have hfn : ¬ (0 ≤ f) := by omega
          have hln2 : (1000 : Int) ≤ (s.rs.length : Int) := by omega
          clear h0
          go_wp2_with (first | (go_at_call 88; refine HFA.out.mono ?_; rintro x w2 ⟨rfl, rfl⟩) | fail)
          refine ret_ctt (v := .int .i64 (32)) (u := .int .i64 (0)) Tryz.results87 rfl rfl rfl HS.out Tryz.underlying28 rfl (by kernel_rfl) ?_
          exact OneIs.bad HF.out (by decide) HXS.out
        · rw [if_neg hln] at h0
          have HF := Lib.hid h0
          generalize findI s.rs rp = f at *
          have hfn : ¬ (0 ≤ f) := by omega
          have hln2 : ¬ (1000 : Int) ≤ (s.rs.length : Int) := by omega
          have HVA := Lib.hid (HV.out.ext HXA.out)
          clear h0
          by_cases hrs : s.rs = []
          · have hnil := HVA.out.nil.2 hrs
            simp only [Value.slice.injEq] at hnil
            obtain ⟨rfl, hn0, rfl⟩ := hnil
            have HRS := Lib.hid hrs
            rw [hn0] at *
            go_wp2_with (first
              | (go_at_call 88; refine HFA.out.mono ?_; rintro x w2 ⟨rfl, rfl⟩)
              | (at_builtin; refine wpList_append_own_none rfl (.tmp 55) (.tmp 57) 26 rfl wa.heap.size 37 i0 4 Tryz.underlying26 HI.out.1 (.slice none 0 0) 0 [] rfl (World.ownsRow_nil _ _ _ _) rfl ?_)
              | (at_builtin; refine wpList_append_own _ rfl (.tmp 59) (.tmp 61) 26 rfl wa.heap.size 37 i0 (.agg #[.string ⟨#[]⟩, .int .u64 0, .int .u64 0, .int .u8 0]) 4 40 Tryz.underlying26 HI.out.1 HI.out.2.1 HI.out.2.2.1 HI.out.2.2.2 rfl (by decide) (.slice none 0 0) 0 [] rfl (World.ownsRow_nil _ _ _ _) ⟨wa.heap.size, 0, none⟩ 1 1 [.string rp, .int .u64 re, .int .u64 rb, .int .u8 rk] rfl rfl (blk_news (C := #[.string rp, .int .u64 re, .int .u64 rb, .int .u8 rk]) (Blk.new _ _ _)) (by simp [Value.oneCell']) (by omega) (by omega) (by simp; try omega) ?_; rintro v4 w4 hown4 hgrow4 -; have hx4 : Ext wa w4 := Ext.grownAt ((Ext.refl wa).alloc _) (World.ownsRow_nil _ _ 37 4) (Nat.le_refl _) hgrow4; obtain ⟨g4, cap4, rfl⟩ := ownsRow_succ hown4; have h41 := HB1.out.ext hx4; have h42 := HB2.out.ext hx4; have k0 : w4.cell? ⟨w.heap.size, 0, none⟩ = some (.int .i64 s.most) := h41.cell 0; have k1 : w4.cell? ⟨w.heap.size, 1, none⟩ = some (.slice none 0 0) := h41.cell 1; have kf := h41.free 1; have kl := h41.lt; have k2 : w4.cell? ⟨w.heap.size + 1, 0, none⟩ = some (.int .i64 0) := h42.cell 0; have k3 : w4.cell? ⟨w.heap.size + 1, 1, none⟩ = some (.slice none 0 0) := h42.cell 1; have kg0 := h42.free 0; have kg1 := h42.free 1; have kl2 := h42.lt; have H41 := Lib.hid h41; have H42 := Lib.hid h42; have HX4 := Lib.hid hx4; have HOW := Lib.hid hown4; clear h41 h42 hx4 hown4 hgrow4)
              | fail)
            have hSf := ((H42.out.other (a := ⟨w.heap.size, 1, none⟩) (by dsimp only; omega) (.slice (some ⟨g4, 0, none⟩) (0 + 1) cap4)).set 0 (.int .i64 s.most)).set 1 (.slice (some ⟨g4, 0, none⟩) (0 + 1) cap4)
            refine ret_ctt (v := .int .i64 0) (u := .int .i64 0) Tryz.results87 rfl rfl rfl hSf Tryz.underlying28 rfl (by kernel_rfl) ?_
            have hxf := (((HXW.out.trans HX4.out).setCell (p := ⟨w.heap.size, 1, none⟩) (Nat.le_refl _) (.slice (some ⟨g4, 0, none⟩) (0 + 1) cap4)).setCell (p := ⟨w.heap.size + 1, 0, none⟩) (by dsimp only; omega) (.int .i64 s.most)).setCell (p := ⟨w.heap.size + 1, 1, none⟩) (by dsimp only; omega) (.slice (some ⟨g4, 0, none⟩) (0 + 1) cap4)
            refine ⟨s.most, _, by rw [HF.out]; rfl, ⟨_, _, _, rfl⟩, fun _ => ?_, hxf⟩
            rw [HLP.out]
            refine ⟨rfl, ?_⟩
            have hrow : RuleRow 0 w4 (.slice (some ⟨g4, 0, none⟩) (0 + 1) cap4) (s.rs ++ [⟨rp, re, rb, rk⟩]) := by
              rw [HRS.out]
              exact (rulerow_more (r := ⟨rp, re, rb, rk⟩) HOW.out rfl).low (Nat.zero_le _)
            exact ((hrow.setOther H41.out (by decide) 1 _).setOther (H42.out.other (by dsimp only; omega) _) (by decide) 0 _).setOther ((H42.out.other (by dsimp only; omega) _).set 0 _) (by decide) 1 _
          · obtain ⟨vb, vc', hv', -, hbl, -⟩ := HVA.out.cells Rl.size4 0 (List.length_pos_iff.2 hrs)
            simp only [Value.slice.injEq, true_and] at hv'
            obtain ⟨rfl, rfl⟩ := hv'
            have n1r := rule_news (RuleRow.at HVA.out) 0 s.rs.length (by omega)
            rw [List.drop_zero, List.take_length] at n1r
            have l1r : (flatE Rl.cells s.rs).length = s.rs.length * 4 := flatE_len Rl.size4 _
            have HN : Hid ((∀ j u, (flatE Rl.cells s.rs)[j]? = some u → wa.cell? ((⟨vb, 0, none⟩ : Addr).add j) = some u) ∧ (flatE Rl.cells s.rs).length = s.rs.length * 4) := Lib.hid ⟨fun j u hu => by simpa using n1r j u hu, l1r⟩
            clear n1r l1r
            go_wp2_with (first
              | (go_at_call 88; refine HFA.out.mono ?_; rintro x w2 ⟨rfl, rfl⟩)
              | (at_builtin; refine wpList_append_own _ rfl (.tmp 55) (.tmp 57) 26 rfl wa.heap.size 37 i0 (.agg #[.string ⟨#[]⟩, .int .u64 0, .int .u64 0, .int .u8 0]) 4 40 Tryz.underlying26 HI.out.1 HI.out.2.1 HI.out.2.2.1 HI.out.2.2.2 rfl (by decide) (.slice none 0 0) 0 [] rfl (World.ownsRow_nil _ _ _ _) ⟨vb, 0, none⟩ s.rs.length vc (flatE Rl.cells s.rs) rfl HN.out.2 HN.out.1 flat_one12 (by omega) (by omega) (Nat.le_refl _) ?_; rintro v3 w3 hown3 hgrow3 -; have hx3 : Ext wa w3 := Ext.grownAt (Ext.refl _) (World.ownsRow_nil _ _ 37 4) (Nat.le_refl _) hgrow3; have h3s := hx3.sz; have n0' := hx3.keep n0; have n1' := hx3.keep n1; have n2' := hx3.keep n2; have n3' := hx3.keep n3)
              | (at_builtin; refine wpList_append_own _ rfl (.tmp 59) (.tmp 61) 26 rfl wa.heap.size 37 i0 (.agg #[.string ⟨#[]⟩, .int .u64 0, .int .u64 0, .int .u8 0]) 4 40 Tryz.underlying26 HI.out.1 HI.out.2.1 HI.out.2.2.1 HI.out.2.2.2 rfl (by decide) _ _ _ rfl (hown3.alloc _) ⟨w3.heap.size, 0, none⟩ 1 1 [.string rp, .int .u64 re, .int .u64 rb, .int .u8 rk] rfl rfl (blk_news (C := #[.string rp, .int .u64 re, .int .u64 rb, .int .u8 rk]) (Blk.new _ _ _)) (by simp [Value.oneCell']) (by omega) (by omega) (by simp; try omega) ?_; rintro v4 w4 hown4 hgrow4 -; have hx4 : Ext wa w4 := Ext.grownAt (hx3.alloc _) (hown3.alloc _) (Nat.le_refl _) hgrow4; obtain ⟨g4, cap4, rfl⟩ := ownsRow_succ hown4; have h41 := HB1.out.ext hx4; have h42 := HB2.out.ext hx4; have k0 : w4.cell? ⟨w.heap.size, 0, none⟩ = some (.int .i64 s.most) := h41.cell 0; have k1 : w4.cell? ⟨w.heap.size, 1, none⟩ = some (.slice (some ⟨vb, 0, none⟩) s.rs.length vc) := h41.cell 1; have kf := h41.free 1; have kl := h41.lt; have k2 : w4.cell? ⟨w.heap.size + 1, 0, none⟩ = some (.int .i64 0) := h42.cell 0; have k3 : w4.cell? ⟨w.heap.size + 1, 1, none⟩ = some (.slice none 0 0) := h42.cell 1; have kg0 := h42.free 0; have kg1 := h42.free 1; have kl2 := h42.lt; have H41 := Lib.hid h41; have H42 := Lib.hid h42; have HX4 := Lib.hid hx4; have HOW := Lib.hid hown4; clear h41 h42 hx4 hown4 hgrow4)
              | fail)
            have hSf := ((H42.out.other (a := ⟨w.heap.size, 1, none⟩) (by dsimp only; omega) (.slice (some ⟨g4, 0, none⟩) (s.rs.length + 1) cap4)).set 0 (.int .i64 s.most)).set 1 (.slice (some ⟨g4, 0, none⟩) (s.rs.length + 1) cap4)
            refine ret_ctt (v := .int .i64 0) (u := .int .i64 0) Tryz.results87 rfl rfl rfl hSf Tryz.underlying28 rfl (by kernel_rfl) ?_
            have hxf := (((HXW.out.trans HX4.out).setCell (p := ⟨w.heap.size, 1, none⟩) (Nat.le_refl _) (.slice (some ⟨g4, 0, none⟩) (s.rs.length + 1) cap4)).setCell (p := ⟨w.heap.size + 1, 0, none⟩) (by dsimp only; omega) (.int .i64 s.most)).setCell (p := ⟨w.heap.size + 1, 1, none⟩) (by dsimp only; omega) (.slice (some ⟨g4, 0, none⟩) (s.rs.length + 1) cap4)
            refine ⟨s.most, _, by rw [HF.out]; rfl, ⟨_, _, _, rfl⟩, fun _ => ?_, hxf⟩
            rw [HLP.out]
            refine ⟨rfl, ?_⟩
            have hrow : RuleRow 0 w4 (.slice (some ⟨g4, 0, none⟩) (s.rs.length + 1) cap4) (s.rs ++ [⟨rp, re, rb, rk⟩]) := by
              exact (rulerow_more (r := ⟨rp, re, rb, rk⟩) (by have h := HOW.out; simp only [List.nil_append, Nat.zero_add] at h; exact h) rfl).low (Nat.zero_le _)
            exact ((hrow.setOther H41.out (by decide) 1 _).setOther (H42.out.other (by dsimp only; omega) _) (by decide) 0 _).setOther ((H42.out.other (by dsimp only; omega) _).set 0 _) (by decide) 1 _
      · have hpre : hasPre s.rs rp = true := by
          cases q : hasPre s.rs rp with
          | true => rfl
          | false => exact absurd (HFH.out.1.2 q) hfi
        rw [if_pos hpre] at h0
        by_cases hp : rp = ⟨#[]⟩
        · rw [if_pos hp] at h0
          subst hp
          have HF := Lib.hid h0
          generalize findI s.rs ⟨#[]⟩ = f at *
          have hfn : 0 ≤ f := by omega
          clear h0
          go_wp2_with (first | (go_at_call 88; refine HFA.out.mono ?_; rintro x w2 ⟨rfl, rfl⟩) | fail)
          refine ret_ctt (v := .int .i64 (28)) (u := .int .i64 (0)) Tryz.results87 rfl rfl rfl HS.out Tryz.underlying28 rfl (by kernel_rfl) ?_
          exact OneIs.bad HF.out (by decide) HXS.out
        · rw [if_neg hp] at h0
          have HF := Lib.hid h0
          generalize findI s.rs rp = f at *
          have hfn : 0 ≤ f := by omega
          have hpe : rp.toList.isEmpty = false := by
            cases q : rp.toList.isEmpty with
            | false => rfl
            | true => exact absurd (emp_of q) hp
          clear h0
          go_wp2_with (first | (go_at_call 88; refine HFA.out.mono ?_; rintro x w2 ⟨rfl, rfl⟩) | fail)
          refine ret_ctt (v := .int .i64 (28)) (u := .int .i64 (1)) Tryz.results87 rfl rfl rfl HS.out Tryz.underlying28 rfl (by kernel_rfl) ?_
          exact OneIs.bad HF.out (by decide) HXS.out
    · have h0 := HRL.out
      rw [if_pos her] at h0
      have HF := Lib.hid h0
      have hz : (er == 0) = false := by simpa using her
      have hz2 : decide (er = 0) = false := by simpa using her
      obtain ⟨n, hn⟩ : ∃ n : Nat, (n : Int) = at_ := ⟨at_.toNat, Int.toNat_of_nonneg hal.1⟩
      subst hn
      rw [Int.toNat_natCast] at HF
      clear h0
      go_wp2_with fail
      refine ret_ctt (v := .int .i64 (er)) (u := .int .i64 (n)) Tryz.results87 rfl rfl rfl HS.out Tryz.underlying28 rfl (by kernel_rfl) ?_
      exact OneIs.bad HF.out her HXS.out
end Go.Proofs.YtknlojlcahgnoaaGreat

namespace Go.Proofs.YtknlojlcahgnoaaGreat
open Go.RowKit
set_option linter.unusedVariables false
set_option linter.unusedSimpArgs false

/-- where a line is wrong: at one of its words -/
theorem lnErr_at {s : CfgSt} {ws : List Wd} (hne : ws ≠ []) (h : (lnErr s ws).1 ≠ 0) : (lnErr s ws).2 < ws.length := by
  have hpos := List.length_pos_iff.2 hne
  have hwl : (wTexts ws).length = ws.length := by unfold wTexts; simp
  unfold lnErr at h ⊢
  split
  · rename_i q
    unfold szErr
    split
    · exact hpos
    · rename_i q2
      split
      · exact hpos
      · split
        · show 1 < ws.length; omega
        · split
          · show 1 < ws.length; omega
          · exact hpos
  · unfold rlErr
    split
    · have := (ruleParse_at (wTexts ws) (fun q => by rw [q] at hwl; simp at hwl; omega)).2
      have h0 := (ruleParse_at (wTexts ws) (fun q => by rw [q] at hwl; simp at hwl; omega)).1
      show (ruleParse (wTexts ws)).at_.toNat < _
      omega
    · split
      · split
        · exact hpos
        · rename_i q
          have := ruleParse_pre q
          show 1 < ws.length
          omega
      · split
        · exact hpos
        · exact hpos
theorem cput_most {s : CfgSt} {ws : List Wd} (h : (lnErr s ws).1 = 0) (h0 : 0 ≤ s.most) (h1 : s.most ≤ 1000000) : 0 ≤ (lnPut s ws).most ∧ (lnPut s ws).most ≤ 1000000 := by
  unfold lnErr at h
  unfold lnPut
  split at h
  · rename_i q
    rw [if_pos q]
    unfold szErr at h
    split at h
    · cases h
    · split at h
      · cases h
      · split at h
        · rename_i q2; exact absurd h q2
        · split at h
          · cases h
          · rename_i q3
            show 0 ≤ digNum _ ∧ digNum _ ≤ _
            omega
  · rename_i q
    rw [if_neg q]
    exact ⟨h0, h1⟩
theorem cput_len {s : CfgSt} {ws : List Wd} (h : (lnErr s ws).1 = 0) (h0 : s.rs.length ≤ 1000) : (lnPut s ws).rs.length ≤ 1000 := by
  unfold lnErr at h
  unfold lnPut
  split at h
  · rename_i q
    rw [if_pos q]
    exact h0
  · rename_i q
    rw [if_neg q]
    have := rlErr_len h
    rw [List.length_append]
    simp
    omega
theorem cput_sz {s : CfgSt} {ws : List Wd} (h : (lnErr s ws).1 = 0) (hw : ∀ x ∈ ws, x.t.size ≤ maxLen) (h0 : ∀ r ∈ s.rs, r.p.size ≤ maxLen) : ∀ r ∈ (lnPut s ws).rs, r.p.size ≤ maxLen := by
  unfold lnErr at h
  unfold lnPut
  split at h
  · rename_i q
    rw [if_pos q]
    exact h0
  · rename_i q
    rw [if_neg q]
    intro r hr
    rcases List.mem_append.1 hr with hr | hr
    · exact h0 r hr
    · rw [List.mem_singleton.1 hr]
      unfold rlErr at h
      split at h
      · rename_i q2; exact absurd h q2
      · rename_i q2
        have q3 : (ruleParse (wTexts ws)).err = 0 := by
          by_cases q4 : (ruleParse (wTexts ws)).err = 0
          · exact q4
          · exact absurd q4 q2
        rcases (read_line (wTexts ws)).size q3 with e | e
        · show (ruleParse (wTexts ws)).p.size ≤ _
          rw [e]
          exact Nat.zero_le _
        · unfold wTexts at e
          obtain ⟨x, hx, e2⟩ := List.mem_map.1 e
          show (ruleParse (wTexts ws)).p.size ≤ _
          unfold wTexts
          rw [← e2]
          exact hw x hx
theorem lines_step {ls : List (List Wd)} {k : Nat} {s : CfgSt} (hk : k < ls.length) (h : cfgLines cfg0 (ls.take k) = .inr s) (h0 : (lnErr s ls[k]).1 = 0) : cfgLines cfg0 (ls.take (k + 1)) = .inr (lnPut s ls[k]) := by
  rw [List.take_succ_eq_append_getElem hk, cfgLines_app, h]
  show (if _ then _ else _) = _
  rw [if_neg (by simpa using h0)]
  rfl
theorem lines_bad {ls : List (List Wd)} {k : Nat} {s : CfgSt} (hk : k < ls.length) (h : cfgLines cfg0 (ls.take k) = .inr s) (h0 : (lnErr s ls[k]).1 ≠ 0) : cfgLines cfg0 ls = .inl ((lnErr s ls[k]).1, (wdAt ls[k] (lnErr s ls[k]).2).line, (wdAt ls[k] (lnErr s ls[k]).2).col) := by
  have e : ls = ls.take k ++ (ls[k] :: ls.drop (k + 1)) := by rw [List.getElem_cons_drop hk, List.take_append_drop]
  generalize ls[k] = x at *
  rw [e, cfgLines_app, h]
  show (if _ then _ else _) = _
  rw [if_pos h0]
theorem not_in2 {w : World} {b c o : Nat} {x y v : Value} {t : TypeId} (hB : Blk w c #[x, y] t) (h : w.cell? ⟨b, o, none⟩ = some v) (h1 : v ≠ x) (h2 : v ≠ y) : b ≠ c := by
  rintro rfl
  rw [hB.cell] at h
  rcases o with _ | _ | o
  · simp at h; exact h1 h.symm
  · simp at h; exact h2 h.symm
  · simp at h
theorem RuleRow.setPlc {base b : Nat} {w : World} {v : Value} {l : List Rl} {C : Array Value} (h : RuleRow base w v l) (hB : Blk w b C 44) (o : Nat) (u : Value) : RuleRow base (w.setCell ⟨b, o, none⟩ u) v l := h.setOther hB (by decide) o u
/-- what the document's answer reads a text as -/
def RefParseIs (w : World) (l : List UInt8) (x : Ending) (w' : World) : Prop :=
  ∃ v, x = .returned (.tuple #[.agg #[.int .i64 (cfgParse l).most, v], .int .i64 (cfgParse l).e, .agg #[.int .i64 (cfgParse l).ln, .int .i64 (cfgParse l).cl]]) ∧ RulesAt w' v (cfgParse l).rs ∧ Ext w w'
theorem RefParseIs.of {w w' : World} {l : List UInt8} {r : CfgRes} {v : Value} (h : cfgParse l = r) (hv : RulesAt w' v r.rs) (hx : Ext w w') : RefParseIs w l (.returned (.tuple #[.agg #[.int .i64 r.most, v], .int .i64 r.e, .agg #[.int .i64 r.ln, .int .i64 r.cl]])) w' := by
  subst h
  exact ⟨v, rfl, hv, hx⟩
theorem RuleRow.setPol {base b : Nat} {w : World} {v : Value} {l : List Rl} {C : Array Value} (h : RuleRow base w v l) (hB : Blk w b C 28) (o : Nat) (u : Value) : RuleRow base (w.setCell ⟨b, o, none⟩ u) v l := h.setOther hB (by decide) o u
set_option maxHeartbeats 4000000 in
set_option maxRecDepth 100000 in
theorem ref12_Parse (tv : Value) (l : List UInt8) (w : World) (ht : ByteSlice w tv l) (hcp : CapLe tv) : Calls Tryz.prog 38 #[tv] w fun x w' => RefParseIs w l x w' := by
  have x0 : Ext w ((w.alloc (.cells #[.int .i64 0, .slice none 0 0] 28)).alloc (.cells #[.int .i64 0, .int .i64 0] 44)) := ((Ext.refl w).alloc _).alloc _
  have b1 : Blk ((w.alloc (.cells #[.int .i64 0, .slice none 0 0] 28)).alloc (.cells #[.int .i64 0, .int .i64 0] 44)) w.heap.size #[.int .i64 0, .slice none 0 0] 28 := (Blk.new' _ _ _ rfl).alloc _
  have b2 : Blk ((w.alloc (.cells #[.int .i64 0, .slice none 0 0] 28)).alloc (.cells #[.int .i64 0, .int .i64 0] 44)) (w.heap.size + 1) #[.int .i64 0, .int .i64 0] 44 := Blk.new' _ _ _ (by simp)
  have HT := Lib.hid (ht.ext x0)
  have HCP := Lib.hid hcp
  obtain ⟨⟨ta, tc, rfl, -⟩, -⟩ := ht
  obtain ⟨i0, hi, hz0, hz1, hz2⟩ := info_parts pfx_info
  have HI := Lib.hid (And.intro hi (And.intro hz0 (And.intro hz1 hz2)))
  have hml : (3000000 : Nat) ≤ maxLen := by decide
  clear hcp hi hz0 hz1 hz2
  go_enter Tryz.func38, Tryz.ntmps38
  go_upto_region 1 with fail
  generalize (w.alloc (.cells #[.int .i64 0, .slice none 0 0] 28)).alloc (.cells #[.int .i64 0, .int .i64 0] 44) = w0 at *
  have HSP := Lib.hid (ref10_Split _ l w0 HT.out HCP.out)
  have HPD : Hid (cfgParse l = if splitE l ≠ 0 then cfgBad (splitE l) (splitAt' l).1 (splitAt' l).2 else match cfgLines cfg0 (splitL l) with
    | .inl f => cfgBad f.1 f.2.1 f.2.2
    | .inr s => if endErr s ≠ 0 then cfgBad (endErr s) 0 0 else ⟨0, 0, 0, s.most, ordL Rl.key s.rs⟩) := Lib.hid rfl
  have HOKL := Lib.hid (splitL_ok l)
  unfold SplitR at HSP
  generalize splitE l = SE at *
  generalize splitAt' l = SA at *
  obtain ⟨ln, cl⟩ := SA
  generalize splitL l = ls at *
  dsimp only at HSP HPD
  go_upto_region 2 with (first | (go_at_call 86; refine HSP.out.mono ?_; rintro x w1 ⟨ov, rfl, hls, hx1⟩; have HLS1 := Lib.hid hls; have HX1 := Lib.hid hx1; clear hls hx1) | fail)
  have hxp := HX1.out.alloc (.cells #[.int .i64 ln, .int .i64 cl] 44)
  have bPl := Blk.new w1 #[.int .i64 ln, .int .i64 cl] 44
  have hls := HLS1.out.ext ((Ext.refl w1).alloc (.cells #[.int .i64 ln, .int .i64 cl] 44))
  generalize w1.alloc (.cells #[.int .i64 ln, .int .i64 cl] 44) = w2 at *
  have HX2 := Lib.hid (x0.trans hxp)
  have HB1 := Lib.hid (b1.ext hxp)
  have HB2 := Lib.hid (b2.ext hxp)
  have HPL := Lib.hid bPl
  have HLS := Lib.hid hls
  have hsz := HX1.out.sz
  have hs0 := x0.sz
  have hlt0 := b2.lt
  clear hxp bPl hls HLS1 x0 b1 b2 HT HCP
  by_cases hse : SE = 0
  · subst hse
    have HPC : Hid (cfgParse l = match cfgLines cfg0 ls with
      | .inl f => cfgBad f.1 f.2.1 f.2.2
      | .inr s => if endErr s ≠ 0 then cfgBad (endErr s) 0 0 else ⟨0, 0, 0, s.most, ordL Rl.key s.rs⟩) := Lib.hid (by rw [HPD.out, if_neg (by simp)])
    obtain ⟨oa, oc, rfl, -⟩ := id HLS.out
    have hlen := HOKL.out.2
    clear HPD HPL
    go_upto_region 5 with fail
    have bP := Blk.new w2 #[.int .i64 0, .slice none 0 0] 28
    have hx3 : Ext w2 (w2.alloc (.cells #[.int .i64 0, .slice none 0 0] 28)) := (Ext.refl w2).alloc _
    generalize w2.alloc (.cells #[.int .i64 0, .slice none 0 0] 28) = w3 at *
    go_wp2_with fail
    go_loopw [9] (fun i wr => ∃ (k : Nat) (s : CfgSt) (v : Value), k ≤ ls.length ∧ i = .int .i64 k ∧ Hid (cfgLines cfg0 (ls.take k) = .inr s) ∧ s.rs.length ≤ 1000 ∧ 0 ≤ s.most ∧ s.most ≤ 1000000 ∧ Blk wr w2.heap.size #[.int .i64 s.most, v] 28 ∧ RuleRow 0 wr v s.rs ∧ Ext w2 wr ∧ Hid (∀ r ∈ s.rs, r.p.size ≤ maxLen)) (fun i _ => ls.length - (intOf i).toNat)
    case atStart => exact ⟨0, cfg0, _, by omega, rfl, Lib.hid rfl, by decide, by decide, by decide, bP, RowOf.empty _ _ _ _ _, hx3, Lib.hid (fun r hr => by cases hr)⟩
    case round =>
      obtain ⟨k, s, v, hk, rfl, hcl, hrl, hm0, hm1, hB, hR, hx, hps⟩ := hrel
      obtain ⟨va, vc, rfl⟩ := hR.size
      have HB := Lib.hid hB
      have HR := Lib.hid hR
      have HX := Lib.hid hx
      have hszr := hx.sz
      have hltp := hB.lt
      clear bP hx3
      by_cases hlt : k < ls.length
      · obtain ⟨a', c', hv, hll⟩ := HLS.out.ext hx
        simp only [Value.slice.injEq] at hv
        obtain ⟨rfl, -, -⟩ := hv
        obtain ⟨b, o, rfl, hcc⟩ := hll (by intro e; rw [e] at hlt; simp at hlt)
        obtain ⟨xv, hxc, hws⟩ := hcc k hlt
        obtain ⟨hne, hszw, hwl⟩ := HOKL.out.1 ls[k] (List.getElem_mem _)
        have HST := Lib.hid (fun (h0 : (lnErr s ls[k]).1 = 0) => lines_step hlt hcl.out h0)
        have HBAD := Lib.hid (fun (h0 : (lnErr s ls[k]).1 ≠ 0) => lines_bad hlt hcl.out h0)
        have HPS := Lib.hid (fun (h0 : (lnErr s ls[k]).1 = 0) => cput_sz (s := s) (ws := ls[k]) h0 hszw hps.out)
        have HAT := Lib.hid (fun (h0 : (lnErr s ls[k]).1 ≠ 0) => lnErr_at (s := s) hne h0)
        have HMO := Lib.hid (fun (h0 : (lnErr s ls[k]).1 = 0) => cput_most (s := s) (ws := ls[k]) h0 hm0 hm1)
        have HLE := Lib.hid (fun (h0 : (lnErr s ls[k]).1 = 0) => cput_len (s := s) (ws := ls[k]) h0 hrl)
        generalize ls[k] = ws at *
        obtain ⟨wa, wc, rfl, hwc⟩ := hws
        obtain ⟨wb, wo, rfl, hww⟩ := hwc hne
        have hwt : (wTexts ws).length = ws.length := by unfold wTexts; simp
        have HWW : Hid (∀ j (h : j < ws.length) i, i < 3 → wr.cell? ⟨wb, wo + (j * 3 + i), none⟩ = (ws[j].cells)[i]?) := Lib.hid (fun j h i hi => hww j h i hi)
        have HNE := Lib.hid hne
        have HSZ := Lib.hid hszw
        have HWT := Lib.hid hwt
        obtain ⟨wk, hwk⟩ : ∃ wk, wk = wr := ⟨_, rfl⟩
        subst hwk
        clear hcl hww hwc hcc hll hx hB hR hne hszw hwt
        go_wp2_with fail
        go_loopw [10, 11] (fun wv i wz => ∃ j : Nat, j ≤ ws.length ∧ i = .int .i64 j ∧ PfxRow wk.heap.size wz wv ((wTexts ws).take j) ∧ Ext wk wz) (fun _ i _ => ws.length - (intOf i).toNat)
        case atStart => exact ⟨0, by omega, rfl, RowOf.empty _ _ _ _ _, Ext.refl _⟩
        case round =>
          obtain ⟨j, hj, rfl, hpw, hxz⟩ := hrel
          have HPW := Lib.hid hpw
          have HXZ := Lib.hid hxz
          have hszz := hxz.sz
          have d1 := hxz.keep hxc
          by_cases hjl : j < ws.length
          · have d2 : wr.cell? ⟨wb, wo + j * 3, none⟩ = some (.string ws[j].t) := hxz.keep (HWW.out j hjl 0 (by decide))
            have HTK : Hid ((wTexts ws).take (j + 1) = (wTexts ws).take j ++ [ws[j].t]) := Lib.hid (by
              rw [List.take_succ_eq_append_getElem (by rw [HWT.out]; exact hjl)]
              unfold wTexts
              rw [List.getElem_map])
            have htl : ((wTexts ws).take j).length ≤ j := by rw [List.length_take]; omega
            generalize ws[j].t = t at *
            generalize (wTexts ws).take j = tj at *
            clear hpw hxz
            go_wp2_with (first
              | (at_builtin; refine wpList_append_own _ rfl (.tmp 42) (.tmp 51) 32 rfl wk.heap.size 9 i0 (.string ⟨#[]⟩) 1 16 Tryz.underlying32 HI.out.1 HI.out.2.1 HI.out.2.2.1 HI.out.2.2.2 rfl (by decide) _ _ _ rfl (HPW.out.own.alloc _) ⟨wr.heap.size, 0, none⟩ 1 1 [.string t] rfl rfl (blk_news (C := #[.string t]) (Blk.new _ _ _)) (by simp [Value.oneCell']) (by omega) (by omega) (by simp; omega) ?_; rintro v' w6 hown hgrow -)
              | fail)
            have hx6 : Ext wk w6 := Ext.grownAt (HXZ.out.alloc _) (HPW.out.own.alloc _) (Nat.le_refl _) hgrow
            have hrow6 : PfxRow wk.heap.size w6 v' ((wTexts ws).take (j + 1)) := pfxrow_more hown HTK.out
            clear hown hgrow
            go_wp2
            go_roundw
            case rel => exact ⟨j + 1, by omega, by go_num, hrow6, hx6⟩
            case measure => simp [intOf]; omega
          · have hjw : j = ws.length := by omega
            subst hjw
            have htk : (wTexts ws).take ws.length = wTexts ws := List.take_of_length_le (by rw [HWT.out]; exact Nat.le_refl _)
            rw [htk] at hpw
            have HSL := Lib.hid (pfxrow_strs hpw (fun t htm => by
              unfold wTexts at htm
              obtain ⟨x, hx, rfl⟩ := List.mem_map.1 htm
              exact HSZ.out x hx))
            have HON := Lib.hid (ref12_one s (.slice va s.rs.length vc) _ ws wr hm0 hm1 (HR.out.ext hxz) hrl HSL.out HNE.out)
            have hBz := HB.out.ext hxz
            have e0 : wr.cell? ⟨w2.heap.size, 0, none⟩ = some (.int .i64 s.most) := hBz.cell 0
            have e1 : wr.cell? ⟨w2.heap.size, 1, none⟩ = some (.slice va s.rs.length vc) := hBz.cell 1
            unfold OneIs at HON
            obtain ⟨e, he⟩ : ∃ e, (lnErr s ws).1 = e := ⟨_, rfl⟩
            obtain ⟨i, hi⟩ : ∃ i, (lnErr s ws).2 = i := ⟨_, rfl⟩
            rw [he, hi] at HON HBAD
            rw [he] at HST HAT HMO HLE HPS
            rw [hi] at HAT
            clear he hi htk hpw hBz
            go_upto_region 14 with (first | (go_at_call 87; refine HON.out.mono ?_; rintro x w5 ⟨m', v', rfl, ⟨qa, qn, qc, rfl⟩, hq, hx5⟩; have HQ := Lib.hid hq; have HX5 := Lib.hid (hxz.trans hx5); clear hq hx5) | fail)
            have bQ := Blk.new w5 #[.int .i64 m', .slice qa qn qc] 28
            have hxa : Ext w5 (w5.alloc (.cells #[.int .i64 m', .slice qa qn qc] 28)) := (Ext.refl w5).alloc _
            generalize w5.alloc (.cells #[.int .i64 m', .slice qa qn qc] 28) = w6 at *
            have HX6 := Lib.hid (HX5.out.trans hxa)
            have hsz6 := HX6.out.sz
            have hsz5 := HX5.out.sz
            by_cases hez : e = 0
            · subst hez
              obtain ⟨hq1, hq2⟩ := HQ.out rfl
              have hb6 := HB.out.ext HX6.out
              have q0 : w6.cell? ⟨w5.heap.size, 0, none⟩ = some (.int .i64 m') := bQ.cell 0
              have q1 : w6.cell? ⟨w5.heap.size, 1, none⟩ = some (.slice qa qn qc) := bQ.cell 1
              have p0 : w6.cell? ⟨w2.heap.size, 0, none⟩ = some (.int .i64 s.most) := hb6.cell 0
              have p1 : w6.cell? ⟨w2.heap.size, 1, none⟩ = some (.slice va s.rs.length vc) := hb6.cell 1
              have f0 := hb6.free 0
              have f1 := hb6.free 1
              have lp := hb6.lt
              have HB6 := Lib.hid hb6
              have HQ2 := Lib.hid (hq2.ext hxa)
              have HQ1 := Lib.hid hq1
              clear hb6 hq1 hq2 bQ hxa
              go_wp2_with fail
              go_roundw
              case rel =>
                refine ⟨k + 1, lnPut s ws, .slice qa qn qc, by omega, by go_num, Lib.hid (HST.out rfl), HLE.out rfl, (HMO.out rfl).1, (HMO.out rfl).2, ?_, ?_, ?_, Lib.hid (HPS.out rfl)⟩
                · rw [← HQ1.out]
                  exact (HB6.out.set 0 _).set 1 _
                · exact RuleRow.setPol (RuleRow.setPol HQ2.out HB6.out 0 _) (HB6.out.set 0 _) 1 _
                · exact ((HX.out.trans HX6.out).setCell (p := ⟨w2.heap.size, 0, none⟩) (Nat.le_refl _) _).setCell (p := ⟨w2.heap.size, 1, none⟩) (Nat.le_refl _) _
              case measure => simp [intOf]; omega
            · have hez1 : (e == 0) = false := by simpa using hez
              have hez2 : decide (e = 0) = false := by simpa using hez
              have hil := HAT.out hez
              have hwd : wdAt ws i = ws[i] := by unfold wdAt; rw [List.getD_eq_getElem?_getD, List.getElem?_eq_getElem hil]; rfl
              have hbad := HBAD.out hez
              rw [hwd] at hbad
              have HPE : Hid (cfgParse l = cfgBad e ws[i].line ws[i].col) := Lib.hid (by rw [HPC.out, hbad])
              have d1 : w6.cell? ⟨wb, wo + i * 3 + 1, none⟩ = some (.int .i64 ws[i].line) := HX6.out.keep (HWW.out i hil 1 (by decide))
              have d2 : w6.cell? ⟨wb, wo + i * 3 + 2, none⟩ = some (.int .i64 ws[i].col) := HX6.out.keep (HWW.out i hil 2 (by decide))
              have d3 := HX6.out.keep hxc
              have hx26 := HX.out.trans HX6.out
              have k1 := HB1.out.ext hx26
              have k2 := HB2.out.ext hx26
              have r0 : w6.cell? ⟨w.heap.size, 0, none⟩ = some (.int .i64 0) := k1.cell 0
              have r1 : w6.cell? ⟨w.heap.size, 1, none⟩ = some (.slice none 0 0) := k1.cell 1
              have r2 : w6.cell? ⟨w.heap.size + 1, 0, none⟩ = some (.int .i64 0) := k2.cell 0
              have r3 : w6.cell? ⟨w.heap.size + 1, 1, none⟩ = some (.int .i64 0) := k2.cell 1
              have g0 := k1.free 0
              have g1 := k1.free 1
              have g2 := k2.free 0
              have g3 := k2.free 1
              have kl1 := k1.lt
              have kl2 := k2.lt
              have hil2 : (i : Int) < (ws.length : Int) := by omega
              have hkl2 : (k : Int) < (ls.length : Int) := by omega
              have d4 : w6.cell? ⟨wb, wo + i * 3, none⟩ = some (.string ws[i].t) := HX6.out.keep (HWW.out i hil 0 (by decide))
              have nb1 := not_in2 k1 d3 (by simp) (by simp)
              have nb2 := not_in2 k2 d3 (by simp) (by simp)
              have nw1 := not_in2 k1 d4 (by simp) (by simp)
              have nw2 := not_in2 k2 d4 (by simp) (by simp)
              clear d4
              have HK1 := Lib.hid k1
              have HK2 := Lib.hid k2
              have HXF := Lib.hid (HX2.out.trans hx26)
              clear hbad k1 k2 hx26 hwd bQ hxa
              generalize ws[i].line = ll at *
              generalize ws[i].col = cc at *
              go_upto_region 15 with fail
              go_region
              all_goals
                go_wp2
                refine ret_ctc (v := .int .i64 e) Tryz.results38 rfl rfl rfl (((((HK1.out.set 0 (.int .i64 0)).set 1 (.slice none 0 0)).other (by dsimp only; omega) _).other (by dsimp only; omega) _)) Tryz.underlying28 rfl (by kernel_rfl) ((((HK2.out.other (by dsimp only; omega) _).other (by dsimp only; omega) _).set 0 (.int .i64 ll)).set 1 (.int .i64 cc)) Tryz.underlying44 rfl (by kernel_rfl) ?_
                exact RefParseIs.of HPE.out (ElemsAt.nil _ _ _) (Ext.drew ((((HXF.out.setCell (p := ⟨w.heap.size, 0, none⟩) (Nat.le_refl _) _).setCell (p := ⟨w.heap.size, 1, none⟩) (Nat.le_refl _) _).setCell (p := ⟨w.heap.size + 1, 0, none⟩) (by dsimp only; omega) _).setCell (p := ⟨w.heap.size + 1, 1, none⟩) (by dsimp only; omega) _))
      · have hkl : k = ls.length := by omega
        subst hkl
        have hcl2 := hcl.out
        rw [List.take_length] at hcl2
        have HPE : Hid (cfgParse l = if endErr s ≠ 0 then cfgBad (endErr s) 0 0 else ⟨0, 0, 0, s.most, ordL Rl.key s.rs⟩) := Lib.hid (by rw [HPC.out, hcl2])
        have hee : endErr s = if s.most = 0 then 30 else if hasPre s.rs ⟨#[]⟩ = false then 31 else 0 := rfl
        have e0 : wr.cell? ⟨w2.heap.size, 0, none⟩ = some (.int .i64 s.most) := hB.cell 0
        have e1 : wr.cell? ⟨w2.heap.size, 1, none⟩ = some (.slice va s.rs.length vc) := hB.cell 1
        have HXF := Lib.hid (HX2.out.trans HX.out)
        have k1 := HB1.out.ext HX.out
        have k2 := HB2.out.ext HX.out
        have r0 : wr.cell? ⟨w.heap.size, 0, none⟩ = some (.int .i64 0) := k1.cell 0
        have r1 : wr.cell? ⟨w.heap.size, 1, none⟩ = some (.slice none 0 0) := k1.cell 1
        have r2 : wr.cell? ⟨w.heap.size + 1, 0, none⟩ = some (.int .i64 0) := k2.cell 0
        have r3 : wr.cell? ⟨w.heap.size + 1, 1, none⟩ = some (.int .i64 0) := k2.cell 1
        have g0 := k1.free 0
        have g1 := k1.free 1
        have g2 := k2.free 0
        have g3 := k2.free 1
        have kl1 := k1.lt
        have kl2 := k2.lt
        have HK1 := Lib.hid k1
        have HK2 := Lib.hid k2
        clear k1 k2
        have HEE := Lib.hid hee
        clear hcl hcl2 hee hx hB
        by_cases hmz : s.most = 0
        · have hE : endErr s = 30 := by rw [HEE.out, if_pos hmz]
          have HPF : Hid (cfgParse l = cfgBad 30 0 0) := Lib.hid (by rw [HPE.out, hE]; rfl)
          rw [hmz] at e0
          clear hE
          go_wp2_with fail
          refine ret_ctc (v := .int .i64 30) Tryz.results38 rfl rfl rfl (((((HK1.out.set 0 (.int .i64 0)).set 1 (.slice none 0 0)).other (by dsimp only; omega) _).other (by dsimp only; omega) _)) Tryz.underlying28 rfl (by kernel_rfl) ((((HK2.out.other (by dsimp only; omega) _).other (by dsimp only; omega) _).set 0 (.int .i64 0)).set 1 (.int .i64 0)) Tryz.underlying44 rfl (by kernel_rfl) ?_
          exact RefParseIs.of HPF.out (ElemsAt.nil _ _ _) ((((HXF.out.setCell (p := ⟨w.heap.size, 0, none⟩) (Nat.le_refl _) _).setCell (p := ⟨w.heap.size, 1, none⟩) (Nat.le_refl _) _).setCell (p := ⟨w.heap.size + 1, 0, none⟩) (by dsimp only; omega) _).setCell (p := ⟨w.heap.size + 1, 1, none⟩) (by dsimp only; omega) _)
        · have hmz2 : (s.most == 0) = false := by simpa using hmz
          have hfh := findI_has s.rs ⟨#[]⟩
          have HFC := Lib.hid (ref12_find _ s.rs ⟨#[]⟩ wr (RuleRow.at HR.out) (by omega))
          by_cases hfi : findI s.rs ⟨#[]⟩ < 0
          · have hE : endErr s = 31 := by rw [HEE.out, if_neg hmz, if_pos (hfh.1.1 hfi)]
            have HPF : Hid (cfgParse l = cfgBad 31 0 0) := Lib.hid (by rw [HPE.out, hE]; rfl)
            obtain ⟨-, hf1, hf2⟩ := hfh
            generalize findI s.rs ⟨#[]⟩ = f at *
            clear hE
            go_wp2_with (first | (go_at_call 88; refine HFC.out.mono ?_; rintro x w5 ⟨rfl, rfl⟩) | fail)
            refine ret_ctc (v := .int .i64 31) Tryz.results38 rfl rfl rfl (((((HK1.out.set 0 (.int .i64 0)).set 1 (.slice none 0 0)).other (by dsimp only; omega) _).other (by dsimp only; omega) _)) Tryz.underlying28 rfl (by kernel_rfl) ((((HK2.out.other (by dsimp only; omega) _).other (by dsimp only; omega) _).set 0 (.int .i64 0)).set 1 (.int .i64 0)) Tryz.underlying44 rfl (by kernel_rfl) ?_
            exact RefParseIs.of HPF.out (ElemsAt.nil _ _ _) ((((HXF.out.setCell (p := ⟨w.heap.size, 0, none⟩) (Nat.le_refl _) _).setCell (p := ⟨w.heap.size, 1, none⟩) (Nat.le_refl _) _).setCell (p := ⟨w.heap.size + 1, 0, none⟩) (by dsimp only; omega) _).setCell (p := ⟨w.heap.size + 1, 1, none⟩) (by dsimp only; omega) _)
          · have hE : endErr s = 0 := by
              rw [HEE.out, if_neg hmz, if_neg]
              intro q
              exact hfi (hfh.1.2 q)
            have HPF : Hid (cfgParse l = ⟨0, 0, 0, s.most, ordL Rl.key s.rs⟩) := Lib.hid (by rw [HPE.out, hE]; rfl)
            obtain ⟨-, hf1, hf2⟩ := hfh
            have HOR := Lib.hid (ref12_Order s.most (.slice va s.rs.length vc) s.rs wr (RuleRow.at HR.out) hps.out (by omega))
            generalize findI s.rs ⟨#[]⟩ = f at *
            clear hE
            have k1 := HK1.out
            have k2 := HK2.out
            clear r0 r1 r2 r3 g0 g1 g2 g3 kl1 kl2
            go_wp2_with (first
              | (go_at_call 88; refine HFC.out.mono ?_; rintro x w5 ⟨rfl, rfl⟩)
              | (go_at_call 40; refine HOR.out.mono ?_; rintro x w6 ⟨ov2, rfl, hro, hx6⟩; obtain ⟨ra, rc, rfl⟩ := hro.size; have HRO := Lib.hid hro; have HX6 := Lib.hid hx6; have j1 := k1.ext hx6; have j2 := k2.ext hx6; have r0 : w6.cell? ⟨w.heap.size, 0, none⟩ = some (.int .i64 0) := j1.cell 0; have r1 : w6.cell? ⟨w.heap.size, 1, none⟩ = some (.slice none 0 0) := j1.cell 1; have r2 : w6.cell? ⟨w.heap.size + 1, 0, none⟩ = some (.int .i64 0) := j2.cell 0; have r3 : w6.cell? ⟨w.heap.size + 1, 1, none⟩ = some (.int .i64 0) := j2.cell 1; have g0 := j1.free 0; have g1 := j1.free 1; have g2 := j2.free 0; have g3 := j2.free 1; have kl1 := j1.lt; have kl2 := j2.lt; have HJ1 := Lib.hid j1; have HJ2 := Lib.hid j2; clear hro hx6 j1 j2)
              | fail)
            refine ret_ctc (v := .int .i64 0) Tryz.results38 rfl rfl rfl (((((HJ1.out.set 0 (.int .i64 s.most)).set 1 (.slice ra (ordL Rl.key s.rs).length rc)).other (by dsimp only; omega) _).other (by dsimp only; omega) _)) Tryz.underlying28 rfl (by kernel_rfl) ((((HJ2.out.other (by dsimp only; omega) _).other (by dsimp only; omega) _).set 0 (.int .i64 0)).set 1 (.int .i64 0)) Tryz.underlying44 rfl (by kernel_rfl) ?_
            have HFR := RuleRow.at (RuleRow.setPlc (RuleRow.setPlc (RuleRow.setPol (RuleRow.setPol HRO.out HJ1.out 0 (.int .i64 s.most)) (HJ1.out.set 0 _) 1 (.slice ra (ordL Rl.key s.rs).length rc)) ((HJ2.out.other (by dsimp only; omega) _).other (by dsimp only; omega) _) 0 (.int .i64 0)) (((HJ2.out.other (by dsimp only; omega) _).other (by dsimp only; omega) _).set 0 _) 1 (.int .i64 0))
            exact RefParseIs.of HPF.out HFR (((((HXF.out.trans HX6.out).setCell (p := ⟨w.heap.size, 0, none⟩) (Nat.le_refl _) _).setCell (p := ⟨w.heap.size, 1, none⟩) (Nat.le_refl _) _).setCell (p := ⟨w.heap.size + 1, 0, none⟩) (by dsimp only; omega) _).setCell (p := ⟨w.heap.size + 1, 1, none⟩) (by dsimp only; omega) _)
  · have hse1 : (SE == 0) = false := by simpa using hse
    have hse2 : decide (SE = 0) = false := by simpa using hse
    have HPE : Hid (cfgParse l = cfgBad SE ln cl) := Lib.hid (by rw [HPD.out, if_pos (by simpa using hse)])
    have hpl := HPL.out
    have d0 : w2.cell? ⟨w1.heap.size, 0, none⟩ = some (.int .i64 ln) := hpl.cell 0
    have d1 : w2.cell? ⟨w1.heap.size, 1, none⟩ = some (.int .i64 cl) := hpl.cell 1
    have nb1 : w1.heap.size ≠ w.heap.size := by omega
    have nb2 : w1.heap.size ≠ w.heap.size + 1 := by omega
    have HXF := Lib.hid HX2.out
    have k1 := HB1.out.ext (Ext.refl w2)
    have k2 := HB2.out.ext (Ext.refl w2)
    have r0 : w2.cell? ⟨w.heap.size, 0, none⟩ = some (.int .i64 0) := k1.cell 0
    have r1 : w2.cell? ⟨w.heap.size, 1, none⟩ = some (.slice none 0 0) := k1.cell 1
    have r2 : w2.cell? ⟨w.heap.size + 1, 0, none⟩ = some (.int .i64 0) := k2.cell 0
    have r3 : w2.cell? ⟨w.heap.size + 1, 1, none⟩ = some (.int .i64 0) := k2.cell 1
    have g0 := k1.free 0
    have g1 := k1.free 1
    have g2 := k2.free 0
    have g3 := k2.free 1
    have kl1 := k1.lt
    have kl2 := k2.lt
    have HK1 := Lib.hid k1
    have HK2 := Lib.hid k2
    clear k1 k2
    clear hpl
    go_upto_region 3 with fail
    go_region
    all_goals
      go_wp2
      refine ret_ctc (v := .int .i64 SE) Tryz.results38 rfl rfl rfl (((((HK1.out.set 0 (.int .i64 0)).set 1 (.slice none 0 0)).other (by dsimp only; omega) _).other (by dsimp only; omega) _)) Tryz.underlying28 rfl (by kernel_rfl) ((((HK2.out.other (by dsimp only; omega) _).other (by dsimp only; omega) _).set 0 (.int .i64 ln)).set 1 (.int .i64 cl)) Tryz.underlying44 rfl (by kernel_rfl) ?_
      exact RefParseIs.of HPE.out (ElemsAt.nil _ _ _) (Ext.drew ((((HXF.out.setCell (p := ⟨w.heap.size, 0, none⟩) (Nat.le_refl _) _).setCell (p := ⟨w.heap.size, 1, none⟩) (Nat.le_refl _) _).setCell (p := ⟨w.heap.size + 1, 0, none⟩) (by dsimp only; omega) _).setCell (p := ⟨w.heap.size + 1, 1, none⟩) (by dsimp only; omega) _))
end Go.Proofs.YtknlojlcahgnoaaGreat

namespace Go.Proofs.YtknlojlcahgnoaaGreat
open Go.RowKit
set_option linter.unusedVariables false
set_option linter.unusedSimpArgs false

theorem cfgLines_ok : ∀ (ls : List (List Wd)) (s s' : CfgSt), (∀ ws ∈ ls, ws ≠ []) → s.rs.length ≤ 1000 → 0 ≤ s.most ∧ s.most ≤ 1000000 → cfgLines s ls = .inr s' → s'.rs.length ≤ 1000 ∧ 0 ≤ s'.most ∧ s'.most ≤ 1000000
  | [], s, s', _, h1, h2, h => by
    simp only [cfgLines, Sum.inr.injEq] at h
    subst h
    exact ⟨h1, h2⟩
  | ws :: r, s, s', h0, h1, h2, h => by
    have h3 : (if (lnErr s ws).1 ≠ 0 then .inl ((lnErr s ws).1, (wdAt ws (lnErr s ws).2).line, (wdAt ws (lnErr s ws).2).col) else cfgLines (lnPut s ws) r) = (.inr s' : Sum (Int × Int × Int) CfgSt) := h
    split at h3
    · cases h3
    · rename_i q
      have q2 : (lnErr s ws).1 = 0 := by
        by_cases q3 : (lnErr s ws).1 = 0
        · exact q3
        · exact absurd q3 q
      exact cfgLines_ok r _ s' (fun x hx => h0 x (by simp [hx])) (cput_len q2 h1) (cput_most q2 h2.1 h2.2) h3
/-- what is read is of a bounded size -/
theorem digErr_range (t : ByteArray) : 0 ≤ digErr t ∧ digErr t < 65536 := by
  unfold digErr
  repeat' split
  all_goals constructor <;> decide
theorem lnErr_range (s : CfgSt) (ws : List Wd) : 0 ≤ (lnErr s ws).1 ∧ (lnErr s ws).1 < 65536 := by
  unfold lnErr
  split
  · unfold szErr
    have := digErr_range (wdAt ws 1).t
    repeat' split
    all_goals first | (constructor <;> decide) | (dsimp only; omega)
  · unfold rlErr
    have := err_range (wTexts ws)
    repeat' split
    all_goals first | (constructor <;> decide) | (dsimp only; omega)
theorem cfgLines_range : ∀ (ls : List (List Wd)) (s : CfgSt) (f : Int × Int × Int), cfgLines s ls = .inl f → 0 ≤ f.1 ∧ f.1 < 65536
  | [], s, f, h => by simp [cfgLines] at h
  | ws :: r, s, f, h => by
    have h3 : (if (lnErr s ws).1 ≠ 0 then .inl ((lnErr s ws).1, (wdAt ws (lnErr s ws).2).line, (wdAt ws (lnErr s ws).2).col) else cfgLines (lnPut s ws) r) = (.inl f : Sum (Int × Int × Int) CfgSt) := h
    split at h3
    · simp only [Sum.inl.injEq] at h3
      subst h3
      exact lnErr_range s ws
    · exact cfgLines_range r _ f h3
theorem cfgParse_len (l : List UInt8) : (cfgParse l).rs.length ≤ 1000 ∧ 0 ≤ (cfgParse l).e ∧ (cfgParse l).e < 65536 := by
  unfold cfgParse
  split
  · refine ⟨Nat.zero_le _, ?_⟩
    show 0 ≤ splitE l ∧ splitE l < 65536
    unfold splitE
    repeat' split
    all_goals constructor <;> decide
  · split
    · rename_i f h
      exact ⟨Nat.zero_le _, cfgLines_range _ _ _ h⟩
    · rename_i s h
      have h2 := cfgLines_ok _ _ _ (fun ws hw => ((splitL_ok l).1 ws hw).1) (by decide) (by decide) h
      split
      · refine ⟨Nat.zero_le _, ?_⟩
        show 0 ≤ endErr s ∧ endErr s < 65536
        unfold endErr
        repeat' split
        all_goals constructor <;> decide
      · refine ⟨?_, Int.le_refl 0, show (0 : Int) < 65536 by decide⟩
        show (ordL Rl.key s.rs).length ≤ 1000
        rw [ordL_len]
        exact h2.1
set_option maxHeartbeats 4000000 in
set_option maxRecDepth 100000 in
theorem law12_parses (tv : Value) (l : List UInt8) (w : World) (ht : ByteSlice w tv l) (hcp : CapLe tv) : Calls Tryz.prog 14 #[tv] w fun x w' => x = .returned (.bool true) ∧ Ext w w' := by
  have HT := Lib.hid ht
  have HCP := Lib.hid hcp
  obtain ⟨⟨ta, tc, rfl, -⟩, -⟩ := ht
  obtain ⟨hrl, he0, he1⟩ := cfgParse_len l
  have HC1 := Lib.hid (config_Parse _ l w HT.out HCP.out)
  have HC2 := Lib.hid (fun V (e : Ext w V) => ref12_Parse _ l V (HT.out.ext e) HCP.out)
  unfold ParseIs at HC1
  unfold RefParseIs at HC2
  generalize cfgParse l = R at *
  obtain ⟨e, ln, cl, most, rs⟩ := R
  dsimp only at HC1 HC2 hrl he0 he1
  go_enter Tryz.func14, Tryz.ntmps14
  go_upto_region 2 with (first | (go_at_call 17; refine HC1.out.mono ?_; rintro x w1 ⟨v1, rfl, ho1, hx1⟩; have hat1 := RuleOwn.at ho1; obtain ⟨a1, c1, rfl⟩ := hat1.size; have HA1 := Lib.hid hat1; have HX1 := Lib.hid hx1; clear hat1 ho1 hx1) | fail)
  have bP := (Blk.new w1 #[.int .i64 most, .slice a1 rs.length c1] 28).alloc (.cells #[.int .i64 ln, .int .i64 cl] 44)
  have bL := Blk.new' (w1.alloc (.cells #[.int .i64 most, .slice a1 rs.length c1] 28)) #[.int .i64 ln, .int .i64 cl] 44 (b := w1.heap.size + 1) (by simp)
  have hxa : Ext w1 ((w1.alloc (.cells #[.int .i64 most, .slice a1 rs.length c1] 28)).alloc (.cells #[.int .i64 ln, .int .i64 cl] 44)) := ((Ext.refl w1).alloc _).alloc _
  generalize (w1.alloc (.cells #[.int .i64 most, .slice a1 rs.length c1] 28)).alloc (.cells #[.int .i64 ln, .int .i64 cl] 44) = w2 at *
  have HX2 := Lib.hid (HX1.out.trans hxa)
  have HA2 := Lib.hid (HA1.out.ext Rl.size4 hxa)
  have HBP := Lib.hid bP
  have HBL := Lib.hid bL
  clear bP bL hxa HA1
  go_upto_region 3 with (first | (go_at_call 38; refine (HC2.out _ HX2.out).mono ?_; rintro x w3 ⟨v3, rfl, hat3, hx3⟩; obtain ⟨a3, c3, rfl⟩ := hat3.size; have HA3 := Lib.hid hat3; have HX3 := Lib.hid hx3; clear hat3 hx3) | fail)
  have bP4 := (Blk.new w3 #[.int .i64 most, .slice a3 rs.length c3] 28).alloc (.cells #[.int .i64 ln, .int .i64 cl] 44)
  have bL4 := Blk.new' (w3.alloc (.cells #[.int .i64 most, .slice a3 rs.length c3] 28)) #[.int .i64 ln, .int .i64 cl] 44 (b := w3.heap.size + 1) (by simp)
  have hxb : Ext w3 ((w3.alloc (.cells #[.int .i64 most, .slice a3 rs.length c3] 28)).alloc (.cells #[.int .i64 ln, .int .i64 cl] 44)) := ((Ext.refl w3).alloc _).alloc _
  generalize (w3.alloc (.cells #[.int .i64 most, .slice a3 rs.length c3] 28)).alloc (.cells #[.int .i64 ln, .int .i64 cl] 44) = w4 at *
  have h34 := HX3.out.trans hxb
  have HXF := Lib.hid (HX2.out.trans h34)
  have b1 := HBP.out.ext h34
  have b2 := HBL.out.ext h34
  have p0 : w4.cell? ⟨w1.heap.size, 0, none⟩ = some (.int .i64 most) := b1.cell 0
  have p1 : w4.cell? ⟨w1.heap.size, 1, none⟩ = some (.slice a1 rs.length c1) := b1.cell 1
  have p2 : w4.cell? ⟨w3.heap.size, 0, none⟩ = some (.int .i64 most) := bP4.cell 0
  have p3 : w4.cell? ⟨w3.heap.size, 1, none⟩ = some (.slice a3 rs.length c3) := bP4.cell 1
  have HSA := Lib.hid (ref12_Same_yes most (.slice a1 rs.length c1) (.slice a3 rs.length c3) rs w4 (HA2.out.ext Rl.size4 h34) (HA3.out.ext Rl.size4 hxb) (by omega))
  have hew : IntKind.i64.wrap e = e := by simp [IntKind.wrap, IntKind.signed, IntKind.bits]; omega
  have HB2 := Lib.hid b2
  have HB4 := Lib.hid bL4
  clear b1 b2 bP4 bL4 hxb h34
  go_wp2_with (first | (go_at_call 18; refine HSA.out.mono ?_; rintro x w5 ⟨rfl, hx5⟩; have q0 : w5.cell? ⟨w1.heap.size + 1, 0, none⟩ = some (.int .i64 ln) := (HB2.out.ext hx5).cell 0; have q1 : w5.cell? ⟨w1.heap.size + 1, 1, none⟩ = some (.int .i64 cl) := (HB2.out.ext hx5).cell 1; have q2 : w5.cell? ⟨w3.heap.size + 1, 0, none⟩ = some (.int .i64 ln) := (HB4.out.ext hx5).cell 0; have q3 : w5.cell? ⟨w3.heap.size + 1, 1, none⟩ = some (.int .i64 cl) := (HB4.out.ext hx5).cell 1) | fail)
  go_ret
  exact ⟨by simp, HXF.out.trans hx5⟩
end Go.Proofs.YtknlojlcahgnoaaGreat
