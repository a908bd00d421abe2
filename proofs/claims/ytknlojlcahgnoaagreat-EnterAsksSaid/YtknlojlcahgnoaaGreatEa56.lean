/- Plain: which policies may be; those of choices may be. Plain: where the first rule with a prefix is; what is wrong with rules, by that. Walks: tollerref12.find, tollerref12.Right. Walk: tollerref17.Right. -/
import Derived.BigQuiet
import Derived.Deep.RegionHeld3
import Derived.Test.YtknlojlcahgnoaaGreatEa55
import Derived.Test.YtknlojlcahgnoaaGreatEa41
import Derived.Test.YtknlojlcahgnoaaGreatEa29
import Derived.Test.YtknlojlcahgnoaaGreatEa12
import Derived.Test.YtknlojlcahgnoaaGreatEa43
import Derived.Test.YtknlojlcahgnoaaGreatEa45
import Derived.Test.YtknlojlcahgnoaaGreatEa27
import Derived.Test.YtknlojlcahgnoaaGreatEa17

namespace Go.Proofs.YtknlojlcahgnoaaGreat
open Go.RowKit
set_option linter.unusedVariables false
set_option linter.unusedSimpArgs false

theorem key_inj {r s : Rl} (h : r.key = s.key) : r.p = s.p := by
  unfold Rl.key at h
  exact ByteArray.ext (Array.toList_inj.1 h)
theorem lt_of_up {a b : List UInt8} (h : ¬ b < a) (n : a ≠ b) : a < b := by
  by_cases q : a < b
  · exact q
  · exact absurd (List.le_antisymm (List.not_lt.1 h) (List.not_lt.1 q)) n
theorem keyLt_yes {a b : ByteArray} (h : a.data.toList < b.data.toList) : keyLt a b = true := by
  unfold keyLt
  rw [decide_eq_true_eq, keyLt_iff]
  exact h
theorem sorted_up : ∀ {l : List Rl}, UpL Rl.key l → (l.map (·.p)).Nodup → sortedB (l.map (·.p)) = true
  | [], _, _ => rfl
  | [_], _, _ => rfl
  | a :: b :: t, h, n => by
    have h1 := List.pairwise_cons.1 h
    have n1 := List.nodup_cons.1 n
    show (keyLt a.p b.p && sortedB ((b :: t).map (·.p))) = true
    rw [sorted_up h1.2 n1.2, Bool.and_true]
    refine keyLt_yes (lt_of_up (h1.1 b (by simp)) fun e => ?_)
    have := key_inj (r := a) (s := b) e
    exact n1.1 (List.mem_map.2 ⟨b, by simp, this.symm⟩)
theorem up_sorted : ∀ {l : List ByteArray}, sortedB l = true → l.Pairwise fun a b => a.data.toList < b.data.toList
  | [], _ => List.Pairwise.nil
  | [_], _ => by simp
  | a :: b :: t, h => by
    have h2 : keyLt a b = true ∧ sortedB (b :: t) = true := by simpa [sortedB] using h
    have ih := up_sorted h2.2
    have hab : a.data.toList < b.data.toList := by have := h2.1; unfold keyLt at this; rw [decide_eq_true_eq, keyLt_iff] at this; exact this
    refine List.pairwise_cons.2 ⟨fun x hx => ?_, ih⟩
    rcases List.mem_cons.1 hx with rfl | hx
    · exact hab
    · exact List.lt_trans hab ((List.pairwise_cons.1 ih).1 x hx)
theorem sorted_nodup {l : List ByteArray} (h : sortedB l = true) : l.Nodup := by
  refine (up_sorted h).imp fun {a b} q e => ?_
  subst e
  exact List.lt_irrefl _ q
theorem restL_cons (r : Rl) (t : List Rl) : restL (r :: t) = if r.p = ⟨#[]⟩ then (if sortedB ((r :: t).map (·.p)) = true then 0 else 28) else 31 := rfl
/-- the first one of all that are in order is the one for all -/
theorem first_dft {l : List Rl} (h : UpL Rl.key l) (hd : (⟨#[]⟩ : ByteArray) ∈ l.map (·.p)) : ∃ r t, l = r :: t ∧ r.p = ⟨#[]⟩ := by
  cases l with
  | nil => simp at hd
  | cons r t =>
    refine ⟨r, t, rfl, ?_⟩
    by_cases q : r.p = ⟨#[]⟩
    · exact q
    · exfalso
      obtain ⟨x, hx, hp⟩ := List.mem_map.1 hd
      rcases List.mem_cons.1 hx with rfl | hx
      · exact q hp
      · have := (List.pairwise_cons.1 h).1 x hx
        apply this
        have e : x.key = [] := by unfold Rl.key; rw [show x.p = ⟨#[]⟩ from hp]
        rw [e]
        cases hk : r.key with
        | nil => exact absurd (ByteArray.ext (Array.toList_inj.1 (by unfold Rl.key at hk; rw [hk]))) q
        | cons a b => exact List.nil_lt_cons a b
theorem PolOk.of {most : Int} {rs : List Rl} (h : cfgErr most rs = 0) (ho : ∀ r ∈ rs, RlOk r) : PolOk most rs := by
  obtain ⟨z1, z2, z3⟩ := cfg_zero h
  have he := cfgErr_rules h
  have p := (ordL_perm (key := Rl.key) rs).map (·.p)
  rw [cfgErr_rest (by omega) (by omega) he] at h
  unfold cfgRest at h
  cases q : ordL Rl.key rs with
  | nil => rw [q] at h; simp [restL] at h
  | cons r t =>
    rw [q] at h p
    rw [restL_cons] at h
    split at h
    · rename_i hr
      split at h
      · rename_i hs
        exact ⟨z1, z2, ho, he, p.nodup_iff.1 (sorted_nodup hs), z3, p.mem_iff.1 (by rw [List.map_cons, hr]; simp)⟩
      · omega
    · omega
end Go.Proofs.YtknlojlcahgnoaaGreat

namespace Go.Proofs.YtknlojlcahgnoaaGreat
open Go.RowKit
set_option linter.unusedVariables false
set_option linter.unusedSimpArgs false

/-- where the first rule with a prefix is; below nought: nowhere -/
def findI (rs : List Rl) (p : ByteArray) : Int := match rs.findIdx? (fun r => decide (r.p = p)) with
  | some k => k
  | none => -1
theorem findI_hit {rs : List Rl} {p : ByteArray} {k : Nat} (hk : k < rs.length) (h : rs[k].p = p) (hb : ∀ j (hj : j < k), rs[j].p ≠ p) : findI rs p = k := by
  have e : rs.findIdx? (fun r => decide (r.p = p)) = some k := by
    rw [List.findIdx?_eq_some_iff_getElem]
    exact ⟨hk, by simpa using h, fun j hj => by simpa using hb j hj⟩
  unfold findI
  rw [e]
theorem findI_none {rs : List Rl} {p : ByteArray} (h : ∀ j (hj : j < rs.length), rs[j].p ≠ p) : findI rs p = -1 := by
  have e : rs.findIdx? (fun r => decide (r.p = p)) = none := by
    rw [List.findIdx?_eq_none_iff]
    intro r hr
    obtain ⟨j, hj, rfl⟩ := List.mem_iff_getElem.1 hr
    simpa using h j hj
  unfold findI
  rw [e]
theorem findI_cases (rs : List Rl) (p : ByteArray) : (findI rs p = -1 ∧ ∀ j (hj : j < rs.length), rs[j].p ≠ p) ∨ ∃ (k : Nat) (hk : k < rs.length), findI rs p = k ∧ rs[k].p = p ∧ ∀ j (hj : j < k), rs[j].p ≠ p := by
  cases e : rs.findIdx? (fun r => decide (r.p = p)) with
  | none =>
    rw [List.findIdx?_eq_none_iff] at e
    have h : ∀ j (hj : j < rs.length), rs[j].p ≠ p := fun j hj => by simpa using e _ (List.getElem_mem hj)
    exact Or.inl ⟨findI_none h, h⟩
  | some k =>
    rw [List.findIdx?_eq_some_iff_getElem] at e
    obtain ⟨hk, h1, h2⟩ := e
    have h3 : ∀ j (hj : j < k), rs[j].p ≠ p := fun j hj => by simpa using h2 j hj
    have h4 : rs[k].p = p := by simpa using h1
    exact Or.inr ⟨k, hk, findI_hit hk h4 h3, h4, h3⟩
theorem findI_has (rs : List Rl) (p : ByteArray) : (findI rs p < 0 ↔ hasPre rs p = false) ∧ findI rs p < rs.length ∧ -1 ≤ findI rs p := by
  rcases findI_cases rs p with ⟨h1, h2⟩ | ⟨k, hk, h1, h2, -⟩
  · refine ⟨⟨fun _ => ?_, fun _ => by omega⟩, by omega, by omega⟩
    rw [Bool.eq_false_iff]
    intro q
    obtain ⟨r, hr, e⟩ := List.mem_map.1 (has_pre_iff.1 q)
    obtain ⟨j, hj, rfl⟩ := List.mem_iff_getElem.1 hr
    exact h2 j hj e
  · refine ⟨⟨fun q => by omega, fun q => ?_⟩, by omega, by omega⟩
    rw [Bool.eq_false_iff] at q
    exact absurd (has_pre_iff.2 (List.mem_map.2 ⟨rs[k], List.getElem_mem hk, h2⟩)) q
theorem findI_early {rs : List Rl} {k : Nat} (hk : k < rs.length) : findI rs rs[k].p < k ↔ ∃ (j : Nat) (hj : j < k), rs[j].p = rs[k].p := by
  rcases findI_cases rs rs[k].p with ⟨h1, h2⟩ | ⟨i, hi, h1, h2, h3⟩
  · exact absurd rfl (h2 k hk)
  · constructor
    · intro q
      exact ⟨i, by omega, h2⟩
    · rintro ⟨j, hj, e⟩
      rcases Nat.lt_or_ge j i with q | q
      · exact absurd e (h3 j q)
      · omega
theorem dup_no {rs : List Rl} (h : ∀ k (hk : k < rs.length), ¬ findI rs rs[k].p < k) : (rs.map (·.p)).Nodup := by
  rw [List.nodup_iff_pairwise_ne, List.pairwise_map, List.pairwise_iff_getElem]
  intro i j hi hj hij e
  exact h j hj ((findI_early hj).2 ⟨i, hij, e⟩)
theorem dup_yes {rs : List Rl} {k : Nat} (hk : k < rs.length) (h : findI rs rs[k].p < k) : ¬ (rs.map (·.p)).Nodup := by
  intro q
  obtain ⟨j, hj, e⟩ := (findI_early hk).1 h
  rw [List.nodup_iff_pairwise_ne, List.pairwise_map, List.pairwise_iff_getElem] at q
  exact q j k (by omega) hk hj e
theorem rest_no {rs : List Rl} (h : hasPre rs ⟨#[]⟩ = false) : cfgRest rs = 31 := by
  unfold cfgRest
  cases q : ordL Rl.key rs with
  | nil => rfl
  | cons r t =>
    rw [restL_cons, if_neg]
    intro e
    rw [Bool.eq_false_iff] at h
    apply h
    rw [has_pre_iff]
    have p := (ordL_perm (key := Rl.key) rs).map (·.p)
    rw [← p.mem_iff, q]
    exact List.mem_map.2 ⟨r, by simp, e⟩
theorem rest_yes {rs : List Rl} (h : hasPre rs ⟨#[]⟩ = true) : (¬ (rs.map (·.p)).Nodup → cfgRest rs = 28) ∧ ((rs.map (·.p)).Nodup → cfgRest rs = 0) := by
  have p := (ordL_perm (key := Rl.key) rs).map (·.p)
  obtain ⟨r, t, e, hr⟩ := first_dft (ordL_up rs) (p.mem_iff.2 (has_pre_iff.1 h))
  unfold cfgRest
  have hs : (rs.map (·.p)).Nodup → sortedB ((ordL Rl.key rs).map (·.p)) = true := fun n => sorted_up (ordL_up rs) (p.nodup_iff.2 n)
  have hs2 : sortedB ((ordL Rl.key rs).map (·.p)) = true → (rs.map (·.p)).Nodup := fun n => p.nodup_iff.1 (sorted_nodup n)
  rw [e] at hs hs2 ⊢
  rw [restL_cons, if_pos hr]
  constructor
  · intro n
    rw [if_neg fun q => n (hs2 q)]
  · intro n
    rw [if_pos (hs n)]
end Go.Proofs.YtknlojlcahgnoaaGreat

namespace Go.Proofs.YtknlojlcahgnoaaGreat
open Go.RowKit
set_option linter.unusedVariables false
set_option linter.unusedSimpArgs false

set_option maxHeartbeats 1000000 in
set_option maxRecDepth 100000 in
theorem ref12_find (v : Value) (rs : List Rl) (p : ByteArray) (w : World) (h : RulesAt w v rs) (hl : rs.length ≤ 1000000000) :
    Calls Tryz.prog 88 #[v, .string p] w fun x w' => x = .returned (.int .i64 (findI rs p)) ∧ w = w' := by
  obtain ⟨a, c, rfl⟩ := h.size
  have H := Lib.hid h
  clear h
  go_enter Tryz.func88, Tryz.ntmps88
  go_wp2
  go_loopw [5] (fun i wr => ∃ k : Nat, k ≤ rs.length ∧ i = .int .i64 k ∧ wr = w ∧ Hid (∀ j (hj : j < k) (hj2 : j < rs.length), rs[j].p ≠ p)) (fun i _ => rs.length - (intOf i).toNat)
  case atStart => exact ⟨0, by omega, rfl, rfl, Lib.hid (fun j hj => absurd hj (Nat.not_lt_zero j))⟩
  case round =>
    obtain ⟨k, hk, rfl, rfl, hb⟩ := hrel
    by_cases hlt : k < rs.length
    · obtain ⟨g, o, e, -, q⟩ := H.out.cells Rl.size4 (by decide) k hlt
      cases e
      have c0 : wr.cell? ⟨g, o + k * 4, none⟩ = some (.string rs[k].p) := q 0 (by decide)
      have HIT := Lib.hid (fun e => findI_hit hlt e (fun j hj => hb.out j hj (by omega)))
      have HNX := Lib.hid (fun (ne : rs[k].p ≠ p) => show ∀ j (hj : j < k + 1) (hj2 : j < rs.length), rs[j].p ≠ p from fun j hj hj2 => by
        rcases Nat.lt_or_ge j k with q | q
        · exact hb.out j q hj2
        · have : j = k := by omega
          subst this
          exact ne)
      generalize rs[k].p = pk at *
      clear q hb
      by_cases hp : pk = p
      · subst hp
        go_wp2
        go_ret
        exact ⟨ret_int (by rw [HIT.out trivial]), rfl⟩
      · have hpd : (pk.toList == p.toList) = false := beq_eq_false_iff_ne.2 fun e => hp (toList_inj e)
        go_wp2
        go_roundw
        case rel => exact ⟨k + 1, by omega, by go_num, trivial, Lib.hid (HNX.out hp)⟩
        case measure => simp [intOf]; omega
    · have hkl : k = rs.length := by omega
      have HN := Lib.hid (findI_none (rs := rs) (p := p) (fun j hj => hb.out j (by omega) hj))
      clear hb
      go_wp2
      go_ret
      exact ⟨ret_int (by rw [HN.out]), rfl⟩
set_option maxHeartbeats 2000000 in
set_option maxRecDepth 100000 in
theorem ref12_Right (most : Int) (v : Value) (rs : List Rl) (w : World) (hm0 : -9223372036854775808 ≤ most) (hm1 : most ≤ 9223372036854775807) (hv : RulesAt w v rs) (hro : ∀ r ∈ rs, RlOk r) (hlen : rs.length ≤ 1000000000) :
    Calls Tryz.prog 39 #[.agg #[.int .i64 most, v]] w fun x w' => x = .returned (.int .i64 (cfgErr most rs)) ∧ Ext w w' := by
  obtain ⟨a, c, rfl⟩ := hv.size
  have hx0 : Ext w (w.alloc (.cells #[.int .i64 most, .slice a rs.length c] 28)) := (Ext.refl w).alloc _
  have bP := Blk.new w #[.int .i64 most, .slice a rs.length c] 28
  have HV := Lib.hid (hv.ext Rl.size4 hx0)
  have HRO := Lib.hid hro
  clear hv hro
  go_enter Tryz.func39, Tryz.ntmps39
  go_upto_region 1 with fail
  generalize w.alloc (.cells #[.int .i64 most, .slice a rs.length c] 28) = w0 at *
  have c0 : w0.cell? ⟨w.heap.size, 0, none⟩ = some (.int .i64 most) := bP.cell 0
  have c1 : w0.cell? ⟨w.heap.size, 1, none⟩ = some (.slice a rs.length c) := bP.cell 1
  have HX0 := Lib.hid hx0
  clear bP hx0
  by_cases hm : most < 1 ∨ 1000000 < most
  · have HE := Lib.hid (cfgErr_most (rs := rs) hm)
    rcases hm with hm | hm
    · go_wp2_with fail
      go_ret
      exact ⟨ret_int (by rw [HE.out]), HX0.out⟩
    · have hm2 : ¬ most < 1 := by omega
      go_wp2_with fail
      go_ret
      exact ⟨ret_int (by rw [HE.out]), HX0.out⟩
  · have hm2 : ¬ most < 1 := by omega
    have hm3 : ¬ 1000000 < most := by omega
    have HM := Lib.hid hm
    clear hm
    by_cases hl : 1000 < rs.length
    · have HE := Lib.hid (cfgErr_many HM.out hl)
      have hl2 : (1000 : Int) < rs.length := by omega
      go_wp2_with fail
      go_ret
      exact ⟨ret_int (by rw [HE.out]), HX0.out⟩
    · have hl2 : ¬ (1000 : Int) < rs.length := by omega
      have HL := Lib.hid hl
      go_wp2_with fail
      go_loopw [3] (fun i wr => ∃ k : Nat, k ≤ rs.length ∧ i = .int .i64 k ∧ Ext w0 wr ∧ Hid (∀ r ∈ rs.take k, rErr r = 0)) (fun i _ => rs.length - (intOf i).toNat)
      case atStart => exact ⟨0, by omega, rfl, Ext.refl _, Lib.hid (by simp)⟩
      case round =>
        obtain ⟨k, hk, rfl, hx, hb⟩ := hrel
        have d1 := hx.keep c1
        have HX := Lib.hid hx
        by_cases hlt : k < rs.length
        · obtain ⟨g, o, e, -, q⟩ := (HV.out.ext Rl.size4 hx).cells Rl.size4 (by decide) k hlt
          cases e
          have a0 : wr.cell? ⟨g, o + k * 4, none⟩ = some (.string rs[k].p) := q 0 (by decide)
          have a1 : wr.cell? ⟨g, o + k * 4 + 1, none⟩ = some (.int .u64 rs[k].e) := q 1 (by decide)
          have a2 : wr.cell? ⟨g, o + k * 4 + 2, none⟩ = some (.int .u64 rs[k].b) := q 2 (by decide)
          have a3 : wr.cell? ⟨g, o + k * 4 + 3, none⟩ = some (.int .u8 rs[k].k) := q 3 (by decide)
          obtain ⟨m, e0, e1, b0, b1, -, -⟩ := HRO.out rs[k] (List.getElem_mem hlt)
          have HRI := Lib.hid (fun V => ref11_Right rs[k].p rs[k].e rs[k].b rs[k].k V m e0 e1 b0 b1)
          have HBAD := Lib.hid (fun (ne : rErr rs[k] ≠ 0) => cfgErr_rule HM.out HL.out hlt hb.out ne)
          have HGO := Lib.hid (fun (e : rErr rs[k] = 0) => show ∀ r ∈ rs.take (k + 1), rErr r = 0 from fun r hr => by
            rw [List.take_succ_eq_append_getElem hlt] at hr
            rcases List.mem_append.1 hr with hr | hr
            · exact hb.out r hr
            · rw [List.mem_singleton.1 hr]; exact e)
          have hre : ruleErr rs[k].p rs[k].e rs[k].b rs[k].k = rErr rs[k] := rfl
          rw [hre] at HRI
          generalize rErr rs[k] = E at *
          obtain ⟨r, hr⟩ : ∃ r, rs[k] = r := ⟨_, rfl⟩
          rw [hr] at a0 a1 a2 a3 HRI
          clear q hb hx hre hr m e0 e1 b0 b1
          by_cases hE : E = 0
          · subst hE
            go_wp2_with (first | (go_at_call 89; refine (HRI.out _).mono ?_; rintro x w2 ⟨rfl, hx2⟩) | fail)
            go_roundw
            case rel => exact ⟨k + 1, by omega, by go_num, HX.out.trans hx2, Lib.hid (HGO.out trivial)⟩
            case measure => simp [intOf]; omega
          · have hz : (E == 0) = false := by simpa using hE
            have hz2 : decide (E = 0) = false := by simpa using hE
            go_wp2_with (first
              | (go_at_call 89; refine (HRI.out _).mono ?_; rintro x w2 ⟨rfl, hx2⟩; have f1 := hx2.keep d1; have f2 := hx2.keep a0; have f3 := hx2.keep a1; have f4 := hx2.keep a2; have f5 := hx2.keep a3; have HX2 := Lib.hid (HX.out.trans hx2); clear d1 a0 a1 a2 a3 hx2)
              | (go_at_call 89; refine (HRI.out _).mono ?_; rintro x w3 ⟨rfl, hx3⟩)
              | fail)
            go_ret
            exact ⟨ret_int (by rw [HBAD.out hE]), HX0.out.trans (HX2.out.trans hx3)⟩
        · have hkl : k = rs.length := by omega
          have HALL := Lib.hid (show ∀ r ∈ rs, rErr r = 0 from fun r hr => hb.out r (by rw [hkl, List.take_length]; exact hr))
          have HREST := Lib.hid (cfgErr_rest HM.out HL.out HALL.out)
          have HF := Lib.hid (fun V (e : Ext wr V) p => ref12_find _ rs p V ((HV.out.ext Rl.size4 HX.out).ext Rl.size4 e) hlen)
          have HFH := Lib.hid (findI_has rs ⟨#[]⟩)
          have hfl := (findI_has rs ⟨#[]⟩).2
          clear hb hx
          by_cases hd : findI rs ⟨#[]⟩ < 0
          · have HV31 := Lib.hid (HREST.out.trans (rest_no (HFH.out.1.1 hd)))
            have HFC := Lib.hid (HF.out wr (Ext.refl _) ⟨#[]⟩)
            generalize findI rs ⟨#[]⟩ = d at *
            go_wp2_with (first | (go_at_call 88; refine HFC.out.mono ?_; rintro x w2 ⟨rfl, rfl⟩) | fail)
            go_ret
            exact ⟨ret_int (by rw [HV31.out]), HX0.out.trans HX.out⟩
          · have hpre : hasPre rs ⟨#[]⟩ = true := by
              cases q : hasPre rs ⟨#[]⟩ with
              | true => rfl
              | false => exact absurd (HFH.out.1.2 q) hd
            have HY := Lib.hid (rest_yes hpre)
            have HFC := Lib.hid (HF.out wr (Ext.refl _) ⟨#[]⟩)
            generalize findI rs ⟨#[]⟩ = d at *
            go_wp2_with (first | (go_at_call 88; refine HFC.out.mono ?_; rintro x w2 ⟨rfl, rfl⟩) | fail)
            obtain ⟨wk, hwk⟩ : ∃ wk, wk = wr := ⟨_, rfl⟩
            subst hwk
            go_loopw [4] (fun i wz => ∃ k : Nat, k ≤ rs.length ∧ i = .int .i64 k ∧ Ext wk wz ∧ Hid (∀ j (hj : j < rs.length), j < k → ¬ findI rs rs[j].p < j)) (fun i _ => rs.length - (intOf i).toNat)
            case atStart => exact ⟨0, by omega, rfl, Ext.refl _, Lib.hid (fun j hj h => absurd h (Nat.not_lt_zero j))⟩
            case round =>
              obtain ⟨k, hk, rfl, hxz, hb⟩ := hrel
              have d1 := (HX.out.trans hxz).keep c1
              have HXZ := Lib.hid hxz
              by_cases hlt : k < rs.length
              · obtain ⟨g, o, e, -, q⟩ := ((HV.out.ext Rl.size4 HX.out).ext Rl.size4 hxz).cells Rl.size4 (by decide) k hlt
                cases e
                have a0 : wr.cell? ⟨g, o + k * 4, none⟩ = some (.string rs[k].p) := q 0 (by decide)
                have HFK := Lib.hid (fun n => (HF.out (wr.drewN n) (hxz.trans (Ext.drewNs wr n)) rs[k].p).mono (R' := fun e w' => e = .returned (.int .i64 (findI rs rs[k].p)) ∧ w' = wr.drewN n) (fun e w' h => ⟨h.1, h.2.symm⟩))
                have hfb := (findI_has rs rs[k].p).2
                have HDY := Lib.hid (fun (h : findI rs rs[k].p < k) => dup_yes hlt h)
                have HDN := Lib.hid (fun (h : ¬ findI rs rs[k].p < k) => show ∀ j (hj : j < rs.length), j < k + 1 → ¬ findI rs rs[j].p < j from fun j hj h2 => by
                  rcases Nat.lt_or_ge j k with q | q
                  · exact hb.out j hj q
                  · have : j = k := by omega
                    subst this
                    exact h)
                generalize findI rs rs[k].p = f at *
                generalize rs[k].p = pk at *
                obtain ⟨hf1, hf2⟩ := hfb
                clear q hb hxz
                by_cases hfk : f < k
                · have HR := Lib.hid (HY.out.1 (HDY.out hfk))
                  go_upto_region 15 with fail
                  go_quiet ((go_at_call 88; exact Calls.quiet_of_same (HFK.out _)))
                  go_wp2
                  go_ret
                  exact ⟨ret_int (by rw [HREST.out, HR.out]), HX0.out.trans (HX.out.trans (HXZ.out.trans (Ext.drewNs _ _)))⟩
                · go_upto_region 15 with fail
                  go_quiet ((go_at_call 88; exact Calls.quiet_of_same (HFK.out _)))
                  go_wp2
                  go_roundw
                  case rel => exact ⟨k + 1, by omega, by go_num, HXZ.out.trans (Ext.drewNs _ _), Lib.hid (HDN.out hfk)⟩
                  case measure => simp [intOf]; omega
              · have HD := Lib.hid (HY.out.2 (dup_no (fun j hj => hb.out j hj (by omega))))
                clear hb
                go_wp2_with fail
                go_ret
                exact ⟨ret_int (by rw [HREST.out, HD.out]), HX0.out.trans (HX.out.trans HXZ.out)⟩
end Go.Proofs.YtknlojlcahgnoaaGreat

namespace Go.Proofs.YtknlojlcahgnoaaGreat
open Go.RowKit
set_option linter.unusedVariables false
set_option linter.unusedSimpArgs false

theorem entRight_at {most clock : Int} {rs : List Rl} {es : List Ent} (h : cfgErr most rs = 0) (h2 : ¬ 9223372036854775807 < clock) (h3 : ¬ most < es.length) (h4 : sortedB (es.map (·.key)) = true) {k : Nat} (hk : k < es.length) (hall : ∀ e ∈ es.take k, entErr clock rs e = 0) (hb : entErr clock rs es[k] ≠ 0) : entRight most clock rs es = entErr clock rs es[k] := by
  unfold entRight
  rw [if_neg (by simpa using h), if_neg h2, if_neg h3, if_neg (by simp [h4]), (badAt_some hk hall hb).2]
theorem entRight_ok {most clock : Int} {rs : List Rl} {es : List Ent} (h : cfgErr most rs = 0) (h2 : ¬ 9223372036854775807 < clock) (h3 : ¬ most < es.length) (h4 : sortedB (es.map (·.key)) = true) (hall : ∀ e ∈ es, entErr clock rs e = 0) : entRight most clock rs es = 0 := by
  unfold entRight
  rw [if_neg (by simpa using h), if_neg h2, if_neg h3, if_neg (by simp [h4]), (badAt_none hall).2]
theorem entErr_key {clock : Int} {rs : List Rl} {e : Ent} (h : keyOk e.key = false) : entErr clock rs e = 12 := if_pos h
theorem entErr_nil {clock : Int} {rs : List Rl} {e : Ent} (h : keyOk e.key = true) (h1 : satSub e.till clock = 0) : entErr clock rs e = 44 := by
  unfold entErr
  rw [if_neg (by rw [h]; decide), if_pos h1]
theorem entErr_much {clock : Int} {rs : List Rl} {e : Ent} (h : keyOk e.key = true) (h1 : satSub e.till clock ≠ 0) (h2 : rCap (bestD rs e.key) < satSub e.till clock) : entErr clock rs e = 44 := by
  unfold entErr
  rw [if_neg (by rw [h]; decide), if_neg h1, if_pos h2]
theorem entErr_no {clock : Int} {rs : List Rl} {e : Ent} (h : keyOk e.key = true) (h1 : satSub e.till clock ≠ 0) (h2 : ¬ rCap (bestD rs e.key) < satSub e.till clock) : entErr clock rs e = 0 := by
  unfold entErr
  rw [if_neg (by rw [h]; decide), if_neg h1, if_neg h2]
theorem takeE_snoc {α : Type} {p : α → Prop} {es : List α} {k : Nat} (hk : k < es.length) (h : ∀ e ∈ es.take k, p e) (h2 : p es[k]) : ∀ e ∈ es.take (k + 1), p e := by
  rw [List.take_succ_eq_append_getElem hk]
  intro e he
  rcases List.mem_append.1 he with q | q
  · exact h e q
  · rw [List.mem_singleton.1 q]; exact h2

set_option maxHeartbeats 4000000 in
set_option maxRecDepth 100000 in
theorem ref17_Right (most : Int) (rv : Value) (rs : List Rl) (clock : Int) (ev : Value) (es : List Ent) (w : World) (hm0 : -9223372036854775808 ≤ most) (hm1 : most ≤ 9223372036854775807) (hr : RulesAt w rv rs) (hro : ∀ r ∈ rs, RlOk r) (hrl : rs.length ≤ 1000000000)
    (hn0 : 0 ≤ clock) (hn1 : clock < 18446744073709551616) (hv : EntsAt w ev es) (heo : ∀ e ∈ es, EntOk e) (hel : es.length ≤ 1000000000) :
    Calls Tryz.prog 58 #[.agg #[.int .i64 most, rv], .agg #[.int .u64 clock, ev]] w fun x w' => x = .returned (.int .i64 (entRight most clock rs es)) ∧ Ext w w' := by
  obtain ⟨ra, rc, rfl⟩ := hr.size
  obtain ⟨ea, ec, rfl⟩ := hv.size
  have hx0 : Ext w ((w.alloc (.cells #[.int .i64 most, .slice ra rs.length rc] 28)).alloc (.cells #[.int .u64 clock, .slice ea es.length ec] 52)) := ((Ext.refl w).alloc _).alloc _
  have bP := (Blk.new w #[.int .i64 most, .slice ra rs.length rc] 28).alloc (.cells #[.int .u64 clock, .slice ea es.length ec] 52)
  have bS := Blk.new' (w.alloc (.cells #[.int .i64 most, .slice ra rs.length rc] 28)) #[.int .u64 clock, .slice ea es.length ec] 52 (b := w.heap.size + 1) (by simp)
  have HR := Lib.hid (hr.ext Rl.size4 hx0)
  have HV := Lib.hid (hv.ext Ent.size2 hx0)
  have HRO := Lib.hid hro
  have HEO := Lib.hid heo
  have HRI := Lib.hid (fun V (e : Ext w V) => ref12_Right most (.slice ra rs.length rc) rs V hm0 hm1 (hr.ext Rl.size4 e) hro hrl)
  have hml : (1000000000 : Nat) ≤ maxLen := by decide
  have HFD := Lib.hid (fun V (e : Ext w V) (k : ByteArray) (hk : k.size ≤ maxLen) => ref13_Find (.slice ra rs.length rc) rs k V (hr.ext Rl.size4 e) hro (by omega) hk)
  obtain ⟨E, hE⟩ : ∃ E, cfgErr most rs = E := ⟨_, rfl⟩
  have HE := Lib.hid hE
  rw [hE] at HRI
  clear hr hv hro heo hE
  go_enter Tryz.func58, Tryz.ntmps58
  go_upto_region 1 with fail
  generalize (w.alloc (.cells #[.int .i64 most, .slice ra rs.length rc] 28)).alloc (.cells #[.int .u64 clock, .slice ea es.length ec] 52) = w0 at *
  have HX0 := Lib.hid hx0
  have HBP := Lib.hid bP
  have HBS := Lib.hid bS
  have cP := bP.cell
  clear hx0 bP bS
  by_cases hE0 : E = 0
  · subst hE0
    go_wp2_with fail
    refine (HRI.out _ HX0.out).mono ?_
    rintro x w1 ⟨rfl, hx1⟩
    have cS := (HBS.out.ext hx1).cell
    have cP1 := (HBP.out.ext hx1).cell
    have HX1 := Lib.hid hx1
    clear hx1 cP
    by_cases hbig : 9223372036854775807 < clock
    · have HV1 := Lib.hid (entRight_big (es := es) HE.out hbig)
      go_wp2_with fail
      go_ret
      exact ⟨ret_int HV1.out.symm, HX0.out.trans HX1.out⟩
    · by_cases hmany : most < (es.length : Int)
      · have HV1 := Lib.hid (entRight_many HE.out hbig hmany)
        go_wp2_with fail
        go_ret
        exact ⟨ret_int HV1.out.symm, HX0.out.trans HX1.out⟩
      · have HBG : Hid (¬ 9223372036854775807 < clock) := Lib.hid (by omega)
        have HMN : Hid (¬ most < (es.length : Int)) := Lib.hid (by omega)
        have hel2 : (es.map (·.key)).length = es.length := List.length_map _
        have HL2 := Lib.hid hel2
        clear hel2
        go_wp2_with fail
        clear cS cP1
        go_loopw [5] (fun i wr => ∃ k : Nat, 1 ≤ k ∧ (k ≤ es.length ∨ k = 1) ∧ i = .int .i64 k ∧ Up (es.map (·.key)) k ∧ Ext w0 wr) (fun i _ => es.length - (intOf i).toNat)
        case atStart => exact ⟨1, by omega, Or.inr rfl, rfl, fun i h1 h2 => by omega, HX1.out⟩
        case round =>
          obtain ⟨k, hk1, hk2, rfl, hup, hx⟩ := hrel
          have HUP := Lib.hid hup
          have HX := Lib.hid hx
          have cS1 : wr.cell? ⟨w.heap.size + 1, 1, none⟩ = some (.slice ea es.length ec) := (HBS.out.ext hx).cell 1
          clear hup
          by_cases hlt : k < es.length
          · obtain ⟨j, rfl⟩ : ∃ j : Nat, k = j + 1 := ⟨k - 1, by omega⟩
            obtain ⟨b, o, rfl, hbl, hc0⟩ := (HV.out.ext Ent.size2 hx).cells Ent.size2 (by decide) j (by omega)
            obtain ⟨b2, o2, he2, -, hc1⟩ := (HV.out.ext Ent.size2 hx).cells Ent.size2 (by decide) (j + 1) hlt
            simp only [Option.some.injEq, Addr.mk.injEq, and_true] at he2
            obtain ⟨rfl, rfl⟩ := he2
            have c0 : wr.cell? ⟨b, o + j * 2, none⟩ = some (.string es[j].key) := hc0 0 (by decide)
            have c1 : wr.cell? ⟨b, o + (j + 1) * 2, none⟩ = some (.string es[j + 1].key) := hc1 0 (by decide)
            have hs0 := (HEO.out es[j] (List.getElem_mem _)).1
            have hs1 := (HEO.out es[j + 1] (List.getElem_mem _)).1
            have HST := Lib.hid (fun e => Up.step HUP.out (by rw [HL2.out]; exact hlt) hk1 e)
            have HSP := Lib.hid (fun e => Up.stop (l := es.map (·.key)) (by rw [HL2.out]; exact hlt) hk1 e)
            simp only [Nat.add_sub_cancel, List.getElem_map] at HST HSP
            have HLS := Lib.hid (fun W : World => ref09_Less es[j].key es[j + 1].key W hs0 hs1)
            generalize hV : keyLt es[j].key es[j + 1].key = V at *
            generalize es[j].key = s0 at *
            generalize es[j + 1].key = s1 at *
            clear hc0 hc1 hV hs0 hs1
            have hw : IntKind.i64.wrap ((j : Int) + 1 - 1) = j := by simp [IntKind.wrap, IntKind.signed, IntKind.bits]; omega
            have g0 : ∀ s, (grown wr s).cell? ⟨b, o + j * 2, none⟩ = some (.string s0) := grown_cell c0
            have g1 : ∀ s, (grown wr s).cell? ⟨b, o + (j + 1) * 2, none⟩ = some (.string s1) := grown_cell c1
            have g2 : ∀ s, (grown wr s).cell? ⟨w.heap.size + 1, 1, none⟩ = some (.slice (some ⟨b, o, none⟩) es.length ec) := grown_cell cS1
            have i0 : (0 : Int) ≤ (j : Int) := by omega
            have i1 : (j : Int) < (es.length : Int) := by omega
            have i2 : (0 : Int) ≤ ((j + 1 : Nat) : Int) := by omega
            have i3 : ((j + 1 : Nat) : Int) < (es.length : Int) := by omega
            go_upto_region 10 with fail
            clear c0 c1 cS1 hx
            refine wp_region_grow (by kernel_rfl) (by kernel_rfl) ?_
            repeat (go_big_quiet_step ((go_at_call 55; exact grow_call (HLS.out _))))
            refine wpQuiet_nil ?_
            rintro _ ⟨sg, rfl⟩
            have hxg := HX.out.trans (grown_ext wr sg)
            cases V with
            | true =>
              go_wp2
              go_roundw
              case rel => exact ⟨j + 1 + 1, by omega, by omega, by go_num, HST.out (by trivial), hxg⟩
              case measure => simp [intOf]; omega
            | false =>
              have HV1 := Lib.hid (entRight_order HE.out (Int.not_lt.2 HBG.out) (Int.not_lt.2 HMN.out) (HSP.out (by trivial)))
              go_wp2
              go_ret
              exact ⟨ret_int HV1.out.symm, HX0.out.trans hxg⟩
          · have hs : sortedB (es.map (·.key)) = true := by
              rw [sortedB_iff]
              intro i h1 h2
              exact HUP.out i h1 (by rw [HL2.out] at h1; omega)
            have HSO := Lib.hid hs
            clear hs hk2
            go_wp2
            clear cS1
            go_loopw [6] (fun i wt => ∃ k : Nat, k ≤ es.length ∧ i = .int .i64 k ∧ (∀ e ∈ es.take k, entErr clock rs e = 0) ∧ Ext w0 wt) (fun i _ => es.length - (intOf i).toNat)
            case atStart => exact ⟨0, by omega, rfl, fun e h => (by cases h), HX.out⟩
            case round =>
              obtain ⟨q, hq, rfl, hall, hxq⟩ := hrel
              have HALL := Lib.hid hall
              have HXQ := Lib.hid hxq
              have cS0 : wr.cell? ⟨w.heap.size + 1, 0, none⟩ = some (.int .u64 clock) := (HBS.out.ext hxq).cell 0
              have cS1 : wr.cell? ⟨w.heap.size + 1, 1, none⟩ = some (.slice ea es.length ec) := (HBS.out.ext hxq).cell 1
              have cP1 : wr.cell? ⟨w.heap.size, 1, none⟩ = some (.slice ra rs.length rc) := (HBP.out.ext hxq).cell 1
              clear hall
              by_cases hqt : q < es.length
              · obtain ⟨b, o, rfl, hbl, hc0⟩ := (HV.out.ext Ent.size2 hxq).cells Ent.size2 (by decide) q hqt
                have c0 : wr.cell? ⟨b, o + q * 2, none⟩ = some (.string es[q].key) := hc0 0 (by decide)
                have c1 : wr.cell? ⟨b, o + q * 2 + 1, none⟩ = some (.int .u64 es[q].till) := hc0 1 (by decide)
                obtain ⟨hks, ht0, ht1⟩ := HEO.out es[q] (List.getElem_mem _)
                have HBAD : Hid (entErr clock rs es[q] ≠ 0 → entRight most clock rs es = entErr clock rs es[q]) := Lib.hid (fun h => entRight_at HE.out (Int.not_lt.2 HBG.out) (Int.not_lt.2 HMN.out) HSO.out hqt HALL.out h)
                have HNXT : Hid (entErr clock rs es[q] = 0 → ∀ e ∈ es.take (q + 1), entErr clock rs e = 0) := Lib.hid (fun h => takeE_snoc hqt HALL.out h)
                have HKY := Lib.hid (entErr_key (clock := clock) (rs := rs) (e := es[q]))
                have HNI := Lib.hid (entErr_nil (clock := clock) (rs := rs) (e := es[q]))
                have HMU := Lib.hid (entErr_much (clock := clock) (rs := rs) (e := es[q]))
                have HNO := Lib.hid (entErr_no (clock := clock) (rs := rs) (e := es[q]))
                have HKR := Lib.hid (fun W => ref09_Right es[q].key W hks)
                have HFK := Lib.hid (fun V (e : Ext w V) => HFD.out V e es[q].key hks)
                rw [findV_D] at HFK
                have HBO := Lib.hid (bestD_ok HRO.out es[q].key)
                obtain ⟨F, hF⟩ : ∃ F, satSub es[q].till clock = F := ⟨_, rfl⟩
                have hFb := satSub_bnd (a := es[q].till) (b := clock) ht0 ht1 hn0
                rw [hF] at hFb HNI HMU HNO
                have HSB := Lib.hid (fun W => ref02_Sub es[q].till clock W ht0 ht1 hn0 hn1)
                rw [hF] at HSB
                obtain ⟨kb, hkb⟩ : ∃ kb, keyOk es[q].key = kb := ⟨_, rfl⟩
                rw [hkb] at HKR HKY HNI HMU HNO
                generalize hEr : entErr clock rs es[q] = Er at *
                generalize es[q].till = tl at *
                generalize es[q].key = ky at *
                have hq1 : (q : Int) < (es.length : Int) := by omega
                have hq0 : (0 : Int) ≤ (q : Int) := by omega
                clear hc0 hF hkb hEr hxq
                go_wp2_with fail
                refine (HKR.out _).mono ?_
                rintro x w5 ⟨rfl, rfl⟩
                cases kb with
                | false =>
                  have he := HKY.out rfl
                  have HV1 := Lib.hid (HBAD.out (by rw [he]; decide))
                  rw [he] at HV1
                  go_wp2_with fail
                  go_ret
                  exact ⟨ret_int HV1.out.symm, HX0.out.trans HXQ.out⟩
                | true =>
                  generalize hbD : bestD rs ky = D at *
                  have HCP := Lib.hid (fun V => ref11_Cap D.p D.e D.b D.k V HBO.out.1 HBO.out.2.1 HBO.out.2.2.1 HBO.out.2.2.2.1 HBO.out.2.2.2.2.1)
                  have hcu : 0 ≤ rCap D ∧ rCap D ≤ 4611686018427387904 := ruleCap_u _ _ _ _ HBO.out.2.1 HBO.out.2.2.2.1
                  have HRC : Hid (ruleCap D.p D.e D.b D.k = rCap D) := Lib.hid rfl
                  rw [HRC.out] at HCP
                  generalize hC : rCap D = C at *
                  obtain ⟨dp, de, db, dk⟩ := D
                  simp only [Rl.cells] at HFK HCP
                  generalize (bestR rs ky.data.toList).isSome = isb at *
                  clear hbD hC
                  go_upto_region 17 with fail
                  go_cut [7] from 61 to 72 (fun x7 wx => ∃ B, x7 = .pointer (some ⟨B, 0, none⟩) ∧ Blk wx B #[.string dp, .int .u64 de, .int .u64 db, .int .u8 dk] 37 ∧ Ext wr wx)
                  case first =>
                    go_region_held3 (fun w' => w'.cell? ⟨w.heap.size, 1, none⟩ = some (.slice ra rs.length rc) ∧ w'.cell? ⟨w.heap.size + 1, 1, none⟩ = some (.slice (some ⟨b, o, none⟩) es.length ec) ∧ w'.cell? ⟨b, o + q * 2, none⟩ = some (.string ky) ∧ Ext wr w')
                      (((try go_split_ands); refine ⟨Ext.keep (w := wr) ?_ cP1, Ext.keep (w := wr) ?_ cS1, Ext.keep (w := wr) ?_ c0, ?_⟩ <;> (repeat (first | with_reducible exact Ext.refl _ | with_reducible assumption | with_reducible refine Ext.alloc ?_ _ | with_reducible refine Ext.drew ?_ | (with_reducible refine Ext.setCell ?_ (by first | exact Nat.le_refl _ | (dsimp only; omega) | (simp; done) | (simp; omega)) _) | with_reducible refine Ext.trans ?_ (by with_reducible assumption)))))
                      (first
                        | (go_at_call 113; (with_reducible refine (HFK.out _ (HX0.out.trans (HXQ.out.trans (by repeat (first | with_reducible exact Ext.refl _ | with_reducible assumption | with_reducible refine Ext.alloc ?_ _ | with_reducible refine Ext.drew ?_ | (with_reducible refine Ext.setCell ?_ (by first | exact Nat.le_refl _ | (dsimp only; omega) | (simp; done) | (simp; omega)) _) | with_reducible refine Ext.trans ?_ (by with_reducible assumption)))))).mono ?_); rintro x w11 ⟨rfl, hx11'⟩; have hx11 : Ext wr w11 := Ext.trans (by repeat (first | with_reducible exact Ext.refl _ | with_reducible assumption | with_reducible refine Ext.alloc ?_ _ | with_reducible refine Ext.drew ?_ | (with_reducible refine Ext.setCell ?_ (by first | exact Nat.le_refl _ | (dsimp only; omega) | (simp; done) | (simp; omega)) _) | with_reducible refine Ext.trans ?_ (by with_reducible assumption))) hx11'; have hz11 := hx11.sz; (try (with_reducible have bn := Blk.ext (Blk.drew (Blk.new wr #[.string ⟨#[]⟩, .int .u64 0, .int .u64 0, .int .u8 0] 37)) hx11'; have cn := bn.cell; have fn := bn.free; have ln := bn.lt))))
                    all_goals
                      go_wp2_with fail
                      go_meet
                      refine ⟨_, rfl, ?_, (by repeat (first | with_reducible exact Ext.refl _ | with_reducible assumption | with_reducible refine Ext.alloc ?_ _ | with_reducible refine Ext.drew ?_ | (with_reducible refine Ext.setCell ?_ (by first | exact Nat.le_refl _ | (dsimp only; omega) | (simp; done) | (simp; omega)) _) | with_reducible refine Ext.trans ?_ (by with_reducible assumption)))⟩
                      first
                        | exact Blk.new _ _ _
                        | exact (((bn.set 0 _).set 1 _).set 2 _).set 3 _
                  case rest =>
                  obtain ⟨B, rfl, hB, hxc⟩ := hcut
                  have cB := hB.cell
                  have c0' := hxc.keep c0
                  have c1' := hxc.keep c1
                  have cS0' := hxc.keep cS0
                  have cS1' := hxc.keep cS1
                  have HBD := Lib.hid hB
                  have HXC := Lib.hid hxc
                  have g1 : ∀ s, (grown wc s).cell? ⟨b, o + q * 2 + 1, none⟩ = some (.int .u64 tl) := grown_cell c1'
                  have g2 : ∀ s, (grown wc s).cell? ⟨w.heap.size + 1, 1, none⟩ = some (.slice (some ⟨b, o, none⟩) es.length ec) := grown_cell cS1'
                  have g3 : ∀ s, (grown wc s).cell? ⟨w.heap.size + 1, 0, none⟩ = some (.int .u64 clock) := grown_cell cS0'
                  go_upto_region 18 with fail
                  clear hB hxc c0 c1 cS0 cS1 cP1 c0' c1' cS0' cS1' cB
                  refine wp_region_grow (by kernel_rfl) (by kernel_rfl) ?_
                  repeat (go_big_quiet_step ((go_at_call 117; exact grow_call ((HSB.out _).mono fun x w' h => ⟨h.1, by rw [h.2]; exact Ext.refl _⟩))))
                  refine wpQuiet_nil ?_
                  rintro _ ⟨sg, rfl⟩
                  have hxg := HXC.out.trans (grown_ext wc sg)
                  have cB := (HBD.out.ext (grown_ext wc sg)).cell
                  generalize grown wc sg = wg at *
                  by_cases hF0 : F = 0
                  · subst hF0
                    have he := HNI.out (by trivial) rfl
                    have HV1 := Lib.hid (HBAD.out (by rw [he]; decide))
                    rw [he] at HV1
                    go_wp2_with fail
                    go_ret
                    exact ⟨ret_int HV1.out.symm, HX0.out.trans (HXQ.out.trans hxg)⟩
                  · have hF1 : ¬ F < 1 := by omega
                    by_cases hFC : C < F
                    · have he := HMU.out (by trivial) hF0 hFC
                      have HV1 := Lib.hid (HBAD.out (by rw [he]; decide))
                      rw [he] at HV1
                      go_wp2_with fail
                      refine (HCP.out _).mono ?_
                      rintro x w7 ⟨rfl, hx7⟩
                      go_wp2_with fail
                      go_ret
                      exact ⟨ret_int HV1.out.symm, HX0.out.trans (HXQ.out.trans (hxg.trans hx7))⟩
                    · have he := HNO.out (by trivial) hF0 (by omega)
                      have HN1 := Lib.hid (HNXT.out he)
                      go_wp2_with fail
                      refine (HCP.out _).mono ?_
                      rintro x w7 ⟨rfl, hx7⟩
                      go_wp2_with fail
                      go_roundw
                      case rel => exact ⟨q + 1, by omega, by go_num, HN1.out, HXQ.out.trans (hxg.trans hx7)⟩
                      case measure => simp [intOf]; omega
              · have hqe : q = es.length := by omega
                have HV1 := Lib.hid (entRight_ok HE.out (Int.not_lt.2 HBG.out) (Int.not_lt.2 HMN.out) HSO.out (by have := HALL.out; rwa [hqe, List.take_of_length_le (Nat.le_refl _)] at this))
                go_wp2_with fail
                go_ret
                exact ⟨ret_int HV1.out.symm, HX0.out.trans HXQ.out⟩
  · have HV1 := Lib.hid (entRight_cfg (clock := clock) (es := es) (by rw [HE.out]; exact hE0))
    rw [HE.out] at HV1
    have hE1 : (E != 0) = true := by simpa using hE0
    go_wp2_with fail
    refine (HRI.out _ HX0.out).mono ?_
    rintro x w1 ⟨rfl, hx1⟩
    have cP1 := (HBP.out.ext hx1).cell
    go_wp2_with fail
    refine (HRI.out _ (HX0.out.trans hx1)).mono ?_
    rintro x w2 ⟨rfl, hx2⟩
    go_wp2_with fail
    go_ret
    exact ⟨ret_int HV1.out.symm, HX0.out.trans (hx1.trans hx2)⟩
end Go.Proofs.YtknlojlcahgnoaaGreat
