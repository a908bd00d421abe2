/- Walk: tollerlaw12.ConfigLacks. Walk: tollerlaw12.ConfigTwice. -/
import Derived.Test.YtknlojlcahgnoaaG53

/- Walk: tollerlaw12.ConfigLacks. -/
namespace Go.Proofs.Ytknlojlcahgnoaa
open Go.RowKit
set_option linter.unusedVariables false
set_option linter.unusedSimpArgs false

theorem rules_tail {w : World} {b o c c' : Nat} {r : Rl} {t : List Rl} (h : RulesAt w (.slice (some ⟨b, o, none⟩) (t.length + 1) c) (r :: t)) : RulesAt w (.slice (some ⟨b, o + 4, none⟩) t.length c') t := by
  refine ⟨_, _, rfl, fun hne => ⟨b, o + 4, rfl, fun j hj i hi => ?_⟩⟩
  obtain ⟨b', o', e, -, hc⟩ := h.cells Rl.size4 (by decide) (j + 1) (by simp; omega)
  simp only [Option.some.injEq, Addr.mk.injEq, and_true] at e
  obtain ⟨rfl, rfl⟩ := e
  have := hc i hi
  rw [List.getElem_cons_succ] at this
  rw [← this]
  congr 2
  omega
theorem end_step (t : List UInt8) (k : Nat) (hk : k < t.length) : endOf (t.take (k + 1)) = if endOf (t.take k) = 0 then (if (t[k].toNat : Int) = 10 then k + 1 else 0) else endOf (t.take k) := by
  rw [List.take_succ_eq_append_getElem hk, endOf_snoc, List.length_take, Nat.min_eq_left (by omega)]
  have : (t[k] = 10) ↔ ((t[k].toNat : Int) = 10) := by
    constructor
    · intro e; rw [e]; rfl
    · intro e; exact UInt8.toNat_inj.1 (by show t[k].toNat = 10; omega)
  simp only [this]
theorem endOf_le : ∀ l : List UInt8, endOf l ≤ l.length
  | [] => Nat.le_refl _
  | b :: r => by
    have := endOf_le r
    unfold endOf
    split
    · simp
    · split
      · omega
      · simp; omega
theorem bytes_form {w : World} {b o n c : Nat} {l : List UInt8} (h : ByteSlice w (.slice (some ⟨b, o, none⟩) n c) l) : n = l.length ∧ ∀ j (h : j < l.length), w.cell? ⟨b, o + j, none⟩ = some (.int .u8 (l[j].toNat : Int)) := by
  obtain ⟨a, c', e, hl⟩ := h.form
  simp only [Value.slice.injEq] at e
  obtain ⟨e1, e2, -⟩ := e
  refine ⟨e2, fun j hj => ?_⟩
  obtain ⟨b', o', ha, hc⟩ := hl (by intro q; rw [q] at hj; simp at hj)
  rw [ha] at e1
  simp only [Option.some.injEq, Addr.mk.injEq, and_true] at e1
  obtain ⟨rfl, rfl⟩ := e1
  exact hc j hj
theorem ByteSlice.drop {w : World} {b o n c c' n' k : Nat} {l : List UInt8} (h : ByteSlice w (.slice (some ⟨b, o, none⟩) n c) l) (hn : n' = n - k) : ByteSlice w (.slice (some ⟨b, o + k, none⟩) n' c') (l.drop k) := by
  obtain ⟨q1, q2⟩ := bytes_form h
  refine ⟨⟨_, _, by rw [List.length_drop, ← q1, hn], fun _ => ⟨b, o + k, rfl, fun j hj => ?_⟩⟩, by rw [List.length_drop]; have := h.len; omega⟩
  rw [List.length_drop] at hj
  rw [List.getElem_drop, ← q2 (k + j) (by omega), Nat.add_assoc]
theorem ByteSlice.take {w : World} {b o n c c' k : Nat} {l : List UInt8} (h : ByteSlice w (.slice (some ⟨b, o, none⟩) n c) l) (hk : k ≤ l.length) : ByteSlice w (.slice (some ⟨b, o, none⟩) k c') (l.take k) := by
  obtain ⟨q1, q2⟩ := bytes_form h
  refine ⟨⟨_, _, by rw [List.length_take, Nat.min_eq_left hk], fun _ => ⟨b, o, rfl, fun j hj => ?_⟩⟩, by rw [List.length_take]; have := h.len; omega⟩
  rw [List.length_take] at hj
  rw [List.getElem_take, ← q2 j (by omega)]
theorem ByteSlice.nil (w : World) : ByteSlice w (.slice none 0 0) [] := ⟨⟨_, _, rfl, fun h => absurd rfl h⟩, by simp⟩
theorem cap_le {a : Option Addr} {n c : Nat} (h : n ≤ c) : CapLe (.slice a n c) := fun a' n' c' e => by
  simp only [Value.slice.injEq] at e
  obtain ⟨-, e2, e3⟩ := e
  rw [← e2, ← e3]
  exact h
theorem rules_none (w : World) (a : Option Addr) (c : Nat) : RulesAt w (.slice a 0 c) [] := ⟨_, _, rfl, fun h => absurd rfl h⟩
theorem bytes_addr {w : World} {a : Option Addr} {n c : Nat} {l : List UInt8} (h : ByteSlice w (.slice a n c) l) (hn : l ≠ []) : ∃ b o, a = some ⟨b, o, none⟩ ∧ n = l.length ∧ b < w.heap.size := by
  obtain ⟨a', c', e, hl⟩ := h.form
  simp at e
  obtain ⟨rfl, rfl, rfl⟩ := e
  obtain ⟨b, o, ha, hc⟩ := hl hn
  exact ⟨b, o, ha, rfl, cell_lt (hc 0 (List.length_pos_iff.2 hn))⟩
set_option maxHeartbeats 4000000 in
set_option maxRecDepth 100000 in
theorem law12_ConfigLacks (n : Int) (v : Value) (l : List Nms) (w : World) (hn0 : 0 ≤ n) (hn1 : n < 65536) (hv : NmsSlice w v l) :
    Calls Try.prog 6 #[.int .u16 n, v] w fun x w' => x = .returned (.bool true) ∧ Ext w w' := by
  have hall := hv
  obtain ⟨⟨va, vc, rfl, -⟩, -, heach⟩ := hv
  obtain ⟨hP, hlen, t0, ht0⟩ := polRs_ok hn0 l heach
  have HP := Lib.hid hP
  have HLEN := Lib.hid hlen
  have HPO := Lib.hid (law12_Policy n _ l w hn0 hn1 hall)
  obtain ⟨rs, hrs⟩ : ∃ rs, polRs n l = rs := ⟨_, rfl⟩
  rw [hrs] at HP HLEN HPO ht0
  obtain ⟨most, hmost⟩ : ∃ most, 1 + n % 50 = most := ⟨_, rfl⟩
  rw [hmost] at HP HPO
  have hm0 : 1 ≤ most := by omega
  have hm1 : most ≤ 50 := by omega
  have hl1 : 1 ≤ rs.length := by rw [ht0]; simp
  have HT0 := Lib.hid ht0
  clear hP hlen heach hall ht0
  go_enter Try.func6, Try.ntmps6
  go_wp2_with fail
  refine HPO.out.mono ?_
  rintro x w1 ⟨rv, rfl, hrow, hx1⟩
  have hat : RulesAt w1 rv rs := RuleRow.at hrow
  obtain ⟨ra, rc, rfl⟩ := hat.size
  obtain ⟨rb, ro, rfl, -, -⟩ := hat.cells Rl.size4 (by decide) 0 hl1
  have hrcap : rs.length ≤ rc := (CapOk.own hrow.own _ _ _ rfl).1
  have HAT := Lib.hid hat
  have HX1 := Lib.hid hx1
  clear hat
  clear hrow hx1
  go_wp2_with fail
  have bP := Blk.new w1 #[.int .i64 most, .slice (some ⟨rb, ro, none⟩) rs.length rc] 27
  have hxa : Ext w1 (w1.alloc (.cells #[.int .i64 most, .slice (some ⟨rb, ro, none⟩) rs.length rc] 27)) := (Ext.refl w1).alloc _
  generalize w1.alloc (.cells #[.int .i64 most, .slice (some ⟨rb, ro, none⟩) rs.length rc] 27) = wa at *
  have hlen := HLEN.out
  refine (config_Print_ok most _ rs wa (by omega) (by omega) (HAT.out.ext Rl.size4 hxa) HP.out.ok (by omega) HP.out.cfg).mono ?_
  rintro x w2 ⟨tv, rfl, hb2, hc2, hx2⟩
  have HBP := Lib.hid (bP.ext hx2)
  have HX2 := Lib.hid (HX1.out.trans (hxa.trans hx2))
  have HAT2 := Lib.hid (HAT.out.ext Rl.size4 (hxa.trans hx2))
  clear HAT HX1 hxa hx2 bP
  have ht := hb2
  obtain ⟨⟨ta, tc, rfl, -⟩, htl⟩ := ht
  have htc : (prText most rs).length ≤ tc := hc2 _ _ _ rfl
  have hsm : (prText most rs).length ≤ 1048576 := by
    have := lines_small most (by omega) (by omega) _ HP.out.ord.ok HP.out.ord.err
    have h2 := HP.out.ord.len
    show (joinText _).length ≤ _
    unfold prLines
    omega
  obtain ⟨p1, p2⟩ := pr_take (most := most) (rs := rs) (by omega) (by omega)
  have pe := pr_end (most := most) (rs := rs) (by omega) (by omega)
  obtain ⟨t, ht⟩ : ∃ t, prText most rs = t := ⟨_, rfl⟩
  rw [ht] at hb2 hc2 htl htc hsm p1 p2 pe
  have HB2 := Lib.hid hb2
  have P1 := Lib.hid p1
  have P2 := Lib.hid p2
  have PE := Lib.hid pe
  have HT := Lib.hid ht
  rw [ht]
  have hne : t ≠ [] := fun e => by rw [e] at pe; simp [endOf] at pe
  obtain ⟨tb, tof, rfl, -, ltb⟩ := bytes_addr hb2 hne
  clear hb2 hc2 p1 p2 pe ht
  have c0 : w2.cell? ⟨w1.heap.size, 0, none⟩ = some (.int .i64 most) := HBP.out.cell 0
  have c1 : w2.cell? ⟨w1.heap.size, 1, none⟩ = some (.slice (some ⟨rb, ro, none⟩) rs.length rc) := HBP.out.cell 1
  have lP := HBP.out.lt
  go_upto_region 4 with fail
  have bN := Blk.new w2 #[.int .i64 most, .slice (some ⟨rb, ro, none⟩) rs.length rc] 27
  have hx3 : Ext w2 (w2.alloc (.cells #[.int .i64 most, .slice (some ⟨rb, ro, none⟩) rs.length rc] 27)) := (Ext.refl w2).alloc _
  generalize w2.alloc (.cells #[.int .i64 most, .slice (some ⟨rb, ro, none⟩) rs.length rc] 27) = w3 at *
  have c2 : w3.cell? ⟨w2.heap.size, 1, none⟩ = some (.slice (some ⟨rb, ro, none⟩) rs.length rc) := bN.cell 1
  have c3 : w3.cell? ⟨w1.heap.size, 1, none⟩ = some (.slice (some ⟨rb, ro, none⟩) rs.length rc) := hx3.keep c1
  have f2 : w3.frozen? ⟨w2.heap.size, 1, none⟩ = false := bN.free 1
  have HBN := Lib.hid bN
  have HX3 := Lib.hid hx3
  clear bN hx3 c0 c1
  have HTA : Hid (∀ V, Ext w2 V → RulesAt V (.slice (some ⟨rb, ro + 4, none⟩) (rs.length - 1) (rc - 1)) rs.tail) := Lib.hid (fun V e => by
    have h := HAT2.out.ext Rl.size4 e
    have q := HT0.out
    generalize rs = rs' at *
    subst q
    exact rules_tail h)
  have HTB : Hid (∀ V, rs.length ≤ 1 → RulesAt V (.slice (some ⟨rb, ro, none⟩) (rs.length - 1) 0) rs.tail) := Lib.hid (fun V e => by
    have q := HT0.out
    generalize rs = rs' at *
    subst q
    have : t0 = [] := List.length_eq_zero_iff.1 (by simp at e; simpa using e)
    subst this
    exact rules_none _ _ _)
  go_cut [31] from 20 to 32 (fun x31 wx => ∃ nv, Blk wx w2.heap.size #[.int .i64 most, nv] 27 ∧ RulesAt wx nv rs.tail ∧ Ext w2 wx)
  case first =>
    go_wp2_with fail
    · go_meet
      exact ⟨_, HBN.out.set 1 _, HTB.out _ (by omega), HX3.out.setCell (Nat.le_refl _) _⟩
    · go_meet
      exact ⟨_, HBN.out.set 1 _, HTA.out _ (HX3.out.setCell (Nat.le_refl _) _), HX3.out.setCell (Nat.le_refl _) _⟩
  case rest =>
  obtain ⟨nv, hbn, hrn, hx4⟩ := hcut
  have HBN4 := Lib.hid hbn
  have HRN := Lib.hid hrn
  have HX4 := Lib.hid hx4
  have HB4 := Lib.hid (HB2.out.ext hx4)
  clear hbn hrn hx4 HBN HX3 HTA HTB c2 c3 f2
  go_wp2_with fail
  go_loopw [9, 10] (fun e i wr => ∃ (k : Nat), k ≤ t.length ∧ i = .int .i64 k ∧ e = .int .i64 (endOf (t.take k)) ∧ Ext wc wr) (fun _ i _ => t.length - (intOf i).toNat)
  case atStart => exact ⟨0, by omega, rfl, rfl, Ext.refl _⟩
  case round =>
    obtain ⟨k, hk, rfl, rfl, hx⟩ := hrel
    have HX := Lib.hid hx
    by_cases hlt : k < t.length
    · have hcell : wr.cell? ⟨tb, tof + k, none⟩ = some (.int .u8 (t[k].toNat : Int)) := (bytes_form (HB4.out.ext hx)).2 k hlt
      have hst := end_step t k hlt
      have hle := endOf_le (t.take k)
      rw [List.length_take, Nat.min_eq_left (by omega)] at hle
      have HST := Lib.hid hst
      clear hst hx
      generalize (t[k].toNat : Int) = y at *
      generalize hE : endOf (t.take k) = E at *
      have HE := Lib.hid hE
      clear hE
      by_cases hy : y = 10
      · by_cases h0 : E = 0
        · subst hy h0
          have he : endOf (t.take (k + 1)) = k + 1 := by have := HST.out; simpa using this
          go_wp2_with fail
          go_roundw
          case rel => exact ⟨k + 1, by omega, by go_num, by rw [he]; go_num, HX.out⟩
          case measure => simp [intOf]; omega
        · subst hy
          have he : endOf (t.take (k + 1)) = E := by have := HST.out; rwa [if_neg h0] at this
          have hb : ((E : Int) == 0) = false := by simpa using h0
          go_wp2_with fail
          go_roundw
          case rel => exact ⟨k + 1, by omega, by go_num, by rw [he], HX.out⟩
          case measure => simp [intOf]; omega
      · have he : endOf (t.take (k + 1)) = E := by
          have := HST.out
          rw [if_neg hy] at this
          split at this <;> omega
        have hb : (y == 10) = false := by simpa using hy
        go_wp2_with fail
        go_roundw
        case rel => exact ⟨k + 1, by omega, by go_num, by rw [he], HX.out⟩
        case measure => simp [intOf]; omega
    · have hkl : k = t.length := by omega
      subst hkl
      rw [List.take_of_length_le (Nat.le_refl _)] at *
      have hle := endOf_le t
      have hpos : 0 < endOf t := by rw [PE.out]; omega
      have hlt2 : endOf t < t.length := by
        rcases Nat.lt_or_ge (endOf t) t.length with q | q
        · exact q
        · exfalso
          have := P2.out
          rw [List.drop_eq_nil_of_le q] at this
          obtain ⟨r, rt, hr, -⟩ := first_dft (ordL_up rs) HP.out.ord.dft
          rw [hr] at this
          simp [joinText] at this
      have HDR := Lib.hid ((HB4.out.ext hx).drop (c' := tc - endOf t) (k := endOf t) rfl)
      have HTK := Lib.hid ((HB4.out.ext hx).take (c' := tc) (k := endOf t) hle)
      rw [P2.out] at HDR
      rw [P1.out] at HTK
      have L1 := Lib.hid (lacks_size HP.out.ord)
      have L2 := Lib.hid (lacks_dft hm0 (by omega : most ≤ 1000000))
      generalize endOf t = E at *
      clear hx
      have HXR := Lib.hid (HX4.out.trans HX.out)
      have HNW := Lib.hid (HBN4.out.ext HX.out)
      have HRW := Lib.hid (HRN.out.ext Rl.size4 HX.out)
      have g1 : ¬ tc = E := by omega
      have g2 : (0 : Int) < E := by omega
      clear HX HX4 HBN4 HRN HB4 HB2
      have HC1 := Lib.hid (fun V (e : Ext wr V) => config_Parse _ _ V (HDR.out.ext e) (cap_le (by omega)))
      have HC2 := Lib.hid (fun V (e : Ext wr V) => config_Parse _ _ V (HTK.out.ext e) (cap_le (by omega)))
      have HC3 := Lib.hid (fun V => config_Parse _ _ V (ByteSlice.nil V) (cap_le (Nat.le_refl 0)))
      clear HDR HTK
      go_wp2_with fail
      refine (HC1.out _ (Ext.refl _)).mono ?_
      intro x w5 h5
      obtain ⟨v5, rfl, ho5, hx5⟩ := h5.open L1.out
      obtain ⟨a5, c5, rfl⟩ := (RuleOwn.at ho5).size
      have HX5 := Lib.hid hx5
      clear h5 ho5 hx5
      go_wp2_with fail
      have bA := Blk.new' (w5.alloc (.cells #[.int .i64 0, .slice a5 0 c5] 27)) #[.int .i64 0, .int .i64 0] 37 (b := w5.heap.size + 1) (by simp)
      have hxa : Ext w5 ((w5.alloc (.cells #[.int .i64 0, .slice a5 0 c5] 27)).alloc (.cells #[.int .i64 0, .int .i64 0] 37)) := ((Ext.refl w5).alloc _).alloc _
      generalize (w5.alloc (.cells #[.int .i64 0, .slice a5 0 c5] 27)).alloc (.cells #[.int .i64 0, .int .i64 0] 37) = wa5 at *
      have HX5a := Lib.hid (HX5.out.trans hxa)
      have HBA := Lib.hid bA
      clear hxa bA
      refine (HC2.out _ HX5a.out).mono ?_
      intro x w6 h6
      obtain ⟨v6, rfl, ho6, hx6⟩ := h6.open L2.out
      obtain ⟨a6, c6, rfl⟩ := (RuleOwn.at ho6).size
      have HX6 := Lib.hid (HX5a.out.trans hx6)
      have HBA6 := Lib.hid (HBA.out.ext hx6)
      clear h6 ho6 hx6 HBA
      go_wp2_with fail
      have bB := Blk.new' (w6.alloc (.cells #[.int .i64 0, .slice a6 0 c6] 27)) #[.int .i64 0, .int .i64 0] 37 (b := w6.heap.size + 1) (by simp)
      have hxb : Ext w6 ((w6.alloc (.cells #[.int .i64 0, .slice a6 0 c6] 27)).alloc (.cells #[.int .i64 0, .int .i64 0] 37)) := ((Ext.refl w6).alloc _).alloc _
      generalize (w6.alloc (.cells #[.int .i64 0, .slice a6 0 c6] 27)).alloc (.cells #[.int .i64 0, .int .i64 0] 37) = wb6 at *
      refine (HC3.out _).mono ?_
      intro x w7 h7
      obtain ⟨v7, rfl, ho7, hx7⟩ := h7.open lacks_all
      obtain ⟨a7, c7, rfl⟩ := (RuleOwn.at ho7).size
      have HX7 := Lib.hid (HX6.out.trans (hxb.trans hx7))
      have HBA7 := Lib.hid (HBA6.out.ext (hxb.trans hx7))
      have HBB7 := Lib.hid (bB.ext hx7)
      clear h7 ho7 hx7 HBA6 bB hxb
      go_wp2_with fail
      have hxc : Ext w7 ((w7.alloc (.cells #[.int .i64 0, .slice a7 0 c7] 27)).alloc (.cells #[.int .i64 0, .int .i64 0] 37)) := ((Ext.refl w7).alloc _).alloc _
      generalize (w7.alloc (.cells #[.int .i64 0, .slice a7 0 c7] 27)).alloc (.cells #[.int .i64 0, .int .i64 0] 37) = wc7 at *
      refine (law12_known wc7).mono ?_
      rintro x w8 ⟨rfl, hx8⟩
      have h78 : Ext w7 w8 := hxc.trans hx8
      have HX8 := Lib.hid (HX7.out.trans h78)
      have HBA8 := Lib.hid (HBA7.out.ext h78)
      have HBB8 := Lib.hid (HBB7.out.ext h78)
      have HN8 := Lib.hid (HNW.out.ext (HX7.out.trans h78))
      have HR8 := Lib.hid (HRW.out.ext Rl.size4 (HX7.out.trans h78))
      clear hxc hx8 h78 HBA7 HBB7 HNW HRW HX7 HX6 HX5a HX5
      obtain ⟨na, nc, rfl⟩ := HR8.out.size
      have c0 : w8.cell? ⟨w5.heap.size + 1, 0, none⟩ = some (.int .i64 0) := HBA8.out.cell 0
      have c1 : w8.cell? ⟨w5.heap.size + 1, 1, none⟩ = some (.int .i64 0) := HBA8.out.cell 1
      have c2 : w8.cell? ⟨w6.heap.size + 1, 0, none⟩ = some (.int .i64 0) := HBB8.out.cell 0
      have c3 : w8.cell? ⟨w6.heap.size + 1, 1, none⟩ = some (.int .i64 0) := HBB8.out.cell 1
      have c4 : w8.cell? ⟨w2.heap.size, 0, none⟩ = some (.int .i64 most) := HN8.out.cell 0
      have c5 : w8.cell? ⟨w2.heap.size, 1, none⟩ = some (.slice na rs.tail.length nc) := HN8.out.cell 1
      have HER : Hid (cfgErr most rs.tail = 31) := Lib.hid (by
        have q := HT0.out
        have hp := HP.out
        rw [q] at hp ⊢
        have hn := List.nodup_cons.1 hp.nd
        exact cfg_no_dft hp.m0 hp.m1 (fun r hr => hp.err r (List.mem_cons_of_mem _ hr)) (by have := hp.len; simp at this ⊢; omega) hn.1)
      have HRI := Lib.hid (config_Right most (.slice na rs.tail.length nc) rs.tail w8 (by omega) (by omega) HR8.out (fun r hr => HP.out.ok r (List.mem_of_mem_tail hr)) (by rw [List.length_tail]; omega))
      rw [HER.out] at HRI
      generalize rs.tail = rt at *
      go_wp2_with (first
        | (go_at_call 15; refine HRI.out.mono ?_; rintro x w9 ⟨rfl, hx9⟩)
        | fail)
      go_ret
      exact ⟨rfl, HX2.out.trans (HXR.out.trans (HX8.out.trans hx9))⟩
end Go.Proofs.Ytknlojlcahgnoaa

/- Walk: tollerlaw12.ConfigTwice. -/
namespace Go.Proofs.Ytknlojlcahgnoaa
open Go.RowKit
set_option linter.unusedVariables false
set_option linter.unusedSimpArgs false

theorem bytes_sl_info : (Try.prog.info? 24).map (fun i => (i.zero, i.size, i.bytes)) = some (some (.slice none 0 0), 1, 24) := by kernel_rfl
theorem byte_info : (Try.prog.info? 5).map (fun i => (i.zero, i.size, i.bytes)) = some (some (.int .u8 0), 1, 1) := by kernel_rfl
def byteV (l : List UInt8) : List Value := l.map fun b => .int .u8 (b.toNat : Int)
theorem own_bytes {w : World} {base : Nat} {v : Value} {l : List UInt8} {n : Nat} (h : w.ownsRow base 5 1 v n (byteV l)) (hn : n = l.length) : ByteSlice w v l ∧ CapLe v := by
  subst hn
  obtain ⟨-, ⟨rfl, q⟩ | ⟨g, cap, cur, rfl, q2, q3, q4, q5, q6, q7⟩⟩ := h
  · have : l = [] := List.length_eq_zero_iff.1 q
    subst this
    exact ⟨ByteSlice.nil w, cap_le (Nat.le_refl 0)⟩
  · refine ⟨⟨⟨_, _, rfl, fun _ => ⟨g, 0, rfl, fun j hj => ?_⟩⟩, by omega⟩, cap_le q4⟩
    have : cur.toList[j]? = some (.int .u8 (l[j].toNat : Int)) := by
      have h2 : (cur.toList.take (l.length * 1))[j]? = (byteV l)[j]? := by rw [q7]
      rw [List.getElem?_take_of_lt (by omega)] at h2
      rw [h2]
      simp [byteV, hj]
    rw [Nat.zero_add, Blk.cell (show Blk w g cur 5 from q3)]
    simpa using this
theorem news_bytes {w : World} {b o n c : Nat} {l : List UInt8} (h : ByteSlice w (.slice (some ⟨b, o, none⟩) n c) l) : ∀ j u, (byteV l)[j]? = some u → w.cell? ((⟨b, o, none⟩ : Addr).add j) = some u := by
  intro j u hu
  obtain ⟨q1, q2⟩ := bytes_form h
  unfold byteV at hu
  rw [List.getElem?_map] at hu
  rcases Nat.lt_or_ge j l.length with hj | hj
  · rw [List.getElem?_eq_getElem hj] at hu
    simp at hu
    rw [addr_add, q2 j hj, hu]
  · rw [List.getElem?_eq_none hj] at hu
    cases hu
theorem one_bytes (l : List UInt8) : ∀ u ∈ byteV l, u.oneCell' = true := by
  intro u hu
  obtain ⟨b, -, rfl⟩ := List.mem_map.1 hu
  rfl
theorem rows_step (t : List UInt8) (k : Nat) (hk : k < t.length) : rowsTo (t.take (k + 1)) = if (t[k].toNat : Int) = 10 then ((rowsTo (t.take k)).1 ++ [(rowsTo (t.take k)).2 ++ [t[k]]], []) else ((rowsTo (t.take k)).1, (rowsTo (t.take k)).2 ++ [t[k]]) := by
  rw [List.take_succ_eq_append_getElem hk, rowsTo_snoc]
  unfold rowStep
  have : (t[k] = 10) ↔ ((t[k].toNat : Int) = 10) := by
    constructor
    · intro e; rw [e]; rfl
    · intro e; exact UInt8.toNat_inj.1 (by show t[k].toNat = 10; omega)
  simp only [this]
theorem pr_line_len {most : Int} {rs : List Rl} (h : PolOk most rs) : ∀ l ∈ prLines most rs, (joinL l).length ≤ 300 := by
  intro l hl
  have m0 := h.m0
  have m1 := h.m1
  rcases List.mem_cons.1 hl with rfl | hl
  · have hd := (dig_back most (by omega) (by omega)).2.2.1
    have h1 := joinL_len [wSize, digStr most]
    have d1 : wSize.size = 4 := by decide
    simp only [List.map_cons, List.map_nil, List.sum_cons, List.sum_nil, List.length_cons, List.length_nil] at h1
    omega
  · obtain ⟨r, hr, rfl⟩ := List.mem_map.1 hl
    exact (plW_len (h.ord.ok r hr) (h.ord.err r hr)).2
/-- rows of a text that are known -/
def RowsAt (w wr : World) (v : Value) (l : List (List UInt8)) : Prop :=
  ∃ vs, wr.ownsRow w.heap.size 24 1 v l.length vs ∧ vs.length = l.length ∧ ∀ j (h : j < vs.length) (h2 : j < l.length), ByteSlice w vs[j] l[j] ∧ ∃ b o n c, vs[j] = .slice (some ⟨b, o, none⟩) n c
theorem RowsAt.step {w wr : World} {v' x : Value} {l : List (List UInt8)} {r : List UInt8} {vs : List Value} (ho : wr.ownsRow w.heap.size 24 1 v' (l.length + 1) (vs ++ [x])) (hv : vs.length = l.length) (hs : ∀ j (h : j < vs.length) (h2 : j < l.length), ByteSlice w vs[j] l[j] ∧ ∃ b o n c, vs[j] = .slice (some ⟨b, o, none⟩) n c) (hx : ByteSlice w x r ∧ ∃ b o n c, x = .slice (some ⟨b, o, none⟩) n c) : RowsAt w wr v' (l ++ [r]) := by
  refine ⟨vs ++ [x], by rw [List.length_append]; exact ho, by simp [hv], fun j h1 h2 => ?_⟩
  by_cases q : j < vs.length
  · rw [List.getElem_append_left q, List.getElem_append_left (by omega)]
    exact hs j q (by omega)
  · have hj : j = vs.length := by simp at h1; omega
    subst hj
    rw [List.getElem_append_right (Nat.le_refl _), List.getElem_append_right (by omega)]
    simpa [hv] using hx
set_option maxHeartbeats 4000000 in
set_option maxRecDepth 100000 in
theorem law12_ConfigTwice (n : Int) (v : Value) (l : List Nms) (at_ : Int) (w : World) (hn0 : 0 ≤ n) (hn1 : n < 65536) (hv : NmsSlice w v l) (ha0 : 0 ≤ at_) (ha1 : at_ < 256) :
    Calls Try.prog 5 #[.int .u16 n, v, .int .u8 at_] w fun x w' => x = .returned (.bool true) ∧ Ext w w' := by
  have hall := hv
  obtain ⟨⟨va, vc, rfl, -⟩, -, heach⟩ := hv
  obtain ⟨hP, hlen, t0, ht0⟩ := polRs_ok hn0 l heach
  have HP := Lib.hid hP
  have HLEN := Lib.hid hlen
  have HPO := Lib.hid (law12_Policy n _ l w hn0 hn1 hall)
  obtain ⟨rs, hrs⟩ : ∃ rs, polRs n l = rs := ⟨_, rfl⟩
  rw [hrs] at HP HLEN HPO ht0
  obtain ⟨most, hmost⟩ : ∃ most, 1 + n % 50 = most := ⟨_, rfl⟩
  rw [hmost] at HP HPO
  have hm0 : 1 ≤ most := by omega
  have hm1 : most ≤ 50 := by omega
  have hl1 : 1 ≤ rs.length := by rw [ht0]; simp
  clear hP hlen heach hall ht0
  go_enter Try.func5, Try.ntmps5
  go_wp2_with fail
  refine HPO.out.mono ?_
  rintro x w1 ⟨rv, rfl, hrow, hx1⟩
  have hat : RulesAt w1 rv rs := RuleRow.at hrow
  obtain ⟨ra, rc, rfl⟩ := hat.size
  have HAT := Lib.hid hat
  have HX1 := Lib.hid hx1
  clear hat hrow hx1
  go_wp2_with fail
  have hxa : Ext w1 (w1.alloc (.cells #[.int .i64 most, .slice ra rs.length rc] 27)) := (Ext.refl w1).alloc _
  generalize w1.alloc (.cells #[.int .i64 most, .slice ra rs.length rc] 27) = wa at *
  have hlen := HLEN.out
  refine (config_Print_ok most _ rs wa (by omega) (by omega) (HAT.out.ext Rl.size4 hxa) HP.out.ok (by omega) HP.out.cfg).mono ?_
  rintro x w2 ⟨tv, rfl, hb2, hc2, hx2⟩
  have HX2 := Lib.hid (HX1.out.trans (hxa.trans hx2))
  clear HAT HX1 hxa hx2
  have ht := hb2
  obtain ⟨⟨ta, tc, rfl, -⟩, htl⟩ := ht
  have htc : (prText most rs).length ≤ tc := hc2 _ _ _ rfl
  have hsm : (prText most rs).length ≤ 1048576 := by
    have := lines_small most (by omega) (by omega) _ HP.out.ord.ok HP.out.ord.err
    have h2 := HP.out.ord.len
    show (joinText _).length ≤ _
    unfold prLines
    omega
  have pe := pr_end (most := most) (rs := rs) (by omega) (by omega)
  have pr := rows_pr HP.out
  have hll : (prLines most rs).length = rs.length + 1 := by rw [prLines_eq, List.length_cons, List.length_map, ordL_len]
  have HTW := Lib.hid (fun i hi => twice HP.out i hi)
  obtain ⟨t, ht⟩ : ∃ t, prText most rs = t := ⟨_, rfl⟩
  rw [ht] at hb2 hc2 htl htc hsm pe pr HTW
  have hne : t ≠ [] := fun e => by rw [e] at pe; simp [endOf] at pe
  rw [ht]
  obtain ⟨tb, tof, rfl, -, ltb⟩ := bytes_addr hb2 hne
  have HB2 := Lib.hid hb2
  have PR := Lib.hid pr
  obtain ⟨i0, hi, hz0, hz1, hz2⟩ := info_parts bytes_sl_info
  have HI := Lib.hid (And.intro hi (And.intro hz0 (And.intro hz1 hz2)))
  obtain ⟨i1, hi, hz0, hz1, hz2⟩ := info_parts byte_info
  have HI1 := Lib.hid (And.intro hi (And.intro hz0 (And.intro hz1 hz2)))
  clear hb2 hc2 pe pr hi hz0 hz1 hz2
  go_wp2_with fail
  go_loopw [10, 11, 12] (fun rv fr i wr => ∃ (k : Nat), k ≤ t.length ∧ i = .int .i64 k ∧ fr = .int .i64 ((k - (rowsTo (t.take k)).2.length : Nat) : Int) ∧ RowsAt w2 wr rv (rowsTo (t.take k)).1 ∧ Ext w2 wr) (fun _ _ i _ => t.length - (intOf i).toNat)
  case atStart => exact ⟨0, by omega, rfl, rfl, ⟨[], World.ownsRow_nil _ _ _ _, rfl, fun j h => absurd h (by simp)⟩, Ext.refl _⟩
  case round =>
    obtain ⟨k, hk, rfl, rfl, hrow, hx⟩ := hrel
    have HX := Lib.hid hx
    by_cases hlt : k < t.length
    · have hcell : wr.cell? ⟨tb, tof + k, none⟩ = some (.int .u8 (t[k].toNat : Int)) := (bytes_form (HB2.out.ext hx)).2 k hlt
      have hst := rows_step t k hlt
      have hwin := row_win t k hlt
      obtain ⟨hl1', hl2'⟩ := rowsTo_len (t.take k)
      rw [List.length_take, Nat.min_eq_left (by omega)] at hl1' hl2'
      generalize (rowsTo (t.take k)).1 = R at *
      generalize (rowsTo (t.take k)).2 = c at *
      obtain ⟨F, hF⟩ : ∃ F, k - c.length = F := ⟨_, rfl⟩
      rw [hF] at hwin ⊢
      have hFk : F + c.length = k := by omega
      have hwn : ByteSlice w2 (.slice (some ⟨tb, tof + F, none⟩) (c.length + 1) (tc - F)) (c ++ [t[k]]) := by
        have h := (HB2.out.drop (c' := tc - F) (k := F) rfl).take (c' := tc - F) (k := c.length + 1) (by rw [List.length_drop]; omega)
        rw [hwin] at h
        exact h
      have HWN := Lib.hid hwn
      have HST := Lib.hid hst
      generalize t[k] = b at *
      clear hst hwin hwn hx
      obtain ⟨vs, o1, o2, o3⟩ := hrow
      have O1 := Lib.hid o1
      have O2 := Lib.hid o2
      have O3 := Lib.hid o3
      have hsz := HX.out.sz
      clear o1 o2 o3
      by_cases hy : (b.toNat : Int) = 10
      · have he := HST.out
        rw [if_pos hy] at he
        have HE := Lib.hid he
        clear he HST
        have g1 : ¬ tc = F := by omega
        have g2 : (F : Int) ≤ (k : Int) + 1 := by omega
        have g3 : (k : Int) + 1 ≤ tc := by omega
        rw [hy] at hcell
        have hkf : k + 1 - F = c.length + 1 := by omega
        go_wp2_with (first
          | (at_builtin; refine wpList_append_own _ rfl (.tmp 40) (.tmp 46) 49 rfl w2.heap.size 24 i0 (.slice none 0 0) 1 24 Try.underlying49 HI.out.1 HI.out.2.1 HI.out.2.2.1 HI.out.2.2.2 rfl (by decide) _ _ _ rfl (O1.out.alloc _) ⟨wr.heap.size, 0, none⟩ 1 1 [_] rfl rfl (blk_news (C := #[_]) (Blk.new _ _ _)) (by simp [Value.oneCell']) (by unfold maxLen; omega) (by omega) (by simp; omega) ?_; rintro v' w6 hown hgrow -)
          | fail)
        have hx6 : Ext w2 w6 := Ext.grownAt (HX.out.alloc _) (O1.out.alloc _) (Nat.le_refl _) hgrow
        clear hgrow
        go_wp2
        go_roundw
        case rel =>
          refine ⟨k + 1, by omega, by go_num, by rw [HE.out]; go_num, ?_, hx6⟩
          rw [HE.out]
          exact RowsAt.step hown O2.out O3.out ⟨HWN.out, _, _, _, _, rfl⟩
        case measure => simp [intOf]; omega
      · have he := HST.out
        rw [if_neg hy] at he
        have hb : ((b.toNat : Int) == 10) = false := by simpa using hy
        go_wp2_with fail
        go_roundw
        case rel => exact ⟨k + 1, by omega, by go_num, by rw [he]; simp; omega, by rw [he]; exact ⟨vs, O1.out, O2.out, O3.out⟩, HX.out⟩
        case measure => simp [intOf]; omega
    · have hkl : k = t.length := by omega
      subst hkl
      rw [List.take_of_length_le (Nat.le_refl _), PR.out] at *
      obtain ⟨vs, o1, o2, o3⟩ := hrow
      simp only [List.length_map] at o1 o2 o3
      rw [hll] at o1 o2
      obtain ⟨L, hL⟩ : ∃ L, rs.length + 1 = L := ⟨_, rfl⟩
      rw [hL] at o1 o2
      have hLs : vs.length = L := o2
      have hL2 : 2 ≤ L ∧ L ≤ 14 := by omega
      obtain ⟨i, hi⟩ : ∃ i : Nat, at_ % (L : Int) = i := ⟨(at_ % (L : Int)).toNat, by rw [Int.toNat_of_nonneg (Int.emod_nonneg _ (by omega))]⟩
      have hil : i < L := by have := Int.emod_lt_of_pos at_ (show (0 : Int) < L by omega); omega
      have hip : i < (prLines most rs).length := by rw [hll]; omega
      obtain ⟨hrow, rb, ro, rn, rcap, hvi⟩ := o3 i (by omega) (by rw [hll]; omega)
      rw [List.getElem_map] at hrow
      have HPI := Lib.hid (HTW.out i hip)
      have HROWL : Hid ((joinL (prLines most rs)[i] ++ [10]).length ≤ 1000) := Lib.hid (by
        have := pr_line_len HP.out _ (List.getElem_mem hip)
        rw [List.length_append]
        simp
        omega)
      generalize joinL (prLines most rs)[i] ++ [10] = row at *
      have O1 := Lib.hid o1
      rw [hvi] at hrow
      have HROW := Lib.hid hrow
      clear o3 hrow HTW PR
      obtain ⟨gb, g0, hgv, hgc⟩ : ∃ gb gc, u10 = .slice (some ⟨gb, 0, none⟩) L gc ∧ wr.cell? ⟨gb, i, none⟩ = some (.slice (some ⟨rb, ro, none⟩) rn rcap) := by
        obtain ⟨-, ⟨q, q0⟩ | ⟨g, cap, cur, q1, q2, q3, q4, q5, q6, q7⟩⟩ := o1
        · omega
        · refine ⟨g, cap, q1, ?_⟩
          rw [Blk.cell (show Blk wr g cur 24 from q3)]
          have : cur.toList[i]? = some vs[i] := by rw [← List.getElem?_eq_getElem (show i < vs.length by omega), ← q7, List.getElem?_take_of_lt (by omega)]
          rw [hvi] at this
          simpa using this
      subst hgv
      obtain ⟨hrn, -⟩ := bytes_form HROW.out
      subst hrn
      have hrowl : row.length ≤ 1000 := by
        have := HROWL.out
        omega
      have g1 : ((L : Int) == 0) = false := by simp; omega
      have g2 : (L : Int) ≠ 0 := by omega
      have g3 : (i : Int) < L := by omega
      have HB4 := Lib.hid (HB2.out.ext hx)
      have HXW := Lib.hid hx
      have hszw := hx.sz
      clear hx
      go_wp2_with (first
        | (at_builtin; refine wpList_append_own _ rfl (.tmp 58) (.tmp 59) 24 rfl w2.heap.size 5 i1 (.int .u8 0) 1 1 Try.underlying24 HI1.out.1 HI1.out.2.1 HI1.out.2.2.1 HI1.out.2.2.2 rfl (by decide) (.slice none 0 0) 0 [] rfl (World.ownsRow_nil _ _ _ _) ⟨tb, tof, none⟩ t.length tc (byteV t) rfl (by simp [byteV]) (news_bytes HB4.out) (one_bytes t) (by unfold maxLen; omega) (by omega) (by omega) ?_; rintro sv w5 hown hgrow -; have hx5 : Ext wr w5 := Ext.grownAt (Ext.refl wr) (World.ownsRow_nil wr wr.heap.size 5 1) (Nat.le_refl _) hgrow; have hgc5 := hx5.keep hgc; have OS := Lib.hid hown; have HX5 := Lib.hid hx5; have hsz5 := hx5.sz; clear hown hgrow hx5 hgc)
        | (at_builtin; refine wpList_append_own _ rfl (.tmp 61) (.tmp 65) 24 rfl w2.heap.size 5 i1 (.int .u8 0) 1 1 Try.underlying24 HI1.out.1 HI1.out.2.1 HI1.out.2.2.1 HI1.out.2.2.2 rfl (by decide) _ _ _ rfl OS.out ⟨rb, ro, none⟩ row.length rcap (byteV row) rfl (by simp [byteV]) (news_bytes (HROW.out.ext (HXW.out.trans HX5.out))) (one_bytes row) (by unfold maxLen; omega) (by omega) (by omega) ?_; rintro sv2 w6 hown hgrow -; have hx6 : Ext w2 w6 := Ext.grownAt (HXW.out.trans HX5.out) OS.out (Nat.le_refl _) hgrow; have OS2 := Lib.hid hown; have HX6 := Lib.hid hx6; clear hown hgrow hx6)
        | fail)
      obtain ⟨hbs, hcl⟩ := own_bytes (l := t ++ row) (by have := OS2.out; simpa [byteV] using this) (by simp)
      refine (config_Parse _ _ _ hbs hcl).mono ?_
      intro x w7 h7
      obtain ⟨v7, rfl, ho7, hx7⟩ := h7.open HPI.out
      obtain ⟨a7, c7, rfl⟩ := (RuleOwn.at ho7).size
      have HX7 := Lib.hid (HX6.out.trans hx7)
      clear h7 ho7 hx7 hbs hcl
      rw [hll, hL]
      have hK := fun W => law12_known W
      by_cases h1i : 1 < i
      · have h1j : (1 : Int) < i := by omega
        simp only [if_pos h1i]
        go_wp2_with (first
          | (go_at_call 11; refine (hK _).mono ?_; rintro x w8 ⟨rfl, hx8⟩; have bA := (Blk.new' (w7.alloc (.cells #[.int .i64 0, .slice a7 0 c7] 27)) #[.int .i64 ((L : Int) + 1), .int .i64 6] 37 (b := w7.heap.size + 1) (by simp)).ext hx8; have d0 : w8.cell? ⟨w7.heap.size + 1, 0, none⟩ = some (.int .i64 ((L : Int) + 1)) := bA.cell 0; have d1 : w8.cell? ⟨w7.heap.size + 1, 1, none⟩ = some (.int .i64 6) := bA.cell 1; have HX8 := Lib.hid (HX7.out.trans ((((Ext.refl w7).alloc _).alloc _).trans hx8)); clear bA hx8)
          | fail)
        go_ret
        exact ⟨by simp, HX2.out.trans HX8.out⟩
      · have h1j : ¬ (1 : Int) < i := by omega
        simp only [if_neg h1i]
        go_wp2_with (first
          | (go_at_call 11; refine (hK _).mono ?_; rintro x w8 ⟨rfl, hx8⟩; have bA := (Blk.new' (w7.alloc (.cells #[.int .i64 0, .slice a7 0 c7] 27)) #[.int .i64 ((L : Int) + 1), .int .i64 1] 37 (b := w7.heap.size + 1) (by simp)).ext hx8; have d0 : w8.cell? ⟨w7.heap.size + 1, 0, none⟩ = some (.int .i64 ((L : Int) + 1)) := bA.cell 0; have d1 : w8.cell? ⟨w7.heap.size + 1, 1, none⟩ = some (.int .i64 1) := bA.cell 1; have HX8 := Lib.hid (HX7.out.trans ((((Ext.refl w7).alloc _).alloc _).trans hx8)); clear bA hx8)
          | fail)
        go_ret
        exact ⟨by simp, HX2.out.trans HX8.out⟩
end Go.Proofs.Ytknlojlcahgnoaa
