/- Walk: tollerlaw12.ConfigLacks. Walk: tollerlaw12.ConfigTwice. Walk: tollerlaw12.ConfigMost. Walk: tollerlaw12.ConfigBlanks. -/
import Derived.Test.YtknlojlcahgnoaaG53

/- Walk: tollerlaw12.ConfigLacks. -/
namespace Go.Proofs.Ytknlojlcahgnoaa
open Go.RowKit
set_option linter.unusedVariables false
set_option linter.unusedSimpArgs false

theorem rules_tail {w : World} {b o c c' : Nat} {r : Rl} {t : List Rl} (h : RulesAt w (.slice (some ⟨b, o, none⟩) (t.length + 1) c) (r :: t)) : RulesAt w (.slice (some ⟨b, o + 4, none⟩) t.length c') t := by
  refine ⟨_, _, rfl, fun hne => ⟨b, o + 4, rfl, fun j hj i hi => ?_⟩⟩
  obtain ⟨b', o', e, -, hc⟩ := h.cells Rl.size4 (by decide) (j + 1) (by simp; omega)
  simp only [Option.some.injEq, Addr.mk.injEq, and_true] at e
  obtain ⟨rfl, rfl⟩ := e
  have := hc i hi
  rw [List.getElem_cons_succ] at this
  rw [← this]
  congr 2
  omega
theorem end_step (t : List UInt8) (k : Nat) (hk : k < t.length) : endOf (t.take (k + 1)) = if endOf (t.take k) = 0 then (if (t[k].toNat : Int) = 10 then k + 1 else 0) else endOf (t.take k) := by
  rw [List.take_succ_eq_append_getElem hk, endOf_snoc, List.length_take, Nat.min_eq_left (by omega)]
  have : (t[k] = 10) ↔ ((t[k].toNat : Int) = 10) := by
    constructor
    · intro e; rw [e]; rfl
    · intro e; exact UInt8.toNat_inj.1 (by show t[k].toNat = 10; omega)
  simp only [this]
theorem endOf_le : ∀ l : List UInt8, endOf l ≤ l.length
  | [] => Nat.le_refl _
  | b :: r => by
    have := endOf_le r
    unfold endOf
    split
    · simp
    · split
      · omega
      · simp; omega
theorem bytes_form {w : World} {b o n c : Nat} {l : List UInt8} (h : ByteSlice w (.slice (some ⟨b, o, none⟩) n c) l) : n = l.length ∧ ∀ j (h : j < l.length), w.cell? ⟨b, o + j, none⟩ = some (.int .u8 (l[j].toNat : Int)) := by
  obtain ⟨a, c', e, hl⟩ := h.form
  simp only [Value.slice.injEq] at e
  obtain ⟨e1, e2, -⟩ := e
  refine ⟨e2, fun j hj => ?_⟩
  obtain ⟨b', o', ha, hc⟩ := hl (by intro q; rw [q] at hj; simp at hj)
  rw [ha] at e1
  simp only [Option.some.injEq, Addr.mk.injEq, and_true] at e1
  obtain ⟨rfl, rfl⟩ := e1
  exact hc j hj
theorem ByteSlice.drop {w : World} {b o n c c' n' k : Nat} {l : List UInt8} (h : ByteSlice w (.slice (some ⟨b, o, none⟩) n c) l) (hn : n' = n - k) : ByteSlice w (.slice (some ⟨b, o + k, none⟩) n' c') (l.drop k) := by
  obtain ⟨q1, q2⟩ := bytes_form h
  refine ⟨⟨_, _, by rw [List.length_drop, ← q1, hn], fun _ => ⟨b, o + k, rfl, fun j hj => ?_⟩⟩, by rw [List.length_drop]; have := h.len; omega⟩
  rw [List.length_drop] at hj
  rw [List.getElem_drop, ← q2 (k + j) (by omega), Nat.add_assoc]
theorem ByteSlice.take {w : World} {b o n c c' k : Nat} {l : List UInt8} (h : ByteSlice w (.slice (some ⟨b, o, none⟩) n c) l) (hk : k ≤ l.length) : ByteSlice w (.slice (some ⟨b, o, none⟩) k c') (l.take k) := by
  obtain ⟨q1, q2⟩ := bytes_form h
  refine ⟨⟨_, _, by rw [List.length_take, Nat.min_eq_left hk], fun _ => ⟨b, o, rfl, fun j hj => ?_⟩⟩, by rw [List.length_take]; have := h.len; omega⟩
  rw [List.length_take] at hj
  rw [List.getElem_take, ← q2 j (by omega)]
theorem ByteSlice.nil (w : World) : ByteSlice w (.slice none 0 0) [] := ⟨⟨_, _, rfl, fun h => absurd rfl h⟩, by simp⟩
theorem cap_le {a : Option Addr} {n c : Nat} (h : n ≤ c) : CapLe (.slice a n c) := fun a' n' c' e => by
  simp only [Value.slice.injEq] at e
  obtain ⟨-, e2, e3⟩ := e
  rw [← e2, ← e3]
  exact h
theorem rules_none (w : World) (a : Option Addr) (c : Nat) : RulesAt w (.slice a 0 c) [] := ⟨_, _, rfl, fun h => absurd rfl h⟩
theorem bytes_addr {w : World} {a : Option Addr} {n c : Nat} {l : List UInt8} (h : ByteSlice w (.slice a n c) l) (hn : l ≠ []) : ∃ b o, a = some ⟨b, o, none⟩ ∧ n = l.length ∧ b < w.heap.size := by
  obtain ⟨a', c', e, hl⟩ := h.form
  simp at e
  obtain ⟨rfl, rfl, rfl⟩ := e
  obtain ⟨b, o, ha, hc⟩ := hl hn
  exact ⟨b, o, ha, rfl, cell_lt (hc 0 (List.length_pos_iff.2 hn))⟩
set_option maxHeartbeats 4000000 in
set_option maxRecDepth 100000 in
theorem law12_ConfigLacks (n : Int) (v : Value) (l : List Nms) (w : World) (hn0 : 0 ≤ n) (hn1 : n < 65536) (hv : NmsSlice w v l) :
    Calls Try.prog 6 #[.int .u16 n, v] w fun x w' => x = .returned (.bool true) ∧ Ext w w' := by
  have hall := hv
  obtain ⟨⟨va, vc, rfl, -⟩, -, heach⟩ := hv
  obtain ⟨hP, hlen, t0, ht0⟩ := polRs_ok hn0 l heach
  have HP := Lib.hid hP
  have HLEN := Lib.hid hlen
  have HPO := Lib.hid (law12_Policy n _ l w hn0 hn1 hall)
  obtain ⟨rs, hrs⟩ : ∃ rs, polRs n l = rs := ⟨_, rfl⟩
  rw [hrs] at HP HLEN HPO ht0
  obtain ⟨most, hmost⟩ : ∃ most, 1 + n % 50 = most := ⟨_, rfl⟩
  rw [hmost] at HP HPO
  have hm0 : 1 ≤ most := by omega
  have hm1 : most ≤ 50 := by omega
  have hl1 : 1 ≤ rs.length := by rw [ht0]; simp
  have HT0 := Lib.hid ht0
  clear hP hlen heach hall ht0
  go_enter Try.func6, Try.ntmps6
  go_wp2_with fail
  refine HPO.out.mono ?_
  rintro x w1 ⟨rv, rfl, hrow, hx1⟩
  have hat : RulesAt w1 rv rs := RuleRow.at hrow
  obtain ⟨ra, rc, rfl⟩ := hat.size
  obtain ⟨rb, ro, rfl, -, -⟩ := hat.cells Rl.size4 (by decide) 0 hl1
  have hrcap : rs.length ≤ rc := (CapOk.own hrow.own _ _ _ rfl).1
  have HAT := Lib.hid hat
  have HX1 := Lib.hid hx1
  clear hat
  clear hrow hx1
  go_wp2_with fail
  have bP := Blk.new w1 #[.int .i64 most, .slice (some ⟨rb, ro, none⟩) rs.length rc] 27
  have hxa : Ext w1 (w1.alloc (.cells #[.int .i64 most, .slice (some ⟨rb, ro, none⟩) rs.length rc] 27)) := (Ext.refl w1).alloc _
  generalize w1.alloc (.cells #[.int .i64 most, .slice (some ⟨rb, ro, none⟩) rs.length rc] 27) = wa at *
  have hlen := HLEN.out
  refine (config_Print_ok most _ rs wa (by omega) (by omega) (HAT.out.ext Rl.size4 hxa) HP.out.ok (by omega) HP.out.cfg).mono ?_
  rintro x w2 ⟨tv, rfl, hb2, hc2, hx2⟩
  have HBP := Lib.hid (bP.ext hx2)
  have HX2 := Lib.hid (HX1.out.trans (hxa.trans hx2))
  have HAT2 := Lib.hid (HAT.out.ext Rl.size4 (hxa.trans hx2))
  clear HAT HX1 hxa hx2 bP
  have ht := hb2
  obtain ⟨⟨ta, tc, rfl, -⟩, htl⟩ := ht
  have htc : (prText most rs).length ≤ tc := hc2 _ _ _ rfl
  have hsm : (prText most rs).length ≤ 1048576 := by
    have := lines_small most (by omega) (by omega) _ HP.out.ord.ok HP.out.ord.err
    have h2 := HP.out.ord.len
    show (joinText _).length ≤ _
    unfold prLines
    omega
  obtain ⟨p1, p2⟩ := pr_take (most := most) (rs := rs) (by omega) (by omega)
  have pe := pr_end (most := most) (rs := rs) (by omega) (by omega)
  obtain ⟨t, ht⟩ : ∃ t, prText most rs = t := ⟨_, rfl⟩
  rw [ht] at hb2 hc2 htl htc hsm p1 p2 pe
  have HB2 := Lib.hid hb2
  have P1 := Lib.hid p1
  have P2 := Lib.hid p2
  have PE := Lib.hid pe
  have HT := Lib.hid ht
  rw [ht]
  have hne : t ≠ [] := fun e => by rw [e] at pe; simp [endOf] at pe
  obtain ⟨tb, tof, rfl, -, ltb⟩ := bytes_addr hb2 hne
  clear hb2 hc2 p1 p2 pe ht
  have c0 : w2.cell? ⟨w1.heap.size, 0, none⟩ = some (.int .i64 most) := HBP.out.cell 0
  have c1 : w2.cell? ⟨w1.heap.size, 1, none⟩ = some (.slice (some ⟨rb, ro, none⟩) rs.length rc) := HBP.out.cell 1
  have lP := HBP.out.lt
  go_upto_region 4 with fail
  have bN := Blk.new w2 #[.int .i64 most, .slice (some ⟨rb, ro, none⟩) rs.length rc] 27
  have hx3 : Ext w2 (w2.alloc (.cells #[.int .i64 most, .slice (some ⟨rb, ro, none⟩) rs.length rc] 27)) := (Ext.refl w2).alloc _
  generalize w2.alloc (.cells #[.int .i64 most, .slice (some ⟨rb, ro, none⟩) rs.length rc] 27) = w3 at *
  have c2 : w3.cell? ⟨w2.heap.size, 1, none⟩ = some (.slice (some ⟨rb, ro, none⟩) rs.length rc) := bN.cell 1
  have c3 : w3.cell? ⟨w1.heap.size, 1, none⟩ = some (.slice (some ⟨rb, ro, none⟩) rs.length rc) := hx3.keep c1
  have f2 : w3.frozen? ⟨w2.heap.size, 1, none⟩ = false := bN.free 1
  have HBN := Lib.hid bN
  have HX3 := Lib.hid hx3
  clear bN hx3 c0 c1
  have HTA : Hid (∀ V, Ext w2 V → RulesAt V (.slice (some ⟨rb, ro + 4, none⟩) (rs.length - 1) (rc - 1)) rs.tail) := Lib.hid (fun V e => by
    have h := HAT2.out.ext Rl.size4 e
    have q := HT0.out
    generalize rs = rs' at *
    subst q
    exact rules_tail h)
  have HTB : Hid (∀ V, rs.length ≤ 1 → RulesAt V (.slice (some ⟨rb, ro, none⟩) (rs.length - 1) 0) rs.tail) := Lib.hid (fun V e => by
    have q := HT0.out
    generalize rs = rs' at *
    subst q
    have : t0 = [] := List.length_eq_zero_iff.1 (by simp at e; simpa using e)
    subst this
    exact rules_none _ _ _)
  go_cut [31] from 20 to 32 (fun x31 wx => ∃ nv, Blk wx w2.heap.size #[.int .i64 most, nv] 27 ∧ RulesAt wx nv rs.tail ∧ Ext w2 wx)
  case first =>
    go_wp2_with fail
    · go_meet
      exact ⟨_, HBN.out.set 1 _, HTB.out _ (by omega), HX3.out.setCell (Nat.le_refl _) _⟩
    · go_meet
      exact ⟨_, HBN.out.set 1 _, HTA.out _ (HX3.out.setCell (Nat.le_refl _) _), HX3.out.setCell (Nat.le_refl _) _⟩
  case rest =>
  obtain ⟨nv, hbn, hrn, hx4⟩ := hcut
  have HBN4 := Lib.hid hbn
  have HRN := Lib.hid hrn
  have HX4 := Lib.hid hx4
  have HB4 := Lib.hid (HB2.out.ext hx4)
  clear hbn hrn hx4 HBN HX3 HTA HTB c2 c3 f2
  go_wp2_with fail
  go_loopw [9, 10] (fun e i wr => ∃ (k : Nat), k ≤ t.length ∧ i = .int .i64 k ∧ e = .int .i64 (endOf (t.take k)) ∧ Ext wc wr) (fun _ i _ => t.length - (intOf i).toNat)
  case atStart => exact ⟨0, by omega, rfl, rfl, Ext.refl _⟩
  case round =>
    obtain ⟨k, hk, rfl, rfl, hx⟩ := hrel
    have HX := Lib.hid hx
    by_cases hlt : k < t.length
    · have hcell : wr.cell? ⟨tb, tof + k, none⟩ = some (.int .u8 (t[k].toNat : Int)) := (bytes_form (HB4.out.ext hx)).2 k hlt
      have hst := end_step t k hlt
      have hle := endOf_le (t.take k)
      rw [List.length_take, Nat.min_eq_left (by omega)] at hle
      have HST := Lib.hid hst
      clear hst hx
      generalize (t[k].toNat : Int) = y at *
      generalize hE : endOf (t.take k) = E at *
      have HE := Lib.hid hE
      clear hE
      by_cases hy : y = 10
      · by_cases h0 : E = 0
        · subst hy h0
          have he : endOf (t.take (k + 1)) = k + 1 := by have := HST.out; simpa using this
          go_wp2_with fail
          go_roundw
          case rel => exact ⟨k + 1, by omega, by go_num, by rw [he]; go_num, HX.out⟩
          case measure => simp [intOf]; omega
        · subst hy
          have he : endOf (t.take (k + 1)) = E := by have := HST.out; rwa [if_neg h0] at this
          have hb : ((E : Int) == 0) = false := by simpa using h0
          go_wp2_with fail
          go_roundw
          case rel => exact ⟨k + 1, by omega, by go_num, by rw [he], HX.out⟩
          case measure => simp [intOf]; omega
      · have he : endOf (t.take (k + 1)) = E := by
          have := HST.out
          rw [if_neg hy] at this
          split at this <;> omega
        have hb : (y == 10) = false := by simpa using hy
        go_wp2_with fail
        go_roundw
        case rel => exact ⟨k + 1, by omega, by go_num, by rw [he], HX.out⟩
        case measure => simp [intOf]; omega
    · have hkl : k = t.length := by omega
      subst hkl
      rw [List.take_of_length_le (Nat.le_refl _)] at *
      have hle := endOf_le t
      have hpos : 0 < endOf t := by rw [PE.out]; omega
      have hlt2 : endOf t < t.length := by
        rcases Nat.lt_or_ge (endOf t) t.length with q | q
        · exact q
        · exfalso
          have := P2.out
          rw [List.drop_eq_nil_of_le q] at this
          obtain ⟨r, rt, hr, -⟩ := first_dft (ordL_up rs) HP.out.ord.dft
          rw [hr] at this
          simp [joinText] at this
      have HDR := Lib.hid ((HB4.out.ext hx).drop (c' := tc - endOf t) (k := endOf t) rfl)
      have HTK := Lib.hid ((HB4.out.ext hx).take (c' := tc) (k := endOf t) hle)
      rw [P2.out] at HDR
      rw [P1.out] at HTK
      have L1 := Lib.hid (lacks_size HP.out.ord)
      have L2 := Lib.hid (lacks_dft hm0 (by omega : most ≤ 1000000))
      generalize endOf t = E at *
      clear hx
      have HXR := Lib.hid (HX4.out.trans HX.out)
      have HNW := Lib.hid (HBN4.out.ext HX.out)
      have HRW := Lib.hid (HRN.out.ext Rl.size4 HX.out)
      have g1 : ¬ tc = E := by omega
      have g2 : (0 : Int) < E := by omega
      clear HX HX4 HBN4 HRN HB4 HB2
      have HC1 := Lib.hid (fun V (e : Ext wr V) => config_Parse _ _ V (HDR.out.ext e) (cap_le (by omega)))
      have HC2 := Lib.hid (fun V (e : Ext wr V) => config_Parse _ _ V (HTK.out.ext e) (cap_le (by omega)))
      have HC3 := Lib.hid (fun V => config_Parse _ _ V (ByteSlice.nil V) (cap_le (Nat.le_refl 0)))
      clear HDR HTK
      go_wp2_with fail
      refine (HC1.out _ (Ext.refl _)).mono ?_
      intro x w5 h5
      obtain ⟨v5, rfl, ho5, hx5⟩ := h5.open L1.out
      obtain ⟨a5, c5, rfl⟩ := (RuleOwn.at ho5).size
      have HX5 := Lib.hid hx5
      clear h5 ho5 hx5
      go_wp2_with fail
      have bA := Blk.new' (w5.alloc (.cells #[.int .i64 0, .slice a5 0 c5] 27)) #[.int .i64 0, .int .i64 0] 37 (b := w5.heap.size + 1) (by simp)
      have hxa : Ext w5 ((w5.alloc (.cells #[.int .i64 0, .slice a5 0 c5] 27)).alloc (.cells #[.int .i64 0, .int .i64 0] 37)) := ((Ext.refl w5).alloc _).alloc _
      generalize (w5.alloc (.cells #[.int .i64 0, .slice a5 0 c5] 27)).alloc (.cells #[.int .i64 0, .int .i64 0] 37) = wa5 at *
      have HX5a := Lib.hid (HX5.out.trans hxa)
      have HBA := Lib.hid bA
      clear hxa bA
      refine (HC2.out _ HX5a.out).mono ?_
      intro x w6 h6
      obtain ⟨v6, rfl, ho6, hx6⟩ := h6.open L2.out
      obtain ⟨a6, c6, rfl⟩ := (RuleOwn.at ho6).size
      have HX6 := Lib.hid (HX5a.out.trans hx6)
      have HBA6 := Lib.hid (HBA.out.ext hx6)
      clear h6 ho6 hx6 HBA
      go_wp2_with fail
      have bB := Blk.new' (w6.alloc (.cells #[.int .i64 0, .slice a6 0 c6] 27)) #[.int .i64 0, .int .i64 0] 37 (b := w6.heap.size + 1) (by simp)
      have hxb : Ext w6 ((w6.alloc (.cells #[.int .i64 0, .slice a6 0 c6] 27)).alloc (.cells #[.int .i64 0, .int .i64 0] 37)) := ((Ext.refl w6).alloc _).alloc _
      generalize (w6.alloc (.cells #[.int .i64 0, .slice a6 0 c6] 27)).alloc (.cells #[.int .i64 0, .int .i64 0] 37) = wb6 at *
      refine (HC3.out _).mono ?_
      intro x w7 h7
      obtain ⟨v7, rfl, ho7, hx7⟩ := h7.open lacks_all
      obtain ⟨a7, c7, rfl⟩ := (RuleOwn.at ho7).size
      have HX7 := Lib.hid (HX6.out.trans (hxb.trans hx7))
      have HBA7 := Lib.hid (HBA6.out.ext (hxb.trans hx7))
      have HBB7 := Lib.hid (bB.ext hx7)
      clear h7 ho7 hx7 HBA6 bB hxb
      go_wp2_with fail
      have hxc : Ext w7 ((w7.alloc (.cells #[.int .i64 0, .slice a7 0 c7] 27)).alloc (.cells #[.int .i64 0, .int .i64 0] 37)) := ((Ext.refl w7).alloc _).alloc _
      generalize (w7.alloc (.cells #[.int .i64 0, .slice a7 0 c7] 27)).alloc (.cells #[.int .i64 0, .int .i64 0] 37) = wc7 at *
      refine (law12_known wc7).mono ?_
      rintro x w8 ⟨rfl, hx8⟩
      have h78 : Ext w7 w8 := hxc.trans hx8
      have HX8 := Lib.hid (HX7.out.trans h78)
      have HBA8 := Lib.hid (HBA7.out.ext h78)
      have HBB8 := Lib.hid (HBB7.out.ext h78)
      have HN8 := Lib.hid (HNW.out.ext (HX7.out.trans h78))
      have HR8 := Lib.hid (HRW.out.ext Rl.size4 (HX7.out.trans h78))
      clear hxc hx8 h78 HBA7 HBB7 HNW HRW HX7 HX6 HX5a HX5
      obtain ⟨na, nc, rfl⟩ := HR8.out.size
      have c0 : w8.cell? ⟨w5.heap.size + 1, 0, none⟩ = some (.int .i64 0) := HBA8.out.cell 0
      have c1 : w8.cell? ⟨w5.heap.size + 1, 1, none⟩ = some (.int .i64 0) := HBA8.out.cell 1
      have c2 : w8.cell? ⟨w6.heap.size + 1, 0, none⟩ = some (.int .i64 0) := HBB8.out.cell 0
      have c3 : w8.cell? ⟨w6.heap.size + 1, 1, none⟩ = some (.int .i64 0) := HBB8.out.cell 1
      have c4 : w8.cell? ⟨w2.heap.size, 0, none⟩ = some (.int .i64 most) := HN8.out.cell 0
      have c5 : w8.cell? ⟨w2.heap.size, 1, none⟩ = some (.slice na rs.tail.length nc) := HN8.out.cell 1
      have HER : Hid (cfgErr most rs.tail = 31) := Lib.hid (by
        have q := HT0.out
        have hp := HP.out
        rw [q] at hp ⊢
        have hn := List.nodup_cons.1 hp.nd
        exact cfg_no_dft hp.m0 hp.m1 (fun r hr => hp.err r (List.mem_cons_of_mem _ hr)) (by have := hp.len; simp at this ⊢; omega) hn.1)
      have HRI := Lib.hid (config_Right most (.slice na rs.tail.length nc) rs.tail w8 (by omega) (by omega) HR8.out (fun r hr => HP.out.ok r (List.mem_of_mem_tail hr)) (by rw [List.length_tail]; omega))
      rw [HER.out] at HRI
      generalize rs.tail = rt at *
      go_wp2_with (first
        | (go_at_call 15; refine HRI.out.mono ?_; rintro x w9 ⟨rfl, hx9⟩)
        | fail)
      go_ret
      exact ⟨rfl, HX2.out.trans (HXR.out.trans (HX8.out.trans hx9))⟩
end Go.Proofs.Ytknlojlcahgnoaa

/- Walk: tollerlaw12.ConfigTwice. -/
namespace Go.Proofs.Ytknlojlcahgnoaa
open Go.RowKit
set_option linter.unusedVariables false
set_option linter.unusedSimpArgs false

theorem bytes_sl_info : (Try.prog.info? 24).map (fun i => (i.zero, i.size, i.bytes)) = some (some (.slice none 0 0), 1, 24) := by kernel_rfl
theorem byte_info : (Try.prog.info? 5).map (fun i => (i.zero, i.size, i.bytes)) = some (some (.int .u8 0), 1, 1) := by kernel_rfl
def byteV (l : List UInt8) : List Value := l.map fun b => .int .u8 (b.toNat : Int)
theorem own_bytes {w : World} {base : Nat} {v : Value} {l : List UInt8} {n : Nat} (h : w.ownsRow base 5 1 v n (byteV l)) (hn : n = l.length) : ByteSlice w v l ∧ CapLe v := by
  subst hn
  obtain ⟨-, ⟨rfl, q⟩ | ⟨g, cap, cur, rfl, q2, q3, q4, q5, q6, q7⟩⟩ := h
  · have : l = [] := List.length_eq_zero_iff.1 q
    subst this
    exact ⟨ByteSlice.nil w, cap_le (Nat.le_refl 0)⟩
  · refine ⟨⟨⟨_, _, rfl, fun _ => ⟨g, 0, rfl, fun j hj => ?_⟩⟩, by omega⟩, cap_le q4⟩
    have : cur.toList[j]? = some (.int .u8 (l[j].toNat : Int)) := by
      have h2 : (cur.toList.take (l.length * 1))[j]? = (byteV l)[j]? := by rw [q7]
      rw [List.getElem?_take_of_lt (by omega)] at h2
      rw [h2]
      simp [byteV, hj]
    rw [Nat.zero_add, Blk.cell (show Blk w g cur 5 from q3)]
    simpa using this
theorem news_bytes {w : World} {b o n c : Nat} {l : List UInt8} (h : ByteSlice w (.slice (some ⟨b, o, none⟩) n c) l) : ∀ j u, (byteV l)[j]? = some u → w.cell? ((⟨b, o, none⟩ : Addr).add j) = some u := by
  intro j u hu
  obtain ⟨q1, q2⟩ := bytes_form h
  unfold byteV at hu
  rw [List.getElem?_map] at hu
  rcases Nat.lt_or_ge j l.length with hj | hj
  · rw [List.getElem?_eq_getElem hj] at hu
    simp at hu
    rw [addr_add, q2 j hj, hu]
  · rw [List.getElem?_eq_none hj] at hu
    cases hu
theorem one_bytes (l : List UInt8) : ∀ u ∈ byteV l, u.oneCell' = true := by
  intro u hu
  obtain ⟨b, -, rfl⟩ := List.mem_map.1 hu
  rfl
theorem rows_step (t : List UInt8) (k : Nat) (hk : k < t.length) : rowsTo (t.take (k + 1)) = if (t[k].toNat : Int) = 10 then ((rowsTo (t.take k)).1 ++ [(rowsTo (t.take k)).2 ++ [t[k]]], []) else ((rowsTo (t.take k)).1, (rowsTo (t.take k)).2 ++ [t[k]]) := by
  rw [List.take_succ_eq_append_getElem hk, rowsTo_snoc]
  unfold rowStep
  have : (t[k] = 10) ↔ ((t[k].toNat : Int) = 10) := by
    constructor
    · intro e; rw [e]; rfl
    · intro e; exact UInt8.toNat_inj.1 (by show t[k].toNat = 10; omega)
  simp only [this]
theorem pr_line_len {most : Int} {rs : List Rl} (h : PolOk most rs) : ∀ l ∈ prLines most rs, (joinL l).length ≤ 300 := by
  intro l hl
  have m0 := h.m0
  have m1 := h.m1
  rcases List.mem_cons.1 hl with rfl | hl
  · have hd := (dig_back most (by omega) (by omega)).2.2.1
    have h1 := joinL_len [wSize, digStr most]
    have d1 : wSize.size = 4 := by decide
    simp only [List.map_cons, List.map_nil, List.sum_cons, List.sum_nil, List.length_cons, List.length_nil] at h1
    omega
  · obtain ⟨r, hr, rfl⟩ := List.mem_map.1 hl
    exact (plW_len (h.ord.ok r hr) (h.ord.err r hr)).2
/-- rows of a text that are known -/
def RowsAt (w wr : World) (v : Value) (l : List (List UInt8)) : Prop :=
  ∃ vs, wr.ownsRow w.heap.size 24 1 v l.length vs ∧ vs.length = l.length ∧ ∀ j (h : j < vs.length) (h2 : j < l.length), ByteSlice w vs[j] l[j] ∧ ∃ b o n c, vs[j] = .slice (some ⟨b, o, none⟩) n c
theorem RowsAt.step {w wr : World} {v' x : Value} {l : List (List UInt8)} {r : List UInt8} {vs : List Value} (ho : wr.ownsRow w.heap.size 24 1 v' (l.length + 1) (vs ++ [x])) (hv : vs.length = l.length) (hs : ∀ j (h : j < vs.length) (h2 : j < l.length), ByteSlice w vs[j] l[j] ∧ ∃ b o n c, vs[j] = .slice (some ⟨b, o, none⟩) n c) (hx : ByteSlice w x r ∧ ∃ b o n c, x = .slice (some ⟨b, o, none⟩) n c) : RowsAt w wr v' (l ++ [r]) := by
  refine ⟨vs ++ [x], by rw [List.length_append]; exact ho, by simp [hv], fun j h1 h2 => ?_⟩
  by_cases q : j < vs.length
  · rw [List.getElem_append_left q, List.getElem_append_left (by omega)]
    exact hs j q (by omega)
  · have hj : j = vs.length := by simp at h1; omega
    subst hj
    rw [List.getElem_append_right (Nat.le_refl _), List.getElem_append_right (by omega)]
    simpa [hv] using hx
set_option maxHeartbeats 4000000 in
set_option maxRecDepth 100000 in
theorem law12_ConfigTwice (n : Int) (v : Value) (l : List Nms) (at_ : Int) (w : World) (hn0 : 0 ≤ n) (hn1 : n < 65536) (hv : NmsSlice w v l) (ha0 : 0 ≤ at_) (ha1 : at_ < 256) :
    Calls Try.prog 5 #[.int .u16 n, v, .int .u8 at_] w fun x w' => x = .returned (.bool true) ∧ Ext w w' := by
  have hall := hv
  obtain ⟨⟨va, vc, rfl, -⟩, -, heach⟩ := hv
  obtain ⟨hP, hlen, t0, ht0⟩ := polRs_ok hn0 l heach
  have HP := Lib.hid hP
  have HLEN := Lib.hid hlen
  have HPO := Lib.hid (law12_Policy n _ l w hn0 hn1 hall)
  obtain ⟨rs, hrs⟩ : ∃ rs, polRs n l = rs := ⟨_, rfl⟩
  rw [hrs] at HP HLEN HPO ht0
  obtain ⟨most, hmost⟩ : ∃ most, 1 + n % 50 = most := ⟨_, rfl⟩
  rw [hmost] at HP HPO
  have hm0 : 1 ≤ most := by omega
  have hm1 : most ≤ 50 := by omega
  have hl1 : 1 ≤ rs.length := by rw [ht0]; simp
  clear hP hlen heach hall ht0
  go_enter Try.func5, Try.ntmps5
  go_wp2_with fail
  refine HPO.out.mono ?_
  rintro x w1 ⟨rv, rfl, hrow, hx1⟩
  have hat : RulesAt w1 rv rs := RuleRow.at hrow
  obtain ⟨ra, rc, rfl⟩ := hat.size
  have HAT := Lib.hid hat
  have HX1 := Lib.hid hx1
  clear hat hrow hx1
  go_wp2_with fail
  have hxa : Ext w1 (w1.alloc (.cells #[.int .i64 most, .slice ra rs.length rc] 27)) := (Ext.refl w1).alloc _
  generalize w1.alloc (.cells #[.int .i64 most, .slice ra rs.length rc] 27) = wa at *
  have hlen := HLEN.out
  refine (config_Print_ok most _ rs wa (by omega) (by omega) (HAT.out.ext Rl.size4 hxa) HP.out.ok (by omega) HP.out.cfg).mono ?_
  rintro x w2 ⟨tv, rfl, hb2, hc2, hx2⟩
  have HX2 := Lib.hid (HX1.out.trans (hxa.trans hx2))
  clear HAT HX1 hxa hx2
  have ht := hb2
  obtain ⟨⟨ta, tc, rfl, -⟩, htl⟩ := ht
  have htc : (prText most rs).length ≤ tc := hc2 _ _ _ rfl
  have hsm : (prText most rs).length ≤ 1048576 := by
    have := lines_small most (by omega) (by omega) _ HP.out.ord.ok HP.out.ord.err
    have h2 := HP.out.ord.len
    show (joinText _).length ≤ _
    unfold prLines
    omega
  have pe := pr_end (most := most) (rs := rs) (by omega) (by omega)
  have pr := rows_pr HP.out
  have hll : (prLines most rs).length = rs.length + 1 := by rw [prLines_eq, List.length_cons, List.length_map, ordL_len]
  have HTW := Lib.hid (fun i hi => twice HP.out i hi)
  obtain ⟨t, ht⟩ : ∃ t, prText most rs = t := ⟨_, rfl⟩
  rw [ht] at hb2 hc2 htl htc hsm pe pr HTW
  have hne : t ≠ [] := fun e => by rw [e] at pe; simp [endOf] at pe
  rw [ht]
  obtain ⟨tb, tof, rfl, -, ltb⟩ := bytes_addr hb2 hne
  have HB2 := Lib.hid hb2
  have PR := Lib.hid pr
  obtain ⟨i0, hi, hz0, hz1, hz2⟩ := info_parts bytes_sl_info
  have HI := Lib.hid (And.intro hi (And.intro hz0 (And.intro hz1 hz2)))
  obtain ⟨i1, hi, hz0, hz1, hz2⟩ := info_parts byte_info
  have HI1 := Lib.hid (And.intro hi (And.intro hz0 (And.intro hz1 hz2)))
  clear hb2 hc2 pe pr hi hz0 hz1 hz2
  go_wp2_with fail
  go_loopw [10, 11, 12] (fun rv fr i wr => ∃ (k : Nat), k ≤ t.length ∧ i = .int .i64 k ∧ fr = .int .i64 ((k - (rowsTo (t.take k)).2.length : Nat) : Int) ∧ RowsAt w2 wr rv (rowsTo (t.take k)).1 ∧ Ext w2 wr) (fun _ _ i _ => t.length - (intOf i).toNat)
  case atStart => exact ⟨0, by omega, rfl, rfl, ⟨[], World.ownsRow_nil _ _ _ _, rfl, fun j h => absurd h (by simp)⟩, Ext.refl _⟩
  case round =>
    obtain ⟨k, hk, rfl, rfl, hrow, hx⟩ := hrel
    have HX := Lib.hid hx
    by_cases hlt : k < t.length
    · have hcell : wr.cell? ⟨tb, tof + k, none⟩ = some (.int .u8 (t[k].toNat : Int)) := (bytes_form (HB2.out.ext hx)).2 k hlt
      have hst := rows_step t k hlt
      have hwin := row_win t k hlt
      obtain ⟨hl1', hl2'⟩ := rowsTo_len (t.take k)
      rw [List.length_take, Nat.min_eq_left (by omega)] at hl1' hl2'
      generalize (rowsTo (t.take k)).1 = R at *
      generalize (rowsTo (t.take k)).2 = c at *
      obtain ⟨F, hF⟩ : ∃ F, k - c.length = F := ⟨_, rfl⟩
      rw [hF] at hwin ⊢
      have hFk : F + c.length = k := by omega
      have hwn : ByteSlice w2 (.slice (some ⟨tb, tof + F, none⟩) (c.length + 1) (tc - F)) (c ++ [t[k]]) := by
        have h := (HB2.out.drop (c' := tc - F) (k := F) rfl).take (c' := tc - F) (k := c.length + 1) (by rw [List.length_drop]; omega)
        rw [hwin] at h
        exact h
      have HWN := Lib.hid hwn
      have HST := Lib.hid hst
      generalize t[k] = b at *
      clear hst hwin hwn hx
      obtain ⟨vs, o1, o2, o3⟩ := hrow
      have O1 := Lib.hid o1
      have O2 := Lib.hid o2
      have O3 := Lib.hid o3
      have hsz := HX.out.sz
      clear o1 o2 o3
      by_cases hy : (b.toNat : Int) = 10
      · have he := HST.out
        rw [if_pos hy] at he
        have HE := Lib.hid he
        clear he HST
        have g1 : ¬ tc = F := by omega
        have g2 : (F : Int) ≤ (k : Int) + 1 := by omega
        have g3 : (k : Int) + 1 ≤ tc := by omega
        rw [hy] at hcell
        have hkf : k + 1 - F = c.length + 1 := by omega
        go_wp2_with (first
          | (at_builtin; refine wpList_append_own _ rfl (.tmp 40) (.tmp 46) 49 rfl w2.heap.size 24 i0 (.slice none 0 0) 1 24 Try.underlying49 HI.out.1 HI.out.2.1 HI.out.2.2.1 HI.out.2.2.2 rfl (by decide) _ _ _ rfl (O1.out.alloc _) ⟨wr.heap.size, 0, none⟩ 1 1 [_] rfl rfl (blk_news (C := #[_]) (Blk.new _ _ _)) (by simp [Value.oneCell']) (by unfold maxLen; omega) (by omega) (by simp; omega) ?_; rintro v' w6 hown hgrow -)
          | fail)
        have hx6 : Ext w2 w6 := Ext.grownAt (HX.out.alloc _) (O1.out.alloc _) (Nat.le_refl _) hgrow
        clear hgrow
        go_wp2
        go_roundw
        case rel =>
          refine ⟨k + 1, by omega, by go_num, by rw [HE.out]; go_num, ?_, hx6⟩
          rw [HE.out]
          exact RowsAt.step hown O2.out O3.out ⟨HWN.out, _, _, _, _, rfl⟩
        case measure => simp [intOf]; omega
      · have he := HST.out
        rw [if_neg hy] at he
        have hb : ((b.toNat : Int) == 10) = false := by simpa using hy
        go_wp2_with fail
        go_roundw
        case rel => exact ⟨k + 1, by omega, by go_num, by rw [he]; simp; omega, by rw [he]; exact ⟨vs, O1.out, O2.out, O3.out⟩, HX.out⟩
        case measure => simp [intOf]; omega
    · have hkl : k = t.length := by omega
      subst hkl
      rw [List.take_of_length_le (Nat.le_refl _), PR.out] at *
      obtain ⟨vs, o1, o2, o3⟩ := hrow
      simp only [List.length_map] at o1 o2 o3
      rw [hll] at o1 o2
      obtain ⟨L, hL⟩ : ∃ L, rs.length + 1 = L := ⟨_, rfl⟩
      rw [hL] at o1 o2
      have hLs : vs.length = L := o2
      have hL2 : 2 ≤ L ∧ L ≤ 14 := by omega
      obtain ⟨i, hi⟩ : ∃ i : Nat, at_ % (L : Int) = i := ⟨(at_ % (L : Int)).toNat, by rw [Int.toNat_of_nonneg (Int.emod_nonneg _ (by omega))]⟩
      have hil : i < L := by have := Int.emod_lt_of_pos at_ (show (0 : Int) < L by omega); omega
      have hip : i < (prLines most rs).length := by rw [hll]; omega
      obtain ⟨hrow, rb, ro, rn, rcap, hvi⟩ := o3 i (by omega) (by rw [hll]; omega)
      rw [List.getElem_map] at hrow
      have HPI := Lib.hid (HTW.out i hip)
      have HROWL : Hid ((joinL (prLines most rs)[i] ++ [10]).length ≤ 1000) := Lib.hid (by
        have := pr_line_len HP.out _ (List.getElem_mem hip)
        rw [List.length_append]
        simp
        omega)
      generalize joinL (prLines most rs)[i] ++ [10] = row at *
      have O1 := Lib.hid o1
      rw [hvi] at hrow
      have HROW := Lib.hid hrow
      clear o3 hrow HTW PR
      obtain ⟨gb, g0, hgv, hgc⟩ : ∃ gb gc, u10 = .slice (some ⟨gb, 0, none⟩) L gc ∧ wr.cell? ⟨gb, i, none⟩ = some (.slice (some ⟨rb, ro, none⟩) rn rcap) := by
        obtain ⟨-, ⟨q, q0⟩ | ⟨g, cap, cur, q1, q2, q3, q4, q5, q6, q7⟩⟩ := o1
        · omega
        · refine ⟨g, cap, q1, ?_⟩
          rw [Blk.cell (show Blk wr g cur 24 from q3)]
          have : cur.toList[i]? = some vs[i] := by rw [← List.getElem?_eq_getElem (show i < vs.length by omega), ← q7, List.getElem?_take_of_lt (by omega)]
          rw [hvi] at this
          simpa using this
      subst hgv
      obtain ⟨hrn, -⟩ := bytes_form HROW.out
      subst hrn
      have hrowl : row.length ≤ 1000 := by
        have := HROWL.out
        omega
      have g1 : ((L : Int) == 0) = false := by simp; omega
      have g2 : (L : Int) ≠ 0 := by omega
      have g3 : (i : Int) < L := by omega
      have HB4 := Lib.hid (HB2.out.ext hx)
      have HXW := Lib.hid hx
      have hszw := hx.sz
      clear hx
      go_wp2_with (first
        | (at_builtin; refine wpList_append_own _ rfl (.tmp 58) (.tmp 59) 24 rfl w2.heap.size 5 i1 (.int .u8 0) 1 1 Try.underlying24 HI1.out.1 HI1.out.2.1 HI1.out.2.2.1 HI1.out.2.2.2 rfl (by decide) (.slice none 0 0) 0 [] rfl (World.ownsRow_nil _ _ _ _) ⟨tb, tof, none⟩ t.length tc (byteV t) rfl (by simp [byteV]) (news_bytes HB4.out) (one_bytes t) (by unfold maxLen; omega) (by omega) (by omega) ?_; rintro sv w5 hown hgrow -; have hx5 : Ext wr w5 := Ext.grownAt (Ext.refl wr) (World.ownsRow_nil wr wr.heap.size 5 1) (Nat.le_refl _) hgrow; have hgc5 := hx5.keep hgc; have OS := Lib.hid hown; have HX5 := Lib.hid hx5; have hsz5 := hx5.sz; clear hown hgrow hx5 hgc)
        | (at_builtin; refine wpList_append_own _ rfl (.tmp 61) (.tmp 65) 24 rfl w2.heap.size 5 i1 (.int .u8 0) 1 1 Try.underlying24 HI1.out.1 HI1.out.2.1 HI1.out.2.2.1 HI1.out.2.2.2 rfl (by decide) _ _ _ rfl OS.out ⟨rb, ro, none⟩ row.length rcap (byteV row) rfl (by simp [byteV]) (news_bytes (HROW.out.ext (HXW.out.trans HX5.out))) (one_bytes row) (by unfold maxLen; omega) (by omega) (by omega) ?_; rintro sv2 w6 hown hgrow -; have hx6 : Ext w2 w6 := Ext.grownAt (HXW.out.trans HX5.out) OS.out (Nat.le_refl _) hgrow; have OS2 := Lib.hid hown; have HX6 := Lib.hid hx6; clear hown hgrow hx6)
        | fail)
      obtain ⟨hbs, hcl⟩ := own_bytes (l := t ++ row) (by have := OS2.out; simpa [byteV] using this) (by simp)
      refine (config_Parse _ _ _ hbs hcl).mono ?_
      intro x w7 h7
      obtain ⟨v7, rfl, ho7, hx7⟩ := h7.open HPI.out
      obtain ⟨a7, c7, rfl⟩ := (RuleOwn.at ho7).size
      have HX7 := Lib.hid (HX6.out.trans hx7)
      clear h7 ho7 hx7 hbs hcl
      rw [hll, hL]
      have hK := fun W => law12_known W
      by_cases h1i : 1 < i
      · have h1j : (1 : Int) < i := by omega
        simp only [if_pos h1i]
        go_wp2_with (first
          | (go_at_call 11; refine (hK _).mono ?_; rintro x w8 ⟨rfl, hx8⟩; have bA := (Blk.new' (w7.alloc (.cells #[.int .i64 0, .slice a7 0 c7] 27)) #[.int .i64 ((L : Int) + 1), .int .i64 6] 37 (b := w7.heap.size + 1) (by simp)).ext hx8; have d0 : w8.cell? ⟨w7.heap.size + 1, 0, none⟩ = some (.int .i64 ((L : Int) + 1)) := bA.cell 0; have d1 : w8.cell? ⟨w7.heap.size + 1, 1, none⟩ = some (.int .i64 6) := bA.cell 1; have HX8 := Lib.hid (HX7.out.trans ((((Ext.refl w7).alloc _).alloc _).trans hx8)); clear bA hx8)
          | fail)
        go_ret
        exact ⟨by simp, HX2.out.trans HX8.out⟩
      · have h1j : ¬ (1 : Int) < i := by omega
        simp only [if_neg h1i]
        go_wp2_with (first
          | (go_at_call 11; refine (hK _).mono ?_; rintro x w8 ⟨rfl, hx8⟩; have bA := (Blk.new' (w7.alloc (.cells #[.int .i64 0, .slice a7 0 c7] 27)) #[.int .i64 ((L : Int) + 1), .int .i64 1] 37 (b := w7.heap.size + 1) (by simp)).ext hx8; have d0 : w8.cell? ⟨w7.heap.size + 1, 0, none⟩ = some (.int .i64 ((L : Int) + 1)) := bA.cell 0; have d1 : w8.cell? ⟨w7.heap.size + 1, 1, none⟩ = some (.int .i64 1) := bA.cell 1; have HX8 := Lib.hid (HX7.out.trans ((((Ext.refl w7).alloc _).alloc _).trans hx8)); clear bA hx8)
          | fail)
        go_ret
        exact ⟨by simp, HX2.out.trans HX8.out⟩
end Go.Proofs.Ytknlojlcahgnoaa

/- Walk: tollerlaw12.ConfigMost. -/
namespace Go.Proofs.Ytknlojlcahgnoaa
open Go.RowKit
set_option linter.unusedVariables false
set_option linter.unusedSimpArgs false

theorem most_next {w w12 : World} {E K : Int} {k : Nat} {u : Value} {g cap : Nat}
    (hown : w12.ownsRow w.heap.size 34 4 (.slice (some ⟨g, 0, none⟩) (k + 1 + 1) cap) (k + 1 + 1) (flatE Rl.cells (mostRs E K k) ++ [.string (⟨#[107]⟩ ++ digStr k), .int .u64 E, .int .u64 1, .int .u8 K]))
    (hP : Blk w12 (w.heap.size + 1) #[.int .i64 5, u] 27) (hx : Ext w w12) :
    Blk (w12.setCell ⟨w.heap.size + 1, 1, none⟩ (.slice (some ⟨g, 0, none⟩) (k + 1 + 1) cap)) (w.heap.size + 1) #[.int .i64 5, .slice (some ⟨g, 0, none⟩) (k + 1 + 1) cap] 27 ∧
    RuleOwn w.heap.size (w12.setCell ⟨w.heap.size + 1, 1, none⟩ (.slice (some ⟨g, 0, none⟩) (k + 1 + 1) cap)) (.slice (some ⟨g, 0, none⟩) (k + 1 + 1) cap) (mostRs E K (k + 1)) ∧
    Ext w (w12.setCell ⟨w.heap.size + 1, 1, none⟩ (.slice (some ⟨g, 0, none⟩) (k + 1 + 1) cap)) := by
  refine ⟨hP.set 1 _, ?_, hx.setCell (by dsimp only; omega) _⟩
  have e : flatE Rl.cells (mostRs E K (k + 1)) = flatE Rl.cells (mostRs E K k) ++ [.string (⟨#[107]⟩ ++ digStr k), .int .u64 E, .int .u64 1, .int .u8 K] := by rw [mostRs_snoc, flatE_snoc]; rfl
  have hl : (mostRs E K (k + 1)).length = k + 1 + 1 := mostRs_len _ _ _
  show World.ownsRow _ _ _ _ _ (mostRs E K (k + 1)).length _
  rw [hl, e]
  obtain ⟨h0, ⟨q, -⟩ | ⟨g', cap', cur, q1, q2, q3, q4⟩⟩ := hown
  · cases q
  · refine ⟨h0, Or.inr ⟨g', cap', cur, q1, q2, ?_, q4⟩⟩
    have hne : g' ≠ w.heap.size + 1 := by
      intro e
      subst e
      have h1 : w12.heap[w.heap.size + 1]? = _ := hP
      rw [q3] at h1
      simp at h1
    exact (Below.heap_setCell _ _ _ _ hne).trans q3
theorem most_row {w7 : World} {base b m : Nat} {l : List Rl} {z : Rl} {g cap : Nat} {p u : Value} (hl : l.length = m) (hown : w7.ownsRow base 34 4 (.slice (some ⟨g, 0, none⟩) (m + 1) cap) (m + 1) (flatE Rl.cells l ++ z.cells.toList)) (hP : Blk w7 b #[p, u] 27) {x : Value} :
    RulesAt (w7.setCell ⟨b, 1, none⟩ x) (.slice (some ⟨g, 0, none⟩) (m + 1) cap) (l ++ [z]) := by
  subst hl
  refine RuleOwn.at (base := base) ?_
  show World.ownsRow _ _ _ _ _ (l ++ [z]).length _
  rw [List.length_append, flatE_snoc]
  obtain ⟨h0, ⟨q, -⟩ | ⟨g', cap', cur, q1, q2, q3, q4⟩⟩ := hown
  · cases q
  · refine ⟨h0, Or.inr ⟨g', cap', cur, q1, q2, ?_, q4⟩⟩
    have hne : g' ≠ b := by
      intro e
      subst e
      have h1 : w7.heap[g']? = _ := hP
      rw [q3] at h1
      simp at h1
    exact (Below.heap_setCell _ _ _ _ hne).trans q3
set_option maxHeartbeats 4000000 in
set_option maxRecDepth 100000 in
theorem law12_ConfigMost (ev kd : Int) (w : World) (he0 : 0 ≤ ev) (he1 : ev < 4294967296) (hk0 : 0 ≤ kd) (hk1 : kd < 256) :
    Calls Try.prog 4 #[.int .u32 ev, .int .u8 kd] w fun x w' => x = .returned (.bool true) ∧ Ext w w' := by
  obtain ⟨E, hE⟩ : ∃ E, 1 + ev = E := ⟨_, rfl⟩
  obtain ⟨kn, hK⟩ : ∃ kn, 1 + kd % 3 = kn := ⟨_, rfl⟩
  have hE0 : 0 < E := by omega
  have hE1 : E ≤ 4294967296 := by omega
  have hK0 : 1 ≤ kn := by omega
  have hK1 : kn ≤ 3 := by omega
  obtain ⟨i0, hi, hz0, hz1, hz2⟩ := info_parts rule_info
  have HI := Lib.hid (And.intro hi (And.intro hz0 (And.intro hz1 hz2)))
  obtain ⟨i1, hi, hz0, hz1, hz2⟩ := info_parts byte_info
  have HI1 := Lib.hid (And.intro hi (And.intro hz0 (And.intro hz1 hz2)))
  clear hi hz0 hz1 hz2
  have hx0 : Ext w ((w.alloc (.cells #[.string ⟨#[]⟩, .int .u64 1, .int .u64 1, .int .u8 1] 34)).alloc (.cells #[.int .i64 5, .slice (some ⟨w.heap.size, 0, none⟩) 1 1] 27)) := ((Ext.refl w).alloc _).alloc _
  have b0 := (Blk.new w #[.string ⟨#[]⟩, .int .u64 1, .int .u64 1, .int .u8 1] 34).alloc (.cells #[.int .i64 5, .slice (some ⟨w.heap.size, 0, none⟩) 1 1] 27)
  have bP := Blk.new' (w.alloc (.cells #[.string ⟨#[]⟩, .int .u64 1, .int .u64 1, .int .u8 1] 34)) #[.int .i64 5, .slice (some ⟨w.heap.size, 0, none⟩) 1 1] 27 (b := w.heap.size + 1) (by simp)
  go_enter Try.func4, Try.ntmps4
  go_upto_region 2 with fail
  generalize (w.alloc (.cells #[.string ⟨#[]⟩, .int .u64 1, .int .u64 1, .int .u8 1] 34)).alloc (.cells #[.int .i64 5, .slice (some ⟨w.heap.size, 0, none⟩) 1 1] 27) = w0 at *
  have hst : RuleOwn w.heap.size w0 (.slice (some ⟨w.heap.size, 0, none⟩) 1 1) (mostRs E kn 0) := ⟨rfl, Or.inr ⟨w.heap.size, 1, _, rfl, Nat.le_refl _, b0, Nat.le_refl _, by decide, rfl, rfl⟩⟩
  clear b0
  go_wp2_with fail
  go_loopw [6] (fun i wr => ∃ (k : Nat) (pv : Value), k ≤ 999 ∧ i = .int .i64 k ∧ Blk wr (w.heap.size + 1) #[.int .i64 5, pv] 27 ∧ RuleOwn w.heap.size wr pv (mostRs E kn k) ∧ Ext w wr) (fun i _ => 999 - (intOf i).toNat)
  case atStart => exact ⟨0, _, by omega, rfl, bP, hst, hx0⟩
  case round =>
    obtain ⟨k, pv, hk, rfl, hp, hr, hx⟩ := hrel
    obtain ⟨va, vc, rfl⟩ := (RuleOwn.at hr).size
    have hr2 : wr.ownsRow w.heap.size 34 4 (.slice va (mostRs E kn k).length vc) (mostRs E kn k).length (flatE Rl.cells (mostRs E kn k)) := hr
    rw [mostRs_len] at hp hr2
    have HP := Lib.hid hp
    have HRU := Lib.hid hr2
    have HX := Lib.hid hx
    have c1 : wr.cell? ⟨w.heap.size + 1, 1, none⟩ = some (.slice va (k + 1) vc) := hp.cell 1
    have f1 := hp.free 1
    have l1 := hp.lt
    clear hst bP hx0 hp hr hr2 hx
    by_cases hlt : k < 999
    · have hm : (1000000 : Nat) ≤ maxLen := by decide
      have HL1 : Hid (k + 1 + 1 ≤ maxLen) := Lib.hid (by omega)
      have HL2 : Hid ((k + 1 + 1) * 40 ≤ 140737488355328) := Lib.hid (by omega)
      have hs0 := HX.out.sz
      have HL3 : Hid (w.heap.size ≤ (wr.alloc (.cells #[.string (⟨#[107]⟩ ++ digStr k), .int .u64 E, .int .u64 1, .int .u8 kn] 34)).drew.heap.size) := Lib.hid (by simp; omega)
      have HPR := Lib.hid (fun V => ref03_Print k V (by omega) (by omega))
      have hds := (dig_back k (by omega) (by omega)).2.2.1
      have hadd : ∀ V, (Op.stringOp .add ⟨#[107]⟩ (digStr k)).run Try.prog V = .ok (.string (⟨#[107]⟩ ++ digStr k)) V := fun V => run_string_add_sum (P := Try.prog) (w := V) _ _ (by have h1 : (ByteArray.mk #[107]).size = 1 := rfl; omega)
      have hw1 : IntKind.u64.wrap (k : Int) = k := by simp [IntKind.wrap, IntKind.signed, IntKind.bits]; omega
      have hw2 : IntKind.u64.wrap ev = ev := by simp [IntKind.wrap, IntKind.signed, IntKind.bits]; omega
      have hw3 : IntKind.u64.wrap E = E := by simp [IntKind.wrap, IntKind.signed, IntKind.bits]; omega
      have hw4 : IntKind.u8.wrap (kd.tmod 3) = kd % 3 := by rw [Int.tmod_eq_emod_of_nonneg hk0]; simp [IntKind.wrap, IntKind.signed, IntKind.bits]; omega
      have hw5 : IntKind.u8.wrap (1 + kd.tmod 3) = kn := by rw [Int.tmod_eq_emod_of_nonneg hk0, hK]; simp [IntKind.wrap, IntKind.signed, IntKind.bits]; omega
      go_upto_region 5 with fail
--GEN
      refine wp_region_held_drew (S := fun _ => True) (by kernel_rfl) trivial (fun hHeld => ?_)
      refine wpAnyH_take (i := 0) (v := ?_) rfl (by kernel_rfl) (by kernel_rfl) (by kernel_rfl) (fun _ _ _ h => h) (Or.inl ⟨by rfl, ?_⟩) (by assumption) ?_
      rotate_left
      · intro w hSw
        (try dsimp only at hSw)
        go_simp
        try with_reducible rfl
      try simp only [Go.Act.put, List.getElem_toArray, List.getElem_cons_zero, List.getElem_cons_succ, List.setIfInBounds_toArray, List.set_cons_zero, List.set_cons_succ]
      refine wpAnyH_take (i := 2) (v := ?_) rfl (by kernel_rfl) (by kernel_rfl) (by kernel_rfl) (fun _ _ _ h => h) (Or.inl ⟨by rfl, ?_⟩) (by assumption) ?_
      rotate_left
      · intro w hSw
        (try dsimp only at hSw)
        go_simp
        try with_reducible rfl
      try simp only [Go.Act.put, List.getElem_toArray, List.getElem_cons_zero, List.getElem_cons_succ, List.setIfInBounds_toArray, List.set_cons_zero, List.set_cons_succ]
      refine wpAnyH_take (i := 3) (v := ?_) rfl (by kernel_rfl) (by kernel_rfl) (by kernel_rfl) (fun _ _ _ h => h) (Or.inl ⟨by rfl, ?_⟩) (by assumption) ?_
      rotate_left
      · intro w hSw
        (try dsimp only at hSw)
        go_simp
        try with_reducible rfl
      try simp only [Go.Act.put, List.getElem_toArray, List.getElem_cons_zero, List.getElem_cons_succ, List.setIfInBounds_toArray, List.set_cons_zero, List.set_cons_succ]
      refine wpAnyH_take (i := 6) (v := ?_) rfl (by kernel_rfl) (by kernel_rfl) (by kernel_rfl) (fun _ _ _ h => h) (Or.inl ⟨by rfl, ?_⟩) (by assumption) ?_
      rotate_left
      · intro w hSw
        (try dsimp only at hSw)
        go_simp
        try with_reducible rfl
      try simp only [Go.Act.put, List.getElem_toArray, List.getElem_cons_zero, List.getElem_cons_succ, List.setIfInBounds_toArray, List.set_cons_zero, List.set_cons_succ]
      refine wpAnyH_take (i := 7) (v := ?_) rfl (by kernel_rfl) (by kernel_rfl) (by kernel_rfl) (fun _ _ _ h => h) (Or.inl ⟨by rfl, ?_⟩) (by assumption) ?_
      rotate_left
      · intro w hSw
        (try dsimp only at hSw)
        go_simp
        try with_reducible rfl
      try simp only [Go.Act.put, List.getElem_toArray, List.getElem_cons_zero, List.getElem_cons_succ, List.setIfInBounds_toArray, List.set_cons_zero, List.set_cons_succ]
      refine wpAnyH_take (i := 8) (v := ?_) rfl (by kernel_rfl) (by kernel_rfl) (by kernel_rfl) (fun _ _ _ h => h) (Or.inl ⟨by rfl, ?_⟩) (by assumption) ?_
      rotate_left
      · intro w hSw
        (try dsimp only at hSw)
        go_simp
        try with_reducible rfl
      try simp only [Go.Act.put, List.getElem_toArray, List.getElem_cons_zero, List.getElem_cons_succ, List.setIfInBounds_toArray, List.set_cons_zero, List.set_cons_succ]
      refine wpAnyH_take (i := 9) (v := ?_) rfl (by kernel_rfl) (by kernel_rfl) (by kernel_rfl) (fun _ _ _ h => h) (Or.inl ⟨by rfl, ?_⟩) (by assumption) ?_
      rotate_left
      · intro w hSw
        (try dsimp only at hSw)
        go_simp
        try with_reducible rfl
      try simp only [Go.Act.put, List.getElem_toArray, List.getElem_cons_zero, List.getElem_cons_succ, List.setIfInBounds_toArray, List.set_cons_zero, List.set_cons_succ]
      refine wpAnyH_take (i := 10) (v := ?_) rfl (by kernel_rfl) (by kernel_rfl) (by kernel_rfl) (fun _ _ _ h => h) (Or.inl ⟨by rfl, ?_⟩) (by assumption) ?_
      rotate_left
      · intro w hSw
        (try dsimp only at hSw)
        go_simp
        try with_reducible rfl
      try simp only [Go.Act.put, List.getElem_toArray, List.getElem_cons_zero, List.getElem_cons_succ, List.setIfInBounds_toArray, List.set_cons_zero, List.set_cons_succ]
      refine wpAnyH_take (i := 11) (v := ?_) rfl (by kernel_rfl) (by kernel_rfl) (by kernel_rfl) (fun _ _ _ h => h) (Or.inl ⟨by rfl, ?_⟩) (by assumption) ?_
      rotate_left
      · intro w hSw
        (try dsimp only at hSw)
        go_simp
        try with_reducible rfl
      try simp only [Go.Act.put, List.getElem_toArray, List.getElem_cons_zero, List.getElem_cons_succ, List.setIfInBounds_toArray, List.set_cons_zero, List.set_cons_succ]
      refine wpAnyH_ready (rs := [1, 4]) (by kernel_rfl) (by simp) ?_
      refine AllReadyH.cons rfl (fun K hK => ?_) (AllReadyH.cons rfl (fun K hK => ?_) AllReadyH.nil)
      · go_simp
        refine hK.out _ _ ?_ (fun hHeld => ?_)
        · (try dsimp only)
          try trivial
        clear hK K
        try simp only [Go.Act.put, List.getElem_toArray, List.getElem_cons_zero, List.getElem_cons_succ, List.setIfInBounds_toArray, List.set_cons_zero, List.set_cons_succ]
        refine wpAnyH_ready (rs := [4]) (by kernel_rfl) (by simp) ?_
        refine AllReadyH.cons rfl (fun K hK => ?_) AllReadyH.nil
        go_simp
        (go_at_call 8; refine (HPR.out _).mono ?_; rintro x w5 ⟨rfl, rfl⟩)
        go_wp2_with fail
        refine hK.out _ _ ?_ (fun hHeld => ?_)
        · (try dsimp only)
          try trivial
        clear hK K
        try simp only [Go.Act.put, List.getElem_toArray, List.getElem_cons_zero, List.getElem_cons_succ, List.setIfInBounds_toArray, List.set_cons_zero, List.set_cons_succ]
        refine wpAnyH_take (i := 5) (v := ?_) rfl (by kernel_rfl) (by kernel_rfl) (by kernel_rfl) (fun _ _ _ h => h) (Or.inl ⟨by rfl, ?_⟩) (by assumption) ?_
        rotate_left
        · intro w hSw
          (try dsimp only at hSw)
          go_simp
          try with_reducible rfl
        try simp only [Go.Act.put, List.getElem_toArray, List.getElem_cons_zero, List.getElem_cons_succ, List.setIfInBounds_toArray, List.set_cons_zero, List.set_cons_succ]
        refine wpAnyH_take (i := 12) (v := ?_) rfl (by kernel_rfl) (by kernel_rfl) (by kernel_rfl) (fun _ _ _ h => h) (Or.inl ⟨by rfl, ?_⟩) (by assumption) ?_
        rotate_left
        · intro w hSw
          (try dsimp only at hSw)
          go_simp
          try with_reducible rfl
        try simp only [Go.Act.put, List.getElem_toArray, List.getElem_cons_zero, List.getElem_cons_succ, List.setIfInBounds_toArray, List.set_cons_zero, List.set_cons_succ]
        refine wpAnyH_ready (rs := [13]) (by kernel_rfl) (by simp) ?_
        refine AllReadyH.cons rfl (fun K hK => ?_) AllReadyH.nil
        go_simp
        refine hK.out _ _ ?_ (fun hHeld => ?_)
        · (try dsimp only)
          try trivial
        clear hK K
        try simp only [Go.Act.put, List.getElem_toArray, List.getElem_cons_zero, List.getElem_cons_succ, List.setIfInBounds_toArray, List.set_cons_zero, List.set_cons_succ]
        refine wpAnyH_ready (rs := [14]) (by kernel_rfl) (by simp) ?_
        refine AllReadyH.cons rfl (fun K hK => ?_) AllReadyH.nil
        refine step_append_own rfl (.tmp 25) (.tmp 37) 25 rfl w.heap.size 34 i0 (.agg #[.string ⟨#[]⟩, .int .u64 0, .int .u64 0, .int .u8 0]) 4 40 Try.underlying25 HI.out.1 HI.out.2.1 HI.out.2.2.1 HI.out.2.2.2 rfl (by decide) _ _ _ rfl (own_ext HRU.out (((Ext.refl wr).alloc _).drew)) ⟨wr.heap.size, 0, none⟩ 1 1 [.string (⟨#[107]⟩ ++ digStr k), .int .u64 E, .int .u64 1, .int .u8 kn] rfl rfl (blk_news (C := #[.string (⟨#[107]⟩ ++ digStr k), .int .u64 E, .int .u64 1, .int .u8 kn]) (Blk.drew (Blk.new wr _ _))) (by simp [Value.oneCell']) HL1.out HL2.out HL3.out ?_
        rintro v12 w12 hown12 hgrow12
        obtain ⟨g12, cap12, rfl⟩ := ownsRow_succ hown12
        have hP12 := Blk.grownNe ((HP.out.alloc (.cells #[.string (⟨#[107]⟩ ++ digStr k), .int .u64 E, .int .u64 1, .int .u8 kn] 34)).drew) hgrow12 (own_ext HRU.out (((Ext.refl wr).alloc _).drew)) (by decide)
        have cP12 : w12.cell? ⟨w.heap.size + 1, 1, none⟩ = some (.slice va (k + 1) vc) := hP12.cell 1
        have fP12 := hP12.free 1
        have lP12 := hP12.lt
        have hx12 : Ext w w12 := Ext.grownAt ((HX.out.alloc (.cells #[.string (⟨#[107]⟩ ++ digStr k), .int .u64 E, .int .u64 1, .int .u8 kn] 34)).drew) (own_ext HRU.out (((Ext.refl wr).alloc _).drew)) (Nat.le_refl _) hgrow12
        have HFIN := Lib.hid (most_next (w := w) hown12 hP12 hx12)
        refine hK.out _ _ ?_ (fun hHeld => ?_)
        · (try dsimp only)
          try trivial
        clear hK K
        try simp only [Go.Act.put, List.getElem_toArray, List.getElem_cons_zero, List.getElem_cons_succ, List.setIfInBounds_toArray, List.set_cons_zero, List.set_cons_succ]
        refine wpAnyH_take (i := 15) (v := ?_) rfl (by kernel_rfl) (by kernel_rfl) (by kernel_rfl) (fun _ _ _ h => h) (Or.inl ⟨by rfl, ?_⟩) (by assumption) ?_
        rotate_left
        · intro w hSw
          (try dsimp only at hSw)
          go_simp
          try with_reducible rfl
        try simp only [Go.Act.put, List.getElem_toArray, List.getElem_cons_zero, List.getElem_cons_succ, List.setIfInBounds_toArray, List.set_cons_zero, List.set_cons_succ]
        refine wpAnyH_ready (rs := [16]) (by kernel_rfl) (by simp) ?_
        refine AllReadyH.cons rfl (fun K hK => ?_) AllReadyH.nil
        go_simp
        refine hK.out _ _ ?_ (fun hHeld => ?_)
        · (try dsimp only)
          try trivial
        clear hK K
        try simp only [Go.Act.put, List.getElem_toArray, List.getElem_cons_zero, List.getElem_cons_succ, List.setIfInBounds_toArray, List.set_cons_zero, List.set_cons_succ]
        refine wpAnyH_done (by kernel_rfl) ?_ _
        go_wp2
        go_roundw
        case rel => exact ⟨k + 1, _, by omega, by go_num, HFIN.out.1, HFIN.out.2.1, HFIN.out.2.2⟩
        case measure => simp [intOf]; omega
      · go_simp
        (go_at_call 8; refine (HPR.out _).mono ?_; rintro x w5 ⟨rfl, rfl⟩)
        go_wp2_with fail
        refine hK.out _ _ ?_ (fun hHeld => ?_)
        · (try dsimp only)
          try trivial
        clear hK K
        try simp only [Go.Act.put, List.getElem_toArray, List.getElem_cons_zero, List.getElem_cons_succ, List.setIfInBounds_toArray, List.set_cons_zero, List.set_cons_succ]
        refine wpAnyH_take (i := 5) (v := ?_) rfl (by kernel_rfl) (by kernel_rfl) (by kernel_rfl) (fun _ _ _ h => h) (Or.inl ⟨by rfl, ?_⟩) (by assumption) ?_
        rotate_left
        · intro w hSw
          (try dsimp only at hSw)
          go_simp
          try with_reducible rfl
        try simp only [Go.Act.put, List.getElem_toArray, List.getElem_cons_zero, List.getElem_cons_succ, List.setIfInBounds_toArray, List.set_cons_zero, List.set_cons_succ]
        refine wpAnyH_take (i := 12) (v := ?_) rfl (by kernel_rfl) (by kernel_rfl) (by kernel_rfl) (fun _ _ _ h => h) (Or.inl ⟨by rfl, ?_⟩) (by assumption) ?_
        rotate_left
        · intro w hSw
          (try dsimp only at hSw)
          go_simp
          try with_reducible rfl
        try simp only [Go.Act.put, List.getElem_toArray, List.getElem_cons_zero, List.getElem_cons_succ, List.setIfInBounds_toArray, List.set_cons_zero, List.set_cons_succ]
        refine wpAnyH_ready (rs := [1, 13]) (by kernel_rfl) (by simp) ?_
        refine AllReadyH.cons rfl (fun K hK => ?_) (AllReadyH.cons rfl (fun K hK => ?_) AllReadyH.nil)
        · go_simp
          refine hK.out _ _ ?_ (fun hHeld => ?_)
          · (try dsimp only)
            try trivial
          clear hK K
          try simp only [Go.Act.put, List.getElem_toArray, List.getElem_cons_zero, List.getElem_cons_succ, List.setIfInBounds_toArray, List.set_cons_zero, List.set_cons_succ]
          refine wpAnyH_ready (rs := [13]) (by kernel_rfl) (by simp) ?_
          refine AllReadyH.cons rfl (fun K hK => ?_) AllReadyH.nil
          go_simp
          refine hK.out _ _ ?_ (fun hHeld => ?_)
          · (try dsimp only)
            try trivial
          clear hK K
          try simp only [Go.Act.put, List.getElem_toArray, List.getElem_cons_zero, List.getElem_cons_succ, List.setIfInBounds_toArray, List.set_cons_zero, List.set_cons_succ]
          refine wpAnyH_ready (rs := [14]) (by kernel_rfl) (by simp) ?_
          refine AllReadyH.cons rfl (fun K hK => ?_) AllReadyH.nil
          refine step_append_own rfl (.tmp 25) (.tmp 37) 25 rfl w.heap.size 34 i0 (.agg #[.string ⟨#[]⟩, .int .u64 0, .int .u64 0, .int .u8 0]) 4 40 Try.underlying25 HI.out.1 HI.out.2.1 HI.out.2.2.1 HI.out.2.2.2 rfl (by decide) _ _ _ rfl (own_ext HRU.out (((Ext.refl wr).alloc _).drew)) ⟨wr.heap.size, 0, none⟩ 1 1 [.string (⟨#[107]⟩ ++ digStr k), .int .u64 E, .int .u64 1, .int .u8 kn] rfl rfl (blk_news (C := #[.string (⟨#[107]⟩ ++ digStr k), .int .u64 E, .int .u64 1, .int .u8 kn]) (Blk.drew (Blk.new wr _ _))) (by simp [Value.oneCell']) HL1.out HL2.out HL3.out ?_
          rintro v12 w12 hown12 hgrow12
          obtain ⟨g12, cap12, rfl⟩ := ownsRow_succ hown12
          have hP12 := Blk.grownNe ((HP.out.alloc (.cells #[.string (⟨#[107]⟩ ++ digStr k), .int .u64 E, .int .u64 1, .int .u8 kn] 34)).drew) hgrow12 (own_ext HRU.out (((Ext.refl wr).alloc _).drew)) (by decide)
          have cP12 : w12.cell? ⟨w.heap.size + 1, 1, none⟩ = some (.slice va (k + 1) vc) := hP12.cell 1
          have fP12 := hP12.free 1
          have lP12 := hP12.lt
          have hx12 : Ext w w12 := Ext.grownAt ((HX.out.alloc (.cells #[.string (⟨#[107]⟩ ++ digStr k), .int .u64 E, .int .u64 1, .int .u8 kn] 34)).drew) (own_ext HRU.out (((Ext.refl wr).alloc _).drew)) (Nat.le_refl _) hgrow12
          have HFIN := Lib.hid (most_next (w := w) hown12 hP12 hx12)
          refine hK.out _ _ ?_ (fun hHeld => ?_)
          · (try dsimp only)
            try trivial
          clear hK K
          try simp only [Go.Act.put, List.getElem_toArray, List.getElem_cons_zero, List.getElem_cons_succ, List.setIfInBounds_toArray, List.set_cons_zero, List.set_cons_succ]
          refine wpAnyH_take (i := 15) (v := ?_) rfl (by kernel_rfl) (by kernel_rfl) (by kernel_rfl) (fun _ _ _ h => h) (Or.inl ⟨by rfl, ?_⟩) (by assumption) ?_
          rotate_left
          · intro w hSw
            (try dsimp only at hSw)
            go_simp
            try with_reducible rfl
          try simp only [Go.Act.put, List.getElem_toArray, List.getElem_cons_zero, List.getElem_cons_succ, List.setIfInBounds_toArray, List.set_cons_zero, List.set_cons_succ]
          refine wpAnyH_ready (rs := [16]) (by kernel_rfl) (by simp) ?_
          refine AllReadyH.cons rfl (fun K hK => ?_) AllReadyH.nil
          go_simp
          refine hK.out _ _ ?_ (fun hHeld => ?_)
          · (try dsimp only)
            try trivial
          clear hK K
          try simp only [Go.Act.put, List.getElem_toArray, List.getElem_cons_zero, List.getElem_cons_succ, List.setIfInBounds_toArray, List.set_cons_zero, List.set_cons_succ]
          refine wpAnyH_done (by kernel_rfl) ?_ _
          go_wp2
          go_roundw
          case rel => exact ⟨k + 1, _, by omega, by go_num, HFIN.out.1, HFIN.out.2.1, HFIN.out.2.2⟩
          case measure => simp [intOf]; omega
        · go_simp
          refine hK.out _ _ ?_ (fun hHeld => ?_)
          · (try dsimp only)
            try trivial
          clear hK K
          try simp only [Go.Act.put, List.getElem_toArray, List.getElem_cons_zero, List.getElem_cons_succ, List.setIfInBounds_toArray, List.set_cons_zero, List.set_cons_succ]
          refine wpAnyH_ready (rs := [1]) (by kernel_rfl) (by simp) ?_
          refine AllReadyH.cons rfl (fun K hK => ?_) AllReadyH.nil
          go_simp
          refine hK.out _ _ ?_ (fun hHeld => ?_)
          · (try dsimp only)
            try trivial
          clear hK K
          try simp only [Go.Act.put, List.getElem_toArray, List.getElem_cons_zero, List.getElem_cons_succ, List.setIfInBounds_toArray, List.set_cons_zero, List.set_cons_succ]
          refine wpAnyH_ready (rs := [14]) (by kernel_rfl) (by simp) ?_
          refine AllReadyH.cons rfl (fun K hK => ?_) AllReadyH.nil
          refine step_append_own rfl (.tmp 25) (.tmp 37) 25 rfl w.heap.size 34 i0 (.agg #[.string ⟨#[]⟩, .int .u64 0, .int .u64 0, .int .u8 0]) 4 40 Try.underlying25 HI.out.1 HI.out.2.1 HI.out.2.2.1 HI.out.2.2.2 rfl (by decide) _ _ _ rfl (own_ext HRU.out (((Ext.refl wr).alloc _).drew)) ⟨wr.heap.size, 0, none⟩ 1 1 [.string (⟨#[107]⟩ ++ digStr k), .int .u64 E, .int .u64 1, .int .u8 kn] rfl rfl (blk_news (C := #[.string (⟨#[107]⟩ ++ digStr k), .int .u64 E, .int .u64 1, .int .u8 kn]) (Blk.drew (Blk.new wr _ _))) (by simp [Value.oneCell']) HL1.out HL2.out HL3.out ?_
          rintro v12 w12 hown12 hgrow12
          obtain ⟨g12, cap12, rfl⟩ := ownsRow_succ hown12
          have hP12 := Blk.grownNe ((HP.out.alloc (.cells #[.string (⟨#[107]⟩ ++ digStr k), .int .u64 E, .int .u64 1, .int .u8 kn] 34)).drew) hgrow12 (own_ext HRU.out (((Ext.refl wr).alloc _).drew)) (by decide)
          have cP12 : w12.cell? ⟨w.heap.size + 1, 1, none⟩ = some (.slice va (k + 1) vc) := hP12.cell 1
          have fP12 := hP12.free 1
          have lP12 := hP12.lt
          have hx12 : Ext w w12 := Ext.grownAt ((HX.out.alloc (.cells #[.string (⟨#[107]⟩ ++ digStr k), .int .u64 E, .int .u64 1, .int .u8 kn] 34)).drew) (own_ext HRU.out (((Ext.refl wr).alloc _).drew)) (Nat.le_refl _) hgrow12
          have HFIN := Lib.hid (most_next (w := w) hown12 hP12 hx12)
          refine hK.out _ _ ?_ (fun hHeld => ?_)
          · (try dsimp only)
            try trivial
          clear hK K
          try simp only [Go.Act.put, List.getElem_toArray, List.getElem_cons_zero, List.getElem_cons_succ, List.setIfInBounds_toArray, List.set_cons_zero, List.set_cons_succ]
          refine wpAnyH_take (i := 15) (v := ?_) rfl (by kernel_rfl) (by kernel_rfl) (by kernel_rfl) (fun _ _ _ h => h) (Or.inl ⟨by rfl, ?_⟩) (by assumption) ?_
          rotate_left
          · intro w hSw
            (try dsimp only at hSw)
            go_simp
            try with_reducible rfl
          try simp only [Go.Act.put, List.getElem_toArray, List.getElem_cons_zero, List.getElem_cons_succ, List.setIfInBounds_toArray, List.set_cons_zero, List.set_cons_succ]
          refine wpAnyH_ready (rs := [16]) (by kernel_rfl) (by simp) ?_
          refine AllReadyH.cons rfl (fun K hK => ?_) AllReadyH.nil
          go_simp
          refine hK.out _ _ ?_ (fun hHeld => ?_)
          · (try dsimp only)
            try trivial
          clear hK K
          try simp only [Go.Act.put, List.getElem_toArray, List.getElem_cons_zero, List.getElem_cons_succ, List.setIfInBounds_toArray, List.set_cons_zero, List.set_cons_succ]
          refine wpAnyH_done (by kernel_rfl) ?_ _
          go_wp2
          go_roundw
          case rel => exact ⟨k + 1, _, by omega, by go_num, HFIN.out.1, HFIN.out.2.1, HFIN.out.2.2⟩
          case measure => simp [intOf]; omega
--NEG
    · have hk9 : k = 999 := by omega
      subst hk9
      obtain ⟨wk, hwk⟩ : ∃ wk, wk = wr := ⟨_, rfl⟩
      subst hwk
      have hpol := mostRs_pol hE0 hE1 hK0 hK1
      obtain ⟨hall, -⟩ := mostRs_ok hE0 hE1 hK0 hK1 (n := 999) (by omega)
      have HP0 := Lib.hid (parse_print hpol)
      have HMORE := Lib.hid (most_more hE0 hE1 hK0 hK1)
      have HCFG := Lib.hid (most_cfg (E := E) (K := kn))
      have HML := Lib.hid (mostRs_len E kn 999)
      have HALL := Lib.hid hall
      have hsm : (prText 5 (mostRs E kn 999)).length ≤ 400000 := by
        have h1 := lines_small 5 (by decide) (by decide) _ hpol.ord.ok hpol.ord.err
        have h2 := hpol.ord.len
        show (joinText _).length ≤ _
        unfold prLines
        omega
      have HSM := Lib.hid hsm
      have c0 : wk.cell? ⟨w.heap.size + 1, 0, none⟩ = some (.int .i64 5) := HP.out.cell 0
      have HRAT : Hid (RulesAt wk (.slice va 1000 vc) (mostRs E kn 999)) := Lib.hid (RuleOwn.at (base := w.heap.size) (by
        show World.ownsRow _ _ _ _ _ (mostRs E kn 999).length _
        rw [mostRs_len]
        exact HRU.out))
      have HPR := Lib.hid (config_Print_okT 5 (.slice va 1000 vc) (mostRs E kn 999) wk (by decide) (by decide) HRAT.out (fun r hr => (hall r hr).1) (by rw [mostRs_len]; decide) hpol.cfg)
      have hol : (ordL Rl.key (mostRs E kn 999)).length = 1000 := by rw [ordL_len, mostRs_len]
      have HOL := Lib.hid hol
      generalize hT : prText 5 (mostRs E kn 999) = T at *
      generalize hO : ordL Rl.key (mostRs E kn 999) = O at *
      clear hT hO hpol hall hsm hol
      go_wp2_with fail
      refine HPR.out.mono ?_
      rintro x w2 ⟨tv, rfl, htl, hx2⟩
      have hts := htl.slice
      have HTL := Lib.hid htl
      obtain ⟨g0, tcap, rfl, hg1, hg2, -⟩ := htl
      have HX2 := Lib.hid hx2
      have hsz2 := hx2.sz
      clear hx2
      go_wp2_with fail
      refine (config_Parse _ T w2 hts.1 hts.2).mono ?_
      intro x w3 h3
      obtain ⟨v3, rfl, ho3, hx3⟩ := h3.open HP0.out
      obtain ⟨a3, c3, rfl⟩ := (RuleOwn.at ho3).size
      have HX3 := Lib.hid (HX2.out.trans hx3)
      have HTL3 := Lib.hid (HTL.out.ext hx3)
      have hsz3 := hx3.sz
      rw [HOL.out]
      clear h3 ho3 hx3 hts HTL
      go_upto_region 8 with fail
      have bQ := (Blk.new w3 #[.int .i64 5, .slice a3 1000 c3] 27).alloc (.cells #[.int .i64 0, .int .i64 0] 37)
      have hxq : Ext w3 ((w3.alloc (.cells #[.int .i64 5, .slice a3 1000 c3] 27)).alloc (.cells #[.int .i64 0, .int .i64 0] 37)) := ((Ext.refl w3).alloc _).alloc _
      generalize (w3.alloc (.cells #[.int .i64 5, .slice a3 1000 c3] 27)).alloc (.cells #[.int .i64 0, .int .i64 0] 37) = wq at *
      have HBQ := Lib.hid bQ
      have HXQ := Lib.hid hxq
      have hszq := hxq.sz
      have kc : ∀ (w : World) (C : Array Value) (n c b : Nat), b = w.heap.size → (convert 24 24 (.slice (some ⟨b, 0, none⟩) n c)).run Try.prog (w.alloc (.cells C 5)) = .ok (.slice (some ⟨b, 0, none⟩) n c) (w.alloc (.cells C 5 (C.size, C.size + 1))) := fun w C n c b h => by
        subst h
        exact Lib.run_convert_bytes_const (P := Try.prog) w 24 5 C n c Try.underlying24 Try.underlying5
      obtain ⟨zt, hzt⟩ : ∃ zt, joinL (plW zRule) = zt := ⟨_, rfl⟩
      have hzl := z_text
      rw [hzt] at hzl HMORE
      clear bQ hxq
      go_upto_region 9 with fail
      have hsx : Ext wq (wq.alloc (.cells #[.int .u8 114, .int .u8 117, .int .u8 108, .int .u8 101, .int .u8 32, .int .u8 122, .int .u8 32, .int .u8 49, .int .u8 32, .int .u8 49, .int .u8 32, .int .u8 103, .int .u8 99, .int .u8 114, .int .u8 97] 5 (15, 16))) := (Ext.refl wq).alloc _
      have hzb : ByteSlice (wq.alloc (.cells #[.int .u8 114, .int .u8 117, .int .u8 108, .int .u8 101, .int .u8 32, .int .u8 122, .int .u8 32, .int .u8 49, .int .u8 32, .int .u8 49, .int .u8 32, .int .u8 103, .int .u8 99, .int .u8 114, .int .u8 97] 5 (15, 16))) (.slice (some ⟨wq.heap.size, 0, none⟩) 15 15) zt := bytes_lit wq _ _ zt (by rw [hzl]; rfl) (by rw [hzl]; decide) (by rw [hzl]; rfl)
      have hzl2 : zt.length = 15 := by rw [hzl]; rfl
      have hsz4 : wq.heap.size < (wq.alloc (.cells #[.int .u8 114, .int .u8 117, .int .u8 108, .int .u8 101, .int .u8 32, .int .u8 122, .int .u8 32, .int .u8 49, .int .u8 32, .int .u8 49, .int .u8 32, .int .u8 103, .int .u8 99, .int .u8 114, .int .u8 97] 5 (15, 16))).heap.size := by simp
      generalize wq.alloc (.cells #[.int .u8 114, .int .u8 117, .int .u8 108, .int .u8 101, .int .u8 32, .int .u8 122, .int .u8 32, .int .u8 49, .int .u8 32, .int .u8 49, .int .u8 32, .int .u8 103, .int .u8 99, .int .u8 114, .int .u8 97] 5 (15, 16)) = wS at *
      have HXS := Lib.hid ((HX3.out.trans HXQ.out).trans hsx)
      have HBS := Lib.hid (HBQ.out.ext hsx)
      have HTS := Lib.hid ((HTL3.out.ext HXQ.out).ext hsx)
      have HZB := Lib.hid hzb
      clear hsx hzb hzl hzt kc HXQ HBQ HTL3 HX3 HX2
      have HZL := Lib.hid hzl2
      have HWK : Hid (wk.heap.size ≤ wS.heap.size) := Lib.hid (by omega)
      clear hzl2
      go_wp2_with fail
      go_loopw [7, 54] (fun tv i wz => ∃ j : Nat, j ≤ 15 ∧ i = .int .i64 j ∧ TailB wk.heap.size wz tv (T ++ zt.take j) ∧ OwnOr g0 wS.heap.size tv ∧ ExtB g0 wS wz) (fun _ i _ => 15 - (intOf i).toNat)
      case atStart => exact ⟨0, by omega, rfl, by simpa using HTS.out, Or.inl rfl, ExtB.refl _ _⟩
      case round =>
        obtain ⟨j, hj, rfl, htl, how, hxz⟩ := hrel
        have HTLJ := Lib.hid htl
        have HOW := Lib.hid how
        have HXZ := Lib.hid hxz
        have hszz := hxz.size
        have hzl2 := HZL.out
        obtain ⟨hts, htc⟩ := htl.slice
        obtain ⟨za, zc, rfl⟩ : ∃ za zc, u7 = .slice za (T ++ zt.take j).length zc := by
          obtain ⟨g, cap, e, -⟩ := htl
          exact ⟨_, _, e⟩
        have htlen : (T ++ zt.take j).length = T.length + j := by rw [List.length_append, List.length_take]; omega
        have HTLEN := Lib.hid htlen
        clear htl how hxz
        by_cases hlt : j < 15
        · have hj15 : (j : Int) < 15 := by omega
          have hcell : wr.cell? ⟨wq.heap.size, j, none⟩ = some (.int .u8 ((zt[j]'(by omega)).toNat : Int)) := by
            obtain ⟨-, q⟩ := bytes_form HZB.out
            have h1 := q j (by omega)
            rw [Nat.zero_add] at h1
            rw [← h1]
            exact World.cell?_of_block (a := ⟨wq.heap.size, j, none⟩) (HXZ.out.block wq.heap.size (by omega) (by omega))
          have HTK : Hid (T ++ zt.take (j + 1) = (T ++ zt.take j) ++ [zt[j]'(by omega)]) := Lib.hid (by rw [List.take_succ_eq_append_getElem (by omega), List.append_assoc])
          generalize (zt[j]'(by omega)) = y at *
          have hT := HSM.out
          have hszw := HWK.out
          clear hts htc htlen
          go_wp2_with (first
            | (at_builtin; refine wpList_append_tail rfl (.tmp 58) (.tmp 60) 24 rfl 5 i1 Try.underlying24 HI1.out.1 HI1.out.2.1 HI1.out.2.2.1 HI1.out.2.2.2 rfl (HTLJ.out.ext ((Ext.refl wr).alloc _)) ⟨wr.heap.size, 0, none⟩ 1 y rfl (Blk.cell (Blk.new wr #[.int .u8 (y.toNat : Int)] 5) 0) (by simp; omega) (by have := HTLEN.out; omega) ?_; rintro v6 w6 htl6 hgrow how6)
            | fail)
          have hx6 := HXZ.out.tail HOW.out _ hgrow
          have how7 := HOW.out.step how6 (by simp; omega)
          clear hgrow how6
          go_wp2
          go_roundw
          case rel => exact ⟨j + 1, by omega, by go_num, by rw [HTK.out]; exact htl6, how7, hx6⟩
          case measure => simp [intOf]; omega
        · have hj15 : j = 15 := by omega
          subst hj15
          have htz : zt.take 15 = zt := List.take_of_length_le (by omega)
          rw [htz] at hts htc
          have HWR := Lib.hid ((HXS.out).own HXZ.out hg1)
          have HXR := Lib.hid (HX.out.trans HWR.out)
          have HBZ := Lib.hid (HBS.out.extB HXZ.out (by omega))
          have HTZ := Lib.hid htz
          clear htlen htz
          rw [HTZ.out]
          have HPA := Lib.hid (config_Parse _ (T ++ zt) wr hts htc)
          clear hts htc
          generalize (T ++ zt).length = N at *
          go_wp2_with fail
          refine HPA.out.mono ?_
          intro x w5 h5
          obtain ⟨v5, rfl, ho5, hx5⟩ := h5.open HMORE.out
          obtain ⟨a5, c5, rfl⟩ := (RuleOwn.at ho5).size
          have HX5 := Lib.hid hx5
          have hsz5 := hx5.sz
          clear h5 ho5 hx5
          go_upto_region 14 with fail
          have bA := Blk.new' (w5.alloc (.cells #[.int .i64 0, .slice a5 0 c5] 27)) #[.int .i64 1002, .int .i64 1] 37 (b := w5.heap.size + 1) (by simp)
          have hxa : Ext w5 ((w5.alloc (.cells #[.int .i64 0, .slice a5 0 c5] 27)).alloc (.cells #[.int .i64 1002, .int .i64 1] 37)) := ((Ext.refl w5).alloc _).alloc _
          generalize (w5.alloc (.cells #[.int .i64 0, .slice a5 0 c5] 27)).alloc (.cells #[.int .i64 1002, .int .i64 1] 37) = w6 at *
          have HX6 := Lib.hid (HX5.out.trans hxa)
          have HBA := Lib.hid bA
          have hP6 := (HP.out.ext HWR.out).ext HX6.out
          have cP6 : w6.cell? ⟨w.heap.size + 1, 1, none⟩ = some (.slice va 1000 vc) := hP6.cell 1
          have HP6 := Lib.hid hP6
          have HB6 := Lib.hid (HBZ.out.ext HX6.out)
          have HRU6 := Lib.hid (own_ext (own_ext HRU.out HWR.out) HX6.out)
          have hx6 := HXR.out.trans HX6.out
          have HXF := Lib.hid hx6
          have hsz6 := hx6.sz
          clear bA hxa hP6 hx6
          go_upto_region 15 with (first
            | (at_builtin; refine wpList_append_own _ rfl (.tmp 70) (.tmp 72) 25 rfl w.heap.size 34 i0 (.agg #[.string ⟨#[]⟩, .int .u64 0, .int .u64 0, .int .u8 0]) 4 40 Try.underlying25 HI.out.1 HI.out.2.1 HI.out.2.2.1 HI.out.2.2.2 rfl (by decide) _ _ _ rfl (HRU6.out.alloc _) ⟨w6.heap.size, 0, none⟩ 1 1 [.string ⟨#[122]⟩, .int .u64 1, .int .u64 1, .int .u8 1] rfl rfl (blk_news (C := #[.string ⟨#[122]⟩, .int .u64 1, .int .u64 1, .int .u8 1]) (Blk.new _ _ _)) (by simp [Value.oneCell']) (by decide) (by decide) (by simp; omega) ?_; rintro v7 w7 hown hgrow -; obtain ⟨g7, cap7, rfl⟩ := ownsRow_succ hown; have o7 := HRU6.out.alloc (.cells #[.string ⟨#[122]⟩, .int .u64 1, .int .u64 1, .int .u8 1] 34); have bP7 := Blk.grownNe (HP6.out.alloc (.cells #[.string ⟨#[122]⟩, .int .u64 1, .int .u64 1, .int .u8 1] 34)) hgrow o7 (by decide); have bQ7 := Blk.grownNe (HB6.out.alloc (.cells #[.string ⟨#[122]⟩, .int .u64 1, .int .u64 1, .int .u8 1] 34)) hgrow o7 (by decide); have bA7 := Blk.grownNe (HBA.out.alloc (.cells #[.string ⟨#[122]⟩, .int .u64 1, .int .u64 1, .int .u8 1] 34)) hgrow o7 (by decide); have hx7 := Ext.grownAt (HXF.out.alloc (.cells #[.string ⟨#[122]⟩, .int .u64 1, .int .u64 1, .int .u8 1] 34)) o7 (Nat.le_refl _) hgrow; have fP7 := bP7.free 1; have lP7 := bP7.lt; have cP7 := bP7.cell 1; have HOW7 := Lib.hid hown; have HP7 := Lib.hid bP7; have HQ7 := Lib.hid bQ7; have HA7 := Lib.hid bA7; have HX7 := Lib.hid hx7; clear hown hgrow o7 bP7 bQ7 bA7 hx7)
            | fail)
          have hrow8 := most_row (x := .slice (some ⟨g7, 0, none⟩) 1001 cap7) (z := zRule) (l := mostRs E kn 999) HML.out HOW7.out HP7.out
          have bP8 := HP7.out.set 1 (.slice (some ⟨g7, 0, none⟩) 1001 cap7)
          have bQ8 := HQ7.out.other (a := ⟨w.heap.size + 1, 1, none⟩) (by dsimp only; omega) (.slice (some ⟨g7, 0, none⟩) 1001 cap7)
          have bA8 := HA7.out.other (a := ⟨w.heap.size + 1, 1, none⟩) (by dsimp only; omega) (.slice (some ⟨g7, 0, none⟩) 1001 cap7)
          have hx8 := HX7.out.setCell (p := ⟨w.heap.size + 1, 1, none⟩) (by dsimp only; omega) (.slice (some ⟨g7, 0, none⟩) 1001 cap7)
          generalize w7.setCell ⟨w.heap.size + 1, 1, none⟩ (.slice (some ⟨g7, 0, none⟩) 1001 cap7) = w8 at *
          have HR8 := Lib.hid hrow8
          have HP8 := Lib.hid bP8
          have HQ8 := Lib.hid bQ8
          have HA8 := Lib.hid bA8
          have HX8 := Lib.hid hx8
          clear hrow8 bP8 bQ8 bA8 hx8 fP7 lP7 cP7
          have HZ : Hid (∀ r ∈ mostRs E kn 999 ++ [zRule], RlOk r) := Lib.hid (by
            intro r hr
            rcases List.mem_append.1 hr with hr | hr
            · exact (HALL.out r hr).1
            · rw [List.mem_singleton.1 hr]; exact z_ok.1)
          have HRI := Lib.hid (fun V (e : Ext w8 V) => config_Right 5 (.slice (some ⟨g7, 0, none⟩) 1001 cap7) (mostRs E kn 999 ++ [zRule]) V (by decide) (by decide) (HR8.out.ext Rl.size4 e) HZ.out (by rw [List.length_append, HML.out]; decide))
          rw [HCFG.out] at HRI
          go_wp2_with (first
            | (go_at_call 11; refine (law12_known _).mono ?_; rintro x w9 ⟨rfl, hx9⟩; have q0 : w9.cell? ⟨w3.heap.size, 1, none⟩ = some (.slice a3 1000 c3) := (HQ8.out.ext hx9).cell 1; have q1 : w9.cell? ⟨w5.heap.size + 1, 0, none⟩ = some (.int .i64 1002) := (HA8.out.ext hx9).cell 0; have q2 : w9.cell? ⟨w5.heap.size + 1, 1, none⟩ = some (.int .i64 1) := (HA8.out.ext hx9).cell 1; have q3 : w9.cell? ⟨w.heap.size + 1, 0, none⟩ = some (.int .i64 5) := (HP8.out.ext hx9).cell 0; have q4 : w9.cell? ⟨w.heap.size + 1, 1, none⟩ = some (.slice (some ⟨g7, 0, none⟩) 1001 cap7) := (HP8.out.ext hx9).cell 1; have HX9 := Lib.hid hx9; clear hx9)
            | (go_at_call 15; refine (HRI.out _ HX9.out).mono ?_; rintro x w10 ⟨rfl, hx10⟩)
            | fail)
          go_ret
          exact ⟨rfl, HX8.out.trans (HX9.out.trans hx10)⟩
end Go.Proofs.Ytknlojlcahgnoaa

/- Walk: tollerlaw12.ConfigBlanks. -/
namespace Go.Proofs.Ytknlojlcahgnoaa
open Go.RowKit
set_option linter.unusedVariables false
set_option linter.unusedSimpArgs false

/-- bytes that grow in a row of the call's own -/
abbrev BytesOwn (base : Nat) (w : World) (v : Value) (l : List UInt8) : Prop := w.ownsRow base 5 1 v l.length (byteV l)
theorem byteV_app (a b : List UInt8) : byteV (a ++ b) = byteV a ++ byteV b := by simp [byteV]
theorem bytesOwn_snoc {base : Nat} {w : World} {v : Value} {l : List UInt8} {b : UInt8} (h : w.ownsRow base 5 1 v (l.length + 1) (byteV l ++ [.int .u8 (b.toNat : Int)])) : BytesOwn base w v (l ++ [b]) := by
  show World.ownsRow _ _ _ _ _ (l ++ [b]).length _
  rw [List.length_append, byteV_app]
  exact h
set_option maxHeartbeats 4000000 in
set_option maxRecDepth 100000 in
theorem law12_ConfigBlanks (n : Int) (v : Value) (l : List Nms) (cv : Value) (c : List UInt8) (w : World) (hn0 : 0 ≤ n) (hn1 : n < 65536) (hv : NmsSlice w v l) (hc : ByteSlice w cv c) :
    Calls Try.prog 3 #[.int .u16 n, v, cv] w fun x w' => x = .returned (.bool true) ∧ Ext w w' := by
  have hall := hv
  obtain ⟨⟨va, vc, rfl, -⟩, -, heach⟩ := hv
  obtain ⟨hP, hlen, t0, ht0⟩ := polRs_ok hn0 l heach
  have HP := Lib.hid hP
  have HPO := Lib.hid (law12_Policy n _ l w hn0 hn1 hall)
  obtain ⟨rs, hrs⟩ : ∃ rs, polRs n l = rs := ⟨_, rfl⟩
  rw [hrs] at HP HPO hlen
  obtain ⟨most, hmost⟩ : ∃ most, 1 + n % 50 = most := ⟨_, rfl⟩
  rw [hmost] at HP HPO
  have hm0 : 1 ≤ most := by omega
  have hm1 : most ≤ 50 := by omega
  obtain ⟨⟨ca, cc, rfl, hcl⟩, hcm⟩ := id hc
  have HC := Lib.hid hc
  have HCL := Lib.hid hcl
  obtain ⟨i1, hi, hz0, hz1, hz2⟩ := info_parts byte_info
  have HI1 := Lib.hid (And.intro hi (And.intro hz0 (And.intro hz1 hz2)))
  clear hi hz0 hz1 hz2 hP heach hall ht0 hc hcl
  have hclm : c.length ≤ 9223372036854775807 := by have : maxLen ≤ 9223372036854775807 := by decide
                                                   omega
  clear hcm
  go_enter Try.func3, Try.ntmps3
  go_wp2_with fail
  refine HPO.out.mono ?_
  rintro x w1 ⟨rv, rfl, hrow, hx1⟩
  have hat : RulesAt w1 rv rs := RuleRow.at hrow
  obtain ⟨ra, rc, rfl⟩ := hat.size
  have HAT := Lib.hid hat
  have HX1 := Lib.hid hx1
  clear hat hrow hx1 HPO
  go_upto_region 2 with fail
  have bP := Blk.new w1 #[.int .i64 most, .slice ra rs.length rc] 27
  have hxa : Ext w1 (w1.alloc (.cells #[.int .i64 most, .slice ra rs.length rc] 27)) := (Ext.refl w1).alloc _
  generalize w1.alloc (.cells #[.int .i64 most, .slice ra rs.length rc] 27) = wa at *
  have HBP := Lib.hid bP
  have HXA := Lib.hid (HX1.out.trans hxa)
  have HATA := Lib.hid (HAT.out.ext Rl.size4 hxa)
  clear bP hxa HAT HX1
  go_wp2_with fail
  go_loopw [8, 9] (fun tv i wr => ∃ (k : Nat), k ≤ rs.length + 1 ∧ i = .int .i64 k ∧ BytesOwn wa.heap.size wr tv (textB (lnsB most rs c k)) ∧ Ext wa wr) (fun _ i _ => rs.length + 1 - (intOf i).toNat)
  case atStart => exact ⟨0, by omega, rfl, World.ownsRow_nil _ _ _ _, Ext.refl _⟩
  case round =>
    obtain ⟨k, hk, rfl, hb, hx⟩ := hrel
    have HB := Lib.hid hb
    have HX := Lib.hid hx
    have cP0 : wr.cell? ⟨w1.heap.size, 0, none⟩ = some (.int .i64 most) := (HBP.out.ext hx).cell 0
    have cP1 : wr.cell? ⟨w1.heap.size, 1, none⟩ = some (.slice ra rs.length rc) := (HBP.out.ext hx).cell 1
    have hbase := hx.sz
    clear hb
    by_cases hlt : k < rs.length + 1
    · have hk1 : (k : Int) ≤ (rs.length : Int) := by omega
      obtain ⟨i, hi⟩ : ∃ i, idxB c rs.length k = i := ⟨_, rfl⟩
      have hil : i ≤ rs.length := by rw [← hi]; unfold idxB; split <;> omega
      have hHI := Lib.hid hi
      have HCB : Hid (0 < c.length → ∃ b o, ca = some ⟨b, o, none⟩ ∧ ∀ j (h : j < c.length), wr.cell? ⟨b, o + j, none⟩ = some (.int .u8 (c[j].toNat : Int))) := Lib.hid (fun h => by
        obtain ⟨b, o, e1, e2⟩ := HCL.out (List.length_pos_iff.1 h)
        exact ⟨b, o, e1, fun j hj => (HXA.out.trans HX.out).keep (e2 j hj)⟩)
      clear hx hi
      go_upto_region 7 with fail
      go_cut [38] from 29 to 38 (fun x38 wx => x38 = .bool (revB c) ∧ wx = wr)
      case first =>
        by_cases h0 : 0 < c.length
        · obtain ⟨cb, co, rfl, hcc⟩ := HCB.out h0
          have hc0 : wr.cell? ⟨cb, co, none⟩ = some (.int .u8 (c[0].toNat : Int)) := hcc 0 h0
          have h01 : (0 : Int) < (c.length : Int) := by omega
          have hrev : revB c = (decide ((c[0].toNat : Int) % 2 = 1)) := by
            unfold revB
            rw [List.getD_eq_getElem?_getD, List.getElem?_eq_getElem h0]
            simp only [h0, decide_true, Bool.true_and, Option.getD_some]
            apply decide_eq_decide.2
            omega
          have hul := c[0].toNat_lt
          have hul0 : (0 : Int) ≤ (c[0].toNat : Int) := by omega
          have hul1 : (c[0].toNat : Int) < 256 := by omega
          generalize (c[0].toNat : Int) = y at *
          have HREV := Lib.hid hrev
          clear hcc hul hrev
          go_wp2_with fail
          go_meet
          exact ⟨by rw [HREV.out]; congr 1, rfl⟩
        · have hrev : revB c = false := by unfold revB; simp [h0]
          have h01 : ¬ (0 : Int) < (c.length : Int) := by omega
          have HREV := Lib.hid hrev
          clear hrev
          go_wp2_with fail
          go_meet
          exact ⟨by rw [HREV.out], rfl⟩
      case rest =>
        obtain ⟨rfl, hw⟩ := hcut
        have hw' := hw.symm
        subst hw'
        clear hw
        go_upto_if 38 with fail
        go_cut [10] from 38 to 43 (fun x10 wx => x10 = .int .i64 i ∧ wx = wr)
        case first =>
          cases hrv : revB c with
          | true =>
            have he := hHI.out
            rw [idxB_yes hrv] at he
            have HE := Lib.hid (show (rs.length : Int) - (k : Int) = (i : Int) by omega)
            clear he
            go_wp2_with fail
            go_meet
            exact ⟨by rw [HE.out], rfl⟩
          | false =>
            have he := hHI.out
            rw [idxB_no hrv] at he
            have HE := Lib.hid (show (k : Int) = (i : Int) by omega)
            clear he
            go_wp2_with fail
            go_meet
            exact ⟨by rw [HE.out], rfl⟩
        case rest =>
        obtain ⟨rfl, hw⟩ := hcut
        have hw' := hw.symm
        subst hw'
        clear hw
        have hds := (dig_back most (by omega) (by omega)).2.2.1
        have hml : (1000000 : Nat) ≤ maxLen := by decide
        have HPR := Lib.hid (fun V => ref03_Print most V (by omega) (by omega))
        have hw1 : IntKind.u64.wrap most = most := by simp [IntKind.wrap, IntKind.signed, IntKind.bits]; omega
        have hs1 : (⟨#[115, 105, 122, 101, 32, 9]⟩ : ByteArray).size = 6 := rfl
        have hs2 : (⟨#[32]⟩ : ByteArray).size = 1 := rfl
        have ha1 : ∀ V, (Op.stringOp .add ⟨#[115, 105, 122, 101, 32, 9]⟩ (digStr most)).run Try.prog V = .ok (.string (⟨#[115, 105, 122, 101, 32, 9]⟩ ++ digStr most)) V := fun V => run_string_add_sum (P := Try.prog) (w := V) _ _ (by omega)
        have ha2 : ∀ V, (Op.stringOp .add (⟨#[115, 105, 122, 101, 32, 9]⟩ ++ digStr most) ⟨#[32]⟩).run Try.prog V = .ok (.string (bText (bodyB (sepS most)))) V := fun V => by
          rw [run_string_add_sum (P := Try.prog) (w := V) _ _ (by rw [ByteArray.size_append]; omega), size_body]
        have HSM := Lib.hid (fun j => wsB_len HP.out j)
        clear hs1 hs2 hds
        go_upto_region 10 with (first | (go_at_call 8; refine (HPR.out _).mono ?_; rintro x w2 ⟨rfl, rfl⟩) | fail)
        clear ha1 ha2 hw1 HPR
        go_upto_if 54 with fail
        go_cut [11] from 54 to 73 (fun x11 wx => x11 = .string (bText (bodyB (wsB most rs i))) ∧ Ext wr wx)
        case first =>
          by_cases hil2 : i < rs.length
          · have HWS := Lib.hid (wsB_rule (most := most) hil2)
            obtain ⟨b, o, rfl, hbl, hc⟩ := (HATA.out.ext Rl.size4 HX.out).cells Rl.size4 (by decide) i hil2
            have c0 : wr.cell? ⟨b, o + i * 4, none⟩ = some (.string rs[i].p) := hc 0 (by decide)
            have c1 : wr.cell? ⟨b, o + i * 4 + 1, none⟩ = some (.int .u64 rs[i].e) := hc 1 (by decide)
            have c2 : wr.cell? ⟨b, o + i * 4 + 2, none⟩ = some (.int .u64 rs[i].b) := hc 2 (by decide)
            have c3 : wr.cell? ⟨b, o + i * 4 + 3, none⟩ = some (.int .u8 rs[i].k) := hc 3 (by decide)
            have hok := HP.out.ok _ (List.getElem_mem hil2)
            obtain ⟨hz1, hz2⟩ := sizes_le hok (HP.out.err _ (List.getElem_mem hil2))
            obtain ⟨m, e0, e1, b0, b1, -, -⟩ := hok
            obtain ⟨r, hr⟩ : ∃ r, rs[i] = r := ⟨_, rfl⟩
            rw [hr] at c0 c1 c2 c3 m e0 e1 b0 b1 hz1 hz2 HWS
            have HPW := Lib.hid (fun V => ref11_Print r.p r.e r.b r.k V m e0 e1 b0 b1)
            have hpw : printWords r.p r.e r.b r.k = plW r := rfl
            rw [hpw] at HPW
            have hil3 : (i : Int) < (rs.length : Int) := by omega
            have hws0 : sepR r = (plW r).map fun s => (s, [32, 32]) := rfl
            rw [hws0] at HWS
            have hbl2 := HSM.out i
            rw [HWS.out] at hbl2
            have hwl : (plW r).length ≤ 5 := hz2
            have hsz : ∀ j (h : j < (plW r).length), (plW r)[j].size ≤ 300 := fun j h => by
              have := le_sum (List.mem_map.2 ⟨(plW r)[j], List.getElem_mem h, rfl⟩ : (plW r)[j].size ∈ (plW r).map (·.size))
              omega
            have HSZ := Lib.hid hsz
            have HBL := Lib.hid (fun j => Nat.le_trans (bodyB_take_le ((plW r).map fun s => (s, [32, 32])) j) hbl2)
            generalize plW r = ws at *
            clear hz1 hz2 hsz hbl2 hc hws0 hpw
            go_wp2_with (first | (go_at_call 9; refine (HPW.out _).mono ?_; rintro x w2 ⟨wv, rfl, hws, -, hx2⟩; obtain ⟨⟨wa', wc', rfl, hwcl⟩, -, -⟩ := id hws; have HWCL := Lib.hid hwcl; have HX2 := Lib.hid hx2; clear hws hwcl hx2) | fail)
            go_loopw [11, 13] (fun sv i wz => ∃ j : Nat, j ≤ ws.length ∧ i = .int .i64 j ∧ sv = .string (bText (bodyB ((ws.map fun s => (s, [32, 32])).take j))) ∧ Ext w2 wz) (fun _ i _ => ws.length - (intOf i).toNat)
            case atStart => exact ⟨0, by omega, rfl, rfl, Ext.refl _⟩
            case round =>
              obtain ⟨j, hj, rfl, rfl, hxz⟩ := hrel
              have HXZ := Lib.hid hxz
              by_cases hlt : j < ws.length
              · obtain ⟨b', o', rfl, hcw⟩ := HWCL.out (by intro e; rw [e] at hlt; simp at hlt)
                have cw := hxz.keep (hcw j hlt)
                have hb1 := HBL.out j
                have hb2 := HSZ.out j hlt
                have htk : (ws.map fun s => (s, ([32, 32] : List UInt8))).take (j + 1) = (ws.map fun s => (s, ([32, 32] : List UInt8))).take j ++ [(ws[j], [32, 32])] := by
                  rw [List.take_succ_eq_append_getElem (by simpa using hlt), List.getElem_map]
                have hnx : bodyB ((ws.map fun s => (s, ([32, 32] : List UInt8))).take (j + 1)) = bodyB ((ws.map fun s => (s, ([32, 32] : List UInt8))).take j) ++ (ws[j].data.toList ++ [32, 32]) := by rw [htk, bodyB_snoc]
                have HNX := Lib.hid hnx
                generalize bodyB ((ws.map fun s => (s, ([32, 32] : List UInt8))).take j) = X at *
                generalize ws[j] = t at *
                have hm2 : (2000 : Nat) ≤ maxLen := by decide
                have hs1 : (⟨#[32, 32]⟩ : ByteArray).size = 2 := rfl
                have hxl := bText_len X
                have ha1 : ∀ V, (Op.stringOp .add (bText X) t).run Try.prog V = .ok (.string (bText X ++ t)) V := fun V => run_string_add_sum (P := Try.prog) (w := V) _ _ (by omega)
                have ha2 : ∀ V, (Op.stringOp .add (bText X ++ t) ⟨#[32, 32]⟩).run Try.prog V = .ok (.string (bText (bodyB ((ws.map fun s => (s, ([32, 32] : List UInt8))).take (j + 1))))) V := fun V => by
                  rw [run_string_add_sum (P := Try.prog) (w := V) _ _ (by rw [ByteArray.size_append]; omega), HNX.out]
                  have e2 : (⟨#[32, 32]⟩ : ByteArray) = bText [32, 32] := rfl
                  rw [e2]
                  conv => lhs; rw [← bText_data t]
                  rw [bText_app, bText_app, List.append_assoc]
                clear htk hnx hcw hxz hxl
                go_wp2_with fail
                go_roundw
                case rel => exact ⟨j + 1, by omega, by go_num, rfl, HXZ.out⟩
                case measure => simp [intOf]; omega
              · have hjl : j = ws.length := by omega
                subst hjl
                have htk : (ws.map fun s => (s, ([32, 32] : List UInt8))).take ws.length = ws.map fun s => (s, [32, 32]) := List.take_of_length_le (by simp)
                have HTK := Lib.hid htk
                clear htk
                go_wp2_with fail
                go_meet
                exact ⟨by rw [HWS.out, HTK.out], HX2.out.trans HXZ.out⟩
          · have HWS := Lib.hid (wsB_size (most := most) (rs := rs) (Nat.le_of_not_lt hil2))
            have hil3 : ¬ (i : Int) < (rs.length : Int) := by omega
            go_wp2_with fail
            go_meet
            exact ⟨by rw [HWS.out], Ext.refl _⟩
        case rest =>
          obtain ⟨rfl, hx5⟩ := hcut
          obtain ⟨w5, hw5⟩ : ∃ w5, w5 = wc := ⟨_, rfl⟩
          subst hw5
          have hbl := HSM.out i
          have HXC := Lib.hid hx5
          have HBC := Lib.hid (own_ext HB.out hx5)
          have hLN : Hid (textB (lnsB most rs c (k + 1)) = textB (lnsB most rs c k) ++ (pieceB (pcB c k) ++ bodyB (wsB most rs i)) ++ [10]) := Lib.hid (by
            rw [lnsB_succ, ← hHI.out]
            unfold lnB LnB.text
            simp only [List.append_assoc])
          have htl := textB_len HP.out c k
          generalize bodyB (wsB most rs i) = Y at *
          generalize textB (lnsB most rs c k) = Z at *
          have hml2 : (2000 : Nat) ≤ maxLen := by decide
          have hxl := bText_len Y
          clear hx5
          go_upto_if 77 with fail
          go_cut [11] from 77 to 87 (fun x11 wx => (∃ S, x11 = .string S ∧ S = bText (pieceB (pcB c k) ++ Y)) ∧ Ext w5 wx)
          case first =>
            by_cases hkc : k < c.length
            · obtain ⟨cb, co, rfl, hcc⟩ := HCB.out (by omega)
              have cy := HXC.out.keep (hcc k hkc)
              have HPC := Lib.hid (pcB_yes hkc)
              have hkc2 : (k : Int) < (c.length : Int) := by omega
              have hul := c[k].toNat_lt
              obtain ⟨m, hm⟩ : ∃ m : Nat, c[k].toNat % 6 = m := ⟨_, rfl⟩
              have hm6 : m < 6 := by omega
              have hmy : (c[k].toNat : Int) % 6 = (m : Int) := by omega
              have hy0 : (0 : Int) ≤ (c[k].toNat : Int) := by omega
              have hy1 : (c[k].toNat : Int) < 256 := by omega
              rw [hm] at HPC
              generalize (c[k].toNat : Int) = y at *
              have hpl := piece_len m
              have hpx := bText_len (pieceB m)
              have hpc : (w5.alloc (.cells #[.string ⟨#[]⟩, .string ⟨#[32]⟩, .string ⟨#[9, 32]⟩, .string ⟨#[10]⟩, .string ⟨#[35, 32, 120, 10]⟩, .string ⟨#[32, 35, 115, 105, 122, 101, 32, 53, 10, 10]⟩] 9)).cell? ⟨w5.heap.size, m, none⟩ = some (.string (bText (pieceB m))) := ((Blk.new w5 #[.string ⟨#[]⟩, .string ⟨#[32]⟩, .string ⟨#[9, 32]⟩, .string ⟨#[10]⟩, .string ⟨#[35, 32, 120, 10]⟩, .string ⟨#[32, 35, 115, 105, 122, 101, 32, 53, 10, 10]⟩] 9).cell m).trans (piece_at m hm6)
              have cy2 := ((Ext.refl w5).alloc (.cells #[.string ⟨#[]⟩, .string ⟨#[32]⟩, .string ⟨#[9, 32]⟩, .string ⟨#[10]⟩, .string ⟨#[35, 32, 120, 10]⟩, .string ⟨#[32, 35, 115, 105, 122, 101, 32, 53, 10, 10]⟩] 9)).keep cy
              have lcb := cell_lt cy
              have ha1 : ∀ V, (Op.stringOp .add (bText (pieceB m)) (bText Y)).run Try.prog V = .ok (.string (bText (pieceB m ++ Y))) V := fun V => by
                rw [run_string_add_sum (P := Try.prog) (w := V) _ _ (by omega), bText_app]
              clear hcc hm hul
              go_wp2_with fail
              go_meet
              exact ⟨⟨_, rfl, by rw [HPC.out]⟩, (Ext.refl _).alloc _⟩
            · have HPC := Lib.hid (pcB_no (Nat.le_of_not_lt hkc))
              have hkc2 : ¬ (k : Int) < (c.length : Int) := by omega
              go_wp2_with fail
              go_meet
              exact ⟨⟨_, rfl, by rw [HPC.out]; rfl⟩, Ext.refl _⟩
          case rest =>
            obtain ⟨⟨S, rfl, hS⟩, hx6⟩ := hcut
            have hpl := piece_len (pcB c k)
            have HLN2 := Lib.hid hLN.out
            have hXl : (pieceB (pcB c k) ++ Y).length ≤ 330 := by rw [List.length_append]; omega
            generalize pieceB (pcB c k) ++ Y = X at *
            have HBX := Lib.hid (own_ext HBC.out hx6)
            have HX6 := Lib.hid ((HX.out.trans HXC.out).trans hx6)
            have hsz : S.size = X.length := by rw [hS]; exact bText_len X
            have HG : Hid (∀ j (h : j < S.size) (h2 : j < X.length), S[j] = X[j]) := Lib.hid (fun j h h2 => by
              have e : S.data.toList = X := by rw [hS]; simp [bText]
              rw [← data_get S j h]
              exact List.getElem_of_eq e _)
            clear hS
            have hm3 : (10000 : Nat) ≤ maxLen := by decide
            have hkl : (k : Int) ≤ 13 := by omega
            clear hx6 hpl hLN HB
            go_wp2_with fail
            go_loopw [8, 14] (fun tv i wz => ∃ j : Nat, j ≤ X.length ∧ i = .int .i64 j ∧ BytesOwn wa.heap.size wz tv (Z ++ X.take j) ∧ Ext wa wz) (fun _ i _ => X.length - (intOf i).toNat)
            case atStart => exact ⟨0, by omega, rfl, by rw [List.take_zero, List.append_nil]; exact HBX.out, HX6.out⟩
            case round =>
              obtain ⟨j, hj, rfl, hbz, hxz⟩ := hrel
              have HBZ := Lib.hid hbz
              have HXZ := Lib.hid hxz
              have hszz := hxz.sz
              have hlz : (Z ++ X.take j).length ≤ 5000 := by rw [List.length_append, List.length_take]; omega
              clear hbz hxz
              by_cases hlt : j < X.length
              · have hjs : j < S.size := by omega
                have hjs2 : (j : Int) < (S.size : Int) := by omega
                have hg := HG.out j hjs hlt
                have HNX : Hid (Z ++ X.take (j + 1) = (Z ++ X.take j) ++ [S[j]]) := Lib.hid (by rw [List.take_succ_eq_append_getElem hlt, List.append_assoc, hg])
                generalize Z ++ X.take j = ZX at *
                clear hg
                go_wp2_with (first
                  | (at_builtin; refine wpList_append_own _ rfl (.tmp 94) (.tmp 98) 24 rfl wa.heap.size 5 i1 (.int .u8 0) 1 1 Try.underlying24 HI1.out.1 HI1.out.2.1 HI1.out.2.2.1 HI1.out.2.2.2 rfl (by decide) _ _ _ rfl (HBZ.out.alloc _) ⟨wr.heap.size, 0, none⟩ 1 1 [_] rfl rfl (blk_news (C := #[_]) (Blk.new _ _ _)) (by simp [Value.oneCell']) (by omega) (by omega) (by simp; omega) ?_; rintro v' w6 hown hgrow -)
                  | fail)
                have hx7 : Ext wa w6 := Ext.grownAt (HXZ.out.alloc _) (HBZ.out.alloc _) (Nat.le_refl _) hgrow
                clear hgrow
                go_wp2
                go_roundw
                case rel => exact ⟨j + 1, by omega, by go_num, by rw [HNX.out]; exact bytesOwn_snoc hown, hx7⟩
                case measure => simp [intOf]; omega
              · have hjl : j = X.length := by omega
                subst hjl
                have hjs2 : ¬ ((X.length : Nat) : Int) < (S.size : Int) := by omega
                have htk : X.take X.length = X := List.take_of_length_le (Nat.le_refl _)
                have HTK := Lib.hid htk
                clear htk
                go_wp2_with (first
                  | (at_builtin; refine wpList_append_own _ rfl (.tmp 100) (.tmp 101) 24 rfl wa.heap.size 5 i1 (.int .u8 0) 1 1 Try.underlying24 HI1.out.1 HI1.out.2.1 HI1.out.2.2.1 HI1.out.2.2.2 rfl (by decide) _ _ _ rfl (HBZ.out.alloc _) ⟨wr.heap.size, 0, none⟩ 1 1 [.int .u8 10] rfl rfl (blk_news (C := #[.int .u8 10]) (Blk.new _ _ _)) (by simp [Value.oneCell']) (by omega) (by omega) (by simp; omega) ?_; rintro v' w6 hown hgrow -)
                  | fail)
                have hx7 : Ext wa w6 := Ext.grownAt (HXZ.out.alloc _) (HBZ.out.alloc _) (Nat.le_refl _) hgrow
                clear hgrow
                go_wp2
                go_roundw
                case rel => exact ⟨k + 1, by omega, by go_num, by rw [HLN2.out]; have h := bytesOwn_snoc (b := 10) hown; rw [HTK.out] at h; exact h, hx7⟩
                case measure => simp [intOf]; omega
    · have hkl : k = rs.length + 1 := by omega
      subst hkl
      have HPA := Lib.hid (parseC HP.out hlen c)
      have htl := textB_len HP.out c (rs.length + 1)
      have hk1 : ¬ ((rs.length : Int) + 1 ≤ (rs.length : Int)) := by omega
      obtain ⟨hbs, hcap⟩ := own_bytes (l := textB (lnsB most rs c (rs.length + 1))) HB.out rfl
      obtain ⟨⟨za, zc, rfl, -⟩, -⟩ := id hbs
      have HCP := Lib.hid (config_Parse _ _ wr hbs hcap)
      generalize textB (lnsB most rs c (rs.length + 1)) = T at *
      have HATR := Lib.hid (HATA.out.ext Rl.size4 hx)
      have HBPR := Lib.hid (HBP.out.ext hx)
      have HXR := Lib.hid (HXA.out.trans hx)
      clear hbs hcap hx HB
      go_wp2_with fail
      refine HCP.out.mono ?_
      intro x w6 h6
      obtain ⟨v6, rfl, ho6, hx6⟩ := h6.open HPA.out
      have hat6 := RuleOwn.at ho6
      obtain ⟨a6, c6, rfl⟩ := hat6.size
      rw [show (ordL Rl.key rs).length = rs.length from ordL_len rs] at hat6 ⊢
      have HA6 := Lib.hid hat6
      have HX6 := Lib.hid hx6
      have HB6 := Lib.hid (HBPR.out.ext hx6)
      have HR6 := Lib.hid (HATR.out.ext Rl.size4 hx6)
      clear h6 ho6 hx6 hat6
      go_upto_region 25 with fail
      have bQ := (Blk.new w6 #[.int .i64 most, .slice a6 rs.length c6] 27).alloc (.cells #[.int .i64 0, .int .i64 0] 37)
      have hxq : Ext w6 ((w6.alloc (.cells #[.int .i64 most, .slice a6 rs.length c6] 27)).alloc (.cells #[.int .i64 0, .int .i64 0] 37)) := ((Ext.refl w6).alloc _).alloc _
      generalize (w6.alloc (.cells #[.int .i64 most, .slice a6 rs.length c6] 27)).alloc (.cells #[.int .i64 0, .int .i64 0] 37) = w7 at *
      have HXF := Lib.hid (HXR.out.trans (HX6.out.trans hxq))
      have HQ7 := Lib.hid bQ
      have HB7 := Lib.hid (HB6.out.ext hxq)
      have HA7 := Lib.hid (HA6.out.ext Rl.size4 hxq)
      have HR7 := Lib.hid (HR6.out.ext Rl.size4 hxq)
      clear bQ hxq HA6 HX6 HB6 HR6 htl
      have q0 : w7.cell? ⟨w6.heap.size, 0, none⟩ = some (.int .i64 most) := HQ7.out.cell 0
      have q1 : w7.cell? ⟨w6.heap.size, 1, none⟩ = some (.slice a6 rs.length c6) := HQ7.out.cell 1
      have q2 : w7.cell? ⟨w1.heap.size, 0, none⟩ = some (.int .i64 most) := HB7.out.cell 0
      have q3 : w7.cell? ⟨w1.heap.size, 1, none⟩ = some (.slice ra rs.length rc) := HB7.out.cell 1
      have HKN := Lib.hid (fun V => law12_known V)
      have HOR := Lib.hid (fun V (e : Ext w7 V) => config_Order most (.slice ra rs.length rc) rs V (HR7.out.ext Rl.size4 e) (by omega))
      have HSA := Lib.hid (fun v4 V (e : Ext w7 V) (h4 : RulesAt V v4 (ordL Rl.key rs)) => ref12_Same_yes most (.slice a6 rs.length c6) v4 (ordL Rl.key rs) V (HA7.out.ext Rl.size4 e) h4 (by rw [ordL_len]; omega))
      go_region_held3 (fun w' => (∀ o, w'.cell? ⟨w6.heap.size, o, none⟩ = (#[.int .i64 most, .slice a6 rs.length c6] : Array Value)[o]?) ∧ (∀ o, w'.cell? ⟨w1.heap.size, o, none⟩ = (#[.int .i64 most, .slice ra rs.length rc] : Array Value)[o]?) ∧ Ext w7 w')
        (((try go_split_ands); refine ⟨Blk.cell (HQ7.out.ext ?_), Blk.cell (HB7.out.ext ?_), ?_⟩ <;> (repeat (first | with_reducible exact Ext.refl _ | with_reducible assumption | with_reducible refine Ext.alloc ?_ _ | with_reducible refine Ext.drew ?_ | (with_reducible refine Ext.setCell ?_ (by first | exact Nat.le_refl _ | (dsimp only; omega) | (simp; done) | (simp; omega)) _) | with_reducible refine Ext.trans ?_ (by with_reducible assumption)))))
        (first
          | (go_at_call 11; (with_reducible refine (HKN.out _).mono ?_); rintro x w11 ⟨rfl, hx11⟩)
          | (go_at_call 13; (with_reducible refine (HOR.out _ (by repeat (first | with_reducible exact Ext.refl _ | with_reducible assumption | with_reducible refine Ext.alloc ?_ _ | with_reducible refine Ext.drew ?_ | (with_reducible refine Ext.setCell ?_ (by first | exact Nat.le_refl _ | (dsimp only; omega) | (simp; done) | (simp; omega)) _) | with_reducible refine Ext.trans ?_ (by with_reducible assumption)))).mono ?_); rintro x w12 ⟨v4, rfl, ho4, hx12⟩; have h4 := RuleOwn.at ho4; obtain ⟨a4, c4, rfl⟩ := h4.size)
          | (go_at_call 12; (with_reducible refine (HSA.out _ _ (by repeat (first | with_reducible exact Ext.refl _ | with_reducible assumption | with_reducible refine Ext.alloc ?_ _ | with_reducible refine Ext.drew ?_ | (with_reducible refine Ext.setCell ?_ (by first | exact Nat.le_refl _ | (dsimp only; omega) | (simp; done) | (simp; omega)) _) | with_reducible refine Ext.trans ?_ (by with_reducible assumption))) (h4.ext Rl.size4 (by repeat (first | with_reducible exact Ext.refl _ | with_reducible assumption | with_reducible refine Ext.alloc ?_ _ | with_reducible refine Ext.drew ?_ | (with_reducible refine Ext.setCell ?_ (by first | exact Nat.le_refl _ | (dsimp only; omega) | (simp; done) | (simp; omega)) _) | with_reducible refine Ext.trans ?_ (by with_reducible assumption))))).mono ?_); rintro x w13 ⟨rfl, hx13⟩))
      all_goals
        go_wp2
        go_ret
        exact ⟨rfl, HXF.out.trans (by repeat (first | with_reducible exact Ext.refl _ | with_reducible assumption | with_reducible refine Ext.alloc ?_ _ | with_reducible refine Ext.drew ?_ | (with_reducible refine Ext.setCell ?_ (by first | exact Nat.le_refl _ | (dsimp only; omega) | (simp; done) | (simp; omega)) _) | with_reducible refine Ext.trans ?_ (by with_reducible assumption)))⟩
end Go.Proofs.Ytknlojlcahgnoaa
