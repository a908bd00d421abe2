/- The walk of tollerlaw11.RuleAsks. -/
import Derived.Test.YtphbhinobdkidaaAsks
import Derived.Test.YtphbhinobdkidaaParses
import Derived.Test.YtphbhinobdkidaaWords
namespace Go.Proofs.Ytphbhinobdkidaa
open Go.RowKit
set_option linter.unusedVariables false
set_option linter.unusedSimpArgs false

set_option maxHeartbeats 8000000 in
set_option maxRecDepth 100000 in
theorem asks_walk (p : ByteArray) (e b k : Int) (nm : ByteArray) (vl : Value) (ll : List ByteArray) (v : Value) (l0 : List UInt8) (e1 b1 k1 wh n : Int) (s : ByteArray) (w : World)
    (hpm : p.size ≤ maxLen) (he0 : 0 ≤ e) (he1 : e < 18446744073709551616) (hb0 : 0 ≤ b) (hb1 : b < 18446744073709551616) (hnm : nm.size ≤ maxLen)
    (hll : StrSlice w vl ll) (hv : ByteSlice w v l0) (hr0 : 0 ≤ e1) (hr1 : e1 < 4294967296) (hs0 : 0 ≤ b1) (hs1 : b1 < 65536) (hk0 : 0 ≤ k1) (hk1 : k1 < 256)
    (hw0 : 0 ≤ wh) (hw1 : wh < 256) (hn0 : 0 ≤ n) (hn1 : n < 18446744073709551616) (hsm : s.size ≤ maxLen) :
    Calls Try.prog 6 #[.agg #[.string p, .int .u64 e, .int .u64 b, .int .u8 k], .string nm, vl, v, .int .u32 e1, .int .u16 b1, .int .u8 k1, .int .u8 wh, .int .u64 n, .string s] w fun x w' => x = .returned (.bool true) ∧ Ext w w' := by
  have HLL := Lib.hid hll
  obtain ⟨⟨a, c, rfl, -⟩, hlen, heach⟩ := hll
  have HEA := Lib.hid heach
  have hbig := len_big hlen
  clear heach
  by_cases h12 : 12 < ll.length
  · have h12' : (12 : Int) < ll.length := by omega
    go_enter Try.func6, Try.ntmps6
    go_wp2_with (go_at_call 11; refine (law11_known _).mono ?_; rintro x w' ⟨rfl, hx⟩)
    go_ret
    exact ⟨rfl, (by repeat (first | with_reducible exact Ext.refl _ | with_reducible assumption | with_reducible refine Ext.alloc ?_ _ | with_reducible refine Ext.drew ?_ | with_reducible refine Ext.trans ?_ (by with_reducible assumption)))⟩
  have h12' : ¬ (12 : Int) < ll.length := by omega
  by_cases h600 : 600 < wrap64 (wrap64 (nm.size + p.size) + s.size)
  · go_enter Try.func6, Try.ntmps6
    go_wp2_with (go_at_call 11; refine (law11_known _).mono ?_; rintro x w' ⟨rfl, hx⟩)
    go_ret
    exact ⟨rfl, (by repeat (first | with_reducible exact Ext.refl _ | with_reducible assumption | with_reducible refine Ext.alloc ?_ _ | with_reducible refine Ext.drew ?_ | with_reducible refine Ext.trans ?_ (by with_reducible assumption)))⟩
  have hR := own_right l0 e1 b1 k1 hr0 hr1 hs0 hs1 hk0
  have hps := Nat.le_trans (lawPre_size l0) (by decide : 12 ≤ maxLen)
  have hL := words_len hR
  generalize hl : printWords (lawPre l0) (1 + e1) (1 + b1) (1 + k1 % 3) = l at *
  have HL := Lib.hid hl
  have HR := Lib.hid hR
  obtain ⟨hL4, hL5⟩ := hL
  have hne : l ≠ [] := by intro q; rw [q] at hL4; simp at hL4
  clear hl hR
  have HNE := Lib.hid hne
  clear hne
  go_enter Try.func6, Try.ntmps6
  go_wp2_with fail
  refine (law11_known _).mono ?_
  rintro x w1 ⟨rfl, hx1⟩
  go_wp2_with fail
  refine (law11_Rule v l0 e1 b1 k1 _ (hv.ext (((Ext.refl _).alloc _).trans hx1)) hr0 hr1 hs0 hs1 hk0 hk1).mono ?_
  rintro x w2 ⟨rfl, hx2⟩
  go_wp2_with fail
  refine (ref11_Print _ _ _ _ _ hps (by omega) (by omega) (by omega) (by omega)).mono ?_
  rw [HL.out]
  rintro x w3 ⟨v3, rfl, hs3, hcap, hx3⟩
  have HS3 := Lib.hid hs3
  obtain ⟨⟨a3, c3, rfl, hcells⟩, hlen3, heach3⟩ := hs3
  obtain ⟨bb, o, rfl, hc⟩ := hcells HNE.out
  have HC := Lib.hid hc
  have HEA3 := Lib.hid heach3
  clear hcells hcap hc heach3
  have hstr : (Try.prog.info? 9).map (fun i => (i.zero, i.size, i.bytes)) = some (some (.string ⟨#[]⟩), 1, 16) := by kernel_rfl
  obtain ⟨i0, hi, hz0, hz1, hz2⟩ := info_parts hstr
  have HI := Lib.hid (And.intro hi (And.intro hz0 (And.intro hz1 hz2)))
  clear hi hz0 hz1 hz2 hstr
  have hl16 : (0 + l.length) * 16 ≤ 140737488355328 := by omega
  have hl18 : 0 + l.length ≤ maxLen := by omega
  have HLA := Lib.hid (And.intro hl16 hl18)
  clear hl16 hl18
  go_wp2_with (first
    | (at_builtin
       refine wpList_append_own _ rfl (.tmp 57) (.tmp 58) 38 rfl w3.heap.size 9 i0 (.string ⟨#[]⟩) 1 16 Try.underlying38 HI.out.1 HI.out.2.1 HI.out.2.2.1 HI.out.2.2.2 rfl (by decide) (.slice none 0 0) 0 [] rfl (World.ownsRow_nil _ _ _ _) ⟨bb, o, none⟩ l.length c3 (l.map .string) rfl (by simp) (holds_map HC.out) (one_strs l) HLA.out.2 HLA.out.1 (by simp) ?_
       rintro v4 w4 hown4 hg4 -
       have hx4 := (Ext.refl w3).grown hg4
       obtain ⟨g4, cap4, rfl⟩ := Joins.ownsRow_form hown4 (by omega)
       have HOWN4 := Lib.hid hown4
       clear hown4 hg4)
    | fail)
  have HG := Lib.hid hx4
  obtain ⟨qn, hqn⟩ : ∃ qn : Nat, wh % (l.length : Int) = qn := ⟨_, (Int.toNat_of_nonneg (Int.emod_nonneg _ (by omega))).symm⟩
  have hq1 : wh % (l.length : Int) < l.length := Int.emod_lt_of_pos _ (by omega)
  obtain ⟨zn, hzn⟩ : ∃ zn : Nat, wh / 8 % 7 = zn := ⟨_, (Int.toNat_of_nonneg (Int.emod_nonneg _ (by omega))).symm⟩
  have hz1 : wh / 8 % 7 < 7 := Int.emod_lt_of_pos _ (by omega)
  rw [hqn] at hq1
  rw [hzn] at hz1
  have hz2 : zn < 7 := by omega
  have hL0 : (0 : Int) < (l.length : Int) := by omega
  have hL1 : ¬ l = [] := HNE.out
  have hq2 : qn < l.length := by omega
  have hw8 : 0 ≤ wh / 8 := Int.ediv_nonneg hw0 (by decide)
  have t1 : wh.tmod (l.length : Int) = qn := by rw [Int.tmod_eq_emod_of_nonneg hw0]; exact hqn
  have t2 : wh.tdiv 8 = wh / 8 := by rw [Int.tdiv_eq_ediv_of_nonneg hw0]
  have t3 : (wh / 8).tmod 7 = zn := by rw [Int.tmod_eq_emod_of_nonneg hw8]; exact hzn
  have t0 : IntKind.i64.wrap wh = wh := IntWalk.i64_in _ ⟨by omega, by omega⟩
  have t5 : IntKind.u8.wrap (wh / 8) = wh / 8 := IntWalk.u8_in _ ⟨hw8, by omega⟩
  have t4 : IntKind.i64.wrap (qn : Int) = qn := IntWalk.i64_in _ ⟨by have := Int.natCast_nonneg qn; omega, by omega⟩
  have own4 := HOWN4.out
  have hcq : w4.cell? ⟨g4, qn, none⟩ = some (.string l[qn]) := by
    have := own4.cells rfl qn (.string l[qn]) (by simp [hq2])
    rw [addr_add, Nat.zero_add] at this
    exact this
  have hfq : w4.frozen? ⟨g4, qn, none⟩ = false := by
    obtain ⟨-, h | ⟨g, cap, cur, hv, -, hh, -⟩⟩ := own4
    · cases h.1
    · cases hv
      simp [World.frozen?, hh]
  have hg4 := cell_lt hcq
  have HB4 := Lib.hid (show w3.heap.size ≤ g4 by
    obtain ⟨-, h | ⟨g, cap, cur, hv, hb, -⟩⟩ := own4
    · cases h.1
    · cases hv; exact hb)
  have HC4 := Lib.hid (show ∀ j (h : j < l.length), w4.cell? ⟨g4, 0 + j, none⟩ = some (.string l[j]) from fun j hj => by
    have := own4.cells rfl j (.string l[j]) (by simp [hj])
    rw [addr_add] at this
    exact this)
  clear hx4 own4
  generalize hlq : l[qn] = oq at hcq
  clear hlq
  have HQ := Lib.hid (And.intro hqn hzn)
  clear hzn
  have e14 := fun (W : World) (a : Addr) => show (Instr.indexAt 38 (.slice (some a) 7 7) (.int .u8 (zn : Int))).run Try.prog W = .ok (.pointer (some (a.add zn))) W by
    have : (zn : Int) < 7 := by omega
    simp [go_sem, this]
  have hA : ∀ (C : Array Value) (t : TypeId), (w4.alloc (Obj.cells C t)).cell? ⟨g4, qn, none⟩ = some (.string oq) := fun C t => (World.cell?_alloc_lt w4 _ _ hg4).trans hcq
  have hF : ∀ (C : Array Value) (t : TypeId), (w4.alloc (Obj.cells C t)).frozen? ⟨g4, qn, none⟩ = false := fun C t => (frozen?_alloc_cells w4 _ _ _).trans hfq
  have hgn : w4.heap.size ≠ g4 := by omega
  have e16 := fun (W : World) => show (Instr.indexAt 38 (.slice (some ⟨g4, 0, none⟩) l.length cap4) (.int .i64 (qn : Int))).run Try.prog W = .ok (.pointer (some ⟨g4, qn, none⟩)) W by
    have : (qn : Int) < l.length := by omega
    have e : (⟨g4, 0, none⟩ : Addr).add qn = ⟨g4, qn, none⟩ := by rw [addr_add, Nat.zero_add]
    simp [go_sem, hq2, e]
  have hz0 : (0 : Int) ≤ (zn : Int) := Int.natCast_nonneg _
  have hqq0 : (0 : Int) ≤ (qn : Int) := Int.natCast_nonneg _
  obtain ⟨x7, hx7, hx7m⟩ : ∃ x7 : ByteArray, (#[Value.string (digStr n), Value.string s, Value.string { data := #[48] }, Value.string nm, Value.string { data := #[103, 99, 114, 97] }, Value.string { data := #[48, 55] }, Value.string { data := #[114, 117, 108, 101] }] : Array Value)[zn]? = some (.string x7) ∧ x7.size ≤ maxLen := by
    have hds := (dig_back n hn0 hn1).2.2.1
    rcases (by omega : zn = 0 ∨ zn = 1 ∨ zn = 2 ∨ zn = 3 ∨ zn = 4 ∨ zn = 5 ∨ zn = 6) with rfl | rfl | rfl | rfl | rfl | rfl | rfl
    · exact ⟨_, rfl, Nat.le_trans hds (by decide)⟩
    · exact ⟨_, rfl, hsm⟩
    · exact ⟨_, rfl, by decide⟩
    · exact ⟨_, rfl, hnm⟩
    · exact ⟨_, rfl, by decide⟩
    · exact ⟨_, rfl, by decide⟩
    · exact ⟨_, rfl, by decide⟩
  have hx8 : ∀ h, ([Value.string (digStr n), Value.string s, Value.string { data := #[48] }, Value.string nm, Value.string { data := #[103, 99, 114, 97] }, Value.string { data := #[48, 55] }, Value.string { data := #[114, 117, 108, 101] }] : List Value)[zn]'h = .string x7 := fun h => by
    have := (Array.getElem?_eq_some_iff.1 hx7).2
    simpa using this
  go_region_with
    (first
      | (go_at_call 15; with_reducible refine (ref03_Print _ _ hn0 hn1).mono ?_; rintro x w' ⟨rfl, rfl⟩))
  have hx5 : Ext w3 ((w4.setCell ⟨g4, qn, none⟩ (.string x7)).alloc (Obj.cells #[Value.string (digStr n), Value.string s, Value.string { data := #[48] }, Value.string nm, Value.string { data := #[103, 99, 114, 97] }, Value.string { data := #[48, 55] }, Value.string { data := #[114, 117, 108, 101] }] 9)).drew :=
    ((HG.out.setCell (by exact HB4.out) _).alloc _).drew
  have hc5 : ∀ j (h : j < (l.set qn x7).length), ((w4.setCell ⟨g4, qn, none⟩ (.string x7)).alloc (Obj.cells #[Value.string (digStr n), Value.string s, Value.string { data := #[48] }, Value.string nm, Value.string { data := #[103, 99, 114, 97] }, Value.string { data := #[48, 55] }, Value.string { data := #[114, 117, 108, 101] }] 9)).drew.cell? ⟨g4, 0 + j, none⟩ = some (.string (l.set qn x7)[j]) := by
    intro j hj
    have hj' : j < l.length := by simpa using hj
    have hcj := HC4.out j hj'
    have hlt := cell_lt hcj
    show (World.alloc _ _).cell? _ = _
    rw [World.cell?_alloc_lt _ _ _ (by simpa [World.setCell] using hlt)]
    by_cases hjq : j = qn
    · subst hjq
      rw [Nat.zero_add]
      simp [World.cell?_setCell_same w4 _ _ hcq]
    · rw [World.cell?_setCell_other _ _ _ _ (by intro q; injection q with q1 q2; omega), hcj]
      simp [List.getElem_set, Ne.symm hjq]
  have hm5 : ∀ q ∈ l.set qn x7, q.size ≤ maxLen := by
    intro q hq
    rcases List.mem_or_eq_of_mem_set hq with h | h
    · exact HEA3.out q h
    · rw [h]; exact hx7m
  have hl5 : (l.set qn x7).length = l.length := by simp
  generalize hw5 : ((w4.setCell ⟨g4, qn, none⟩ (.string x7)).alloc (Obj.cells #[Value.string (digStr n), Value.string s, Value.string { data := #[48] }, Value.string nm, Value.string { data := #[103, 99, 114, 97] }, Value.string { data := #[48, 55] }, Value.string { data := #[114, 117, 108, 101] }] 9)).drew = w5 at *
  generalize l.set qn x7 = m at *
  have HC5 := Lib.hid hc5
  have HM5 := Lib.hid hm5
  have HL5 := Lib.hid hl5
  clear hw5 hx7 hx8 hA hF e14 e16 t0 t1 t2 t3 t4 t5 hcq hfq hqn hc5 hm5 hl5 hL1
  go_wp2_with fail
  refine (rule_Kind nm _).mono ?_
  rintro x w6 ⟨rfl, hx6⟩
  go_wp2_with fail
  refine (ref11_Kind nm _).mono ?_
  rintro x w6' ⟨rfl, rfl⟩
  have hx36 := hx5.trans hx6
  have B1 := ((((Blk.new w #[.string p, .int .u64 e, .int .u64 b, .int .u8 k] 25).ext hx1).ext hx2).alloc (.cells #[.string (lawPre l0), .int .u64 (1 + e1), .int .u64 (1 + b1), .int .u8 (1 + k1 % 3)] 25)).ext (hx3.trans hx36)
  have B2 := (Blk.new w2 #[.string (lawPre l0), .int .u64 (1 + e1), .int .u64 (1 + b1), .int .u8 (1 + k1 % 3)] 25).ext (hx3.trans hx36)
  have hxw : Ext w w6 := (((((Ext.refl w).alloc _).trans hx1).trans hx2).alloc _).trans (hx3.trans hx36)
  have ht17 : (0 + l.length + 1) * 16 ≤ 140737488355328 := by omega
  have ht19 : 0 + l.length + 1 ≤ maxLen := Nat.le_trans (by omega : _ ≤ 6) (by decide)
  have HT := Lib.hid (And.intro ht17 ht19)
  clear ht17 ht19
  go_wp2_with (first
    | (at_builtin
       refine wpList_append_own _ rfl (.tmp 87) (.tmp 88) 38 rfl w6.heap.size 9 i0 (.string ⟨#[]⟩) 1 16 Try.underlying38 HI.out.1 HI.out.2.1 HI.out.2.2.1 HI.out.2.2.2 rfl (by decide) (.slice none 0 0) 0 [] rfl (World.ownsRow_nil _ _ _ _) ⟨g4, 0, none⟩ l.length cap4 (m.map .string) rfl (by simp [HL5.out]) (holds_map (cells_ext HC5.out hx6)) (one_strs m) HLA.out.2 HLA.out.1 (by simp) ?_
       rintro v7 w7 hown7 hg7 -
       have hx7 := (Ext.refl w6).grown hg7
       have HOWN7 := Lib.hid hown7
       clear hown7 hg7)
    | (at_builtin
       refine wpList_append_own _ rfl (.tmp 90) (.tmp 92) 38 rfl w6.heap.size 9 i0 (.string ⟨#[]⟩) 1 16 Try.underlying38 HI.out.1 HI.out.2.1 HI.out.2.2.1 HI.out.2.2.2 rfl (by decide) v7 _ _ rfl (HOWN7.out.alloc _) ⟨_, 0, none⟩ 1 1 [.string s] rfl rfl (holds_blk (C := [.string s]) (Blk.new _ _ _)) (one_strs [s]) HT.out.2 HT.out.1 (by have := hx7.sz; simp; omega) ?_
       rintro v8 w8 hown8 hg8 -
       have hx8 := Ext.grownOwn (hx7.alloc _) (HOWN7.out.alloc _) (Nat.le_refl _) hg8
       have HOWN8 := Lib.hid hown8
       have C1 := B1.ext hx8
       have C2 := B2.ext hx8
       have E0 : w8.cell? ⟨w.heap.size, 0, none⟩ = some (.string p) := C1.cell 0
       have E1 : w8.cell? ⟨w.heap.size, 1, none⟩ = some (.int .u64 e) := C1.cell 1
       have E2 : w8.cell? ⟨w.heap.size, 2, none⟩ = some (.int .u64 b) := C1.cell 2
       have E3 : w8.cell? ⟨w.heap.size, 3, none⟩ = some (.int .u8 k) := C1.cell 3
       have hlt8 := C1.lt
       have D0 : w8.cell? ⟨w2.heap.size, 0, none⟩ = some (.string (lawPre l0)) := C2.cell 0
       have D1 : w8.cell? ⟨w2.heap.size, 1, none⟩ = some (.int .u64 (1 + e1)) := C2.cell 1
       have D2 : w8.cell? ⟨w2.heap.size, 2, none⟩ = some (.int .u64 (1 + b1)) := C2.cell 2
       have D3 : w8.cell? ⟨w2.heap.size, 3, none⟩ = some (.int .u8 (1 + k1 % 3)) := C2.cell 3
       clear hown8 hg8)
    | fail)
  refine (law11_asks p e b k _ hpm he0 he1 hb0 hb1).mono ?_
  rintro x w10 ⟨rfl, hx10⟩
  have C3 := (Blk.new w8 #[.string (lawPre l0), .int .u64 n, .int .u64 (1 + b1), .int .u8 (1 + k1 % 3)] 25).ext hx10
  have C4 := (C2.alloc (.cells #[.string (lawPre l0), .int .u64 n, .int .u64 (1 + b1), .int .u8 (1 + k1 % 3)] 25)).ext hx10
  clear D0 D1 D2 D3 E0 E1 E2 E3
  have D0 : w10.cell? ⟨w2.heap.size, 0, none⟩ = some (.string (lawPre l0)) := C4.cell 0
  have D1 : w10.cell? ⟨w2.heap.size, 1, none⟩ = some (.int .u64 (1 + e1)) := C4.cell 1
  have D2 : w10.cell? ⟨w2.heap.size, 2, none⟩ = some (.int .u64 (1 + b1)) := C4.cell 2
  have D3 : w10.cell? ⟨w2.heap.size, 3, none⟩ = some (.int .u8 (1 + k1 % 3)) := C4.cell 3
  go_wp2_with fail
  refine (law11_asks (lawPre l0) (1 + e1) (1 + b1) (1 + k1 % 3) _ hps (by omega) (by omega) (by omega) (by omega)).mono ?_
  rintro x w11 ⟨rfl, hx11⟩
  have C5 := C3.ext hx11
  clear D0 D1 D2 D3
  have D0 : w11.cell? ⟨w8.heap.size, 0, none⟩ = some (.string (lawPre l0)) := C5.cell 0
  have D1 : w11.cell? ⟨w8.heap.size, 1, none⟩ = some (.int .u64 n) := C5.cell 1
  have D2 : w11.cell? ⟨w8.heap.size, 2, none⟩ = some (.int .u64 (1 + b1)) := C5.cell 2
  have D3 : w11.cell? ⟨w8.heap.size, 3, none⟩ = some (.int .u8 (1 + k1 % 3)) := C5.cell 3
  go_wp2_with fail
  refine (law11_asks (lawPre l0) n (1 + b1) (1 + k1 % 3) _ hps hn0 hn1 (by omega) (by omega)).mono ?_
  rintro x w12 ⟨rfl, hx12⟩
  clear D0 D1 D2 D3
  have hx612 : Ext w6 w12 := (((hx8.alloc _).trans hx10).trans hx11).trans hx12
  go_wp2_with fail
  refine (law11_parses _ ll _ (HLL.out.ext (hxw.trans hx612))).mono ?_
  rintro x w13 ⟨rfl, hx13⟩
  go_wp2_with fail
  refine (law11_parses _ l _ (HS3.out.ext (hx36.trans (hx612.trans hx13)))).mono ?_
  rintro x w14 ⟨rfl, hx14⟩
  have hs5 : StrSlice w5 (.slice (some ⟨g4, 0, none⟩) l.length cap4) m := by
    have e := HL5.out
    rw [← e]
    exact ⟨⟨_, _, rfl, fun _ => ⟨g4, 0, rfl, HC5.out⟩⟩, by rw [e]; exact hlen3, HM5.out⟩
  have HS5 := Lib.hid hs5
  clear hs5
  go_wp2_with fail
  refine (law11_parses _ m _ (HS5.out.ext (hx6.trans (hx612.trans (hx13.trans hx14))))).mono ?_
  rintro x w15 ⟨rfl, hx15⟩
  have hown8 : w8.ownsRow w6.heap.size 9 1 v8 (0 + l.length + 1) ((m ++ [s]).map Value.string) := by
    have := HOWN8.out
    simpa using this
  have hs8 : StrSlice w8 v8 (m ++ [s]) := StrSlice.own (m ++ [s]) hown8 (by intro q hq; rcases List.mem_append.1 hq with h | h; exact HM5.out q h; rw [List.mem_singleton.1 h]; exact hsm)
  have HS8 := Lib.hid hs8
  clear hown8 hs8
  have hx815 : Ext w8 w15 := (((((Ext.refl w8).alloc _).trans hx10).trans (hx11.trans hx12)).trans (hx13.trans (hx14.trans hx15)))
  go_wp2_with fail
  refine (law11_parses _ (m ++ [s]) _ (HS8.out.ext hx815)).mono ?_
  rintro x w16 ⟨rfl, hx16⟩
  go_wp2_with fail
  refine (rule_Name k1 _).mono ?_
  rintro x w17 ⟨rfl, hx17⟩
  go_wp2_with fail
  refine (ref11_Name k1 _).mono ?_
  rintro x w17' ⟨rfl, rfl⟩
  go_wp2_with fail
  refine (rule_Name (k1 % 5) _).mono ?_
  rintro x w18 ⟨rfl, hx18⟩
  go_wp2_with fail
  refine (ref11_Name (k1 % 5) _).mono ?_
  rintro x w18' ⟨rfl, rfl⟩
  go_wp2
  go_ret
  exact ⟨rfl, (hxw.trans hx8).trans (hx815.trans (hx16.trans (hx17.trans hx18)))⟩
end Go.Proofs.Ytphbhinobdkidaa
