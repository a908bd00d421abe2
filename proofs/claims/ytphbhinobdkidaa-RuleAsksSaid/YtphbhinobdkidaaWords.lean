/- The walk of tollerlaw11.RuleWords. -/
import Derived.Test.YtphbhinobdkidaaOwn2
import Derived.Test.YtphbhinobdkidaaLaw11
import Derived.OwnWalk
import Derived.Laws.AppendOwn
namespace Go.Proofs.Ytphbhinobdkidaa
open Go.RowKit
set_option linter.unusedVariables false
set_option linter.unusedSimpArgs false

theorem StrSlice.take {w : World} {bb o c : Nat} {l : List ByteArray} (h : ∀ j (h : j < l.length), w.cell? ⟨bb, o + j, none⟩ = some (.string l[j])) (hm : l.length ≤ maxLen) (he : ∀ s ∈ l, s.size ≤ maxLen) (k : Nat) (hk : k ≤ l.length) : StrSlice w (.slice (some ⟨bb, o, none⟩) k c) (l.take k) := by
  have hlen : (l.take k).length = k := by rw [List.length_take]; omega
  refine ⟨⟨some ⟨bb, o, none⟩, c, by rw [hlen], fun _ => ⟨bb, o, rfl, fun j hj => ?_⟩⟩, by omega, fun s hs => he s (List.mem_of_mem_take hs)⟩
  rw [h j (by omega)]
  simp

theorem holds_map {w : World} {bb o : Nat} {l : List ByteArray} (h : ∀ j (h : j < l.length), w.cell? ⟨bb, o + j, none⟩ = some (.string l[j])) : ∀ (j : Nat) (u : Value), (l.map Value.string)[j]? = some u → w.cell? ((⟨bb, o, none⟩ : Addr).add j) = some u := by
  intro j u hu
  have hj : j < l.length := by
    rcases Nat.lt_or_ge j l.length with q | q
    · exact q
    · rw [List.getElem?_eq_none (by simpa using q)] at hu; cases hu
  have e : ((⟨bb, o, none⟩ : Addr).add j) = ⟨bb, o + j, none⟩ := by simp [Addr.add]
  rw [e, h j hj]
  simpa [hj] using hu
theorem own_blk {w : World} {b n base : Nat} {C : List Value} {t : TypeId} (h : Blk w b C.toArray t) (hn : C.length = n) (hm : n ≤ maxLen) (hb : base ≤ b) : w.ownsRow base t 1 (.slice (some ⟨b, 0, none⟩) n n) n C := by
  subst hn
  exact ⟨by simp, Or.inr ⟨b, C.length, C.toArray, rfl, hb, h, Nat.le_refl _, hm, by simp, by simp⟩⟩
theorem cells_ext {w w' : World} {bb o : Nat} {l : List ByteArray} (h : ∀ j (h : j < l.length), w.cell? ⟨bb, o + j, none⟩ = some (.string l[j])) (e : Ext w w') : ∀ j (h : j < l.length), w'.cell? ⟨bb, o + j, none⟩ = some (.string l[j]) := fun j hj => e.keep (h j hj)
theorem cells_tail {w : World} {bb o : Nat} {l : List ByteArray} (h : ∀ j (h : j < l.length), w.cell? ⟨bb, o + j, none⟩ = some (.string l[j])) : ∀ j (h : j < l.tail.length), w.cell? ⟨bb, o + 1 + j, none⟩ = some (.string l.tail[j]) := by
  intro j hj
  have hj' : j + 1 < l.length := by simp at hj; omega
  have e : o + 1 + j = o + (j + 1) := by omega
  rw [e, h (j + 1) hj']
  simp

set_option maxHeartbeats 4000000 in
set_option maxRecDepth 100000 in
theorem words_walk (v : Value) (l0 : List UInt8) (e b k n : Int) (s : ByteArray) (w : World) (hv : ByteSlice w v l0) (he0 : 0 ≤ e) (he1 : e < 4294967296) (hb0 : 0 ≤ b) (hb1 : b < 65536) (hk0 : 0 ≤ k) (hk1 : k < 256) (hn0 : 0 ≤ n) (hn1 : n < 256) :
    Calls Try.prog 8 #[v, .int .u32 e, .int .u16 b, .int .u8 k, .string s, .int .u8 n] w fun x w' => x = .returned (.bool true) ∧ Ext w w' := by
  by_cases hs : 100 < s.size
  · have hs' : (100 : Int) < s.size := by omega
    go_enter Try.func8, Try.ntmps8
    go_wp2_with (go_at_call 11; refine (law11_known _).mono ?_; rintro x w' ⟨rfl, hx⟩)
    go_ret
    exact ⟨rfl, (by repeat (first | with_reducible exact Ext.refl _ | with_reducible assumption | with_reducible refine Ext.alloc ?_ _ | with_reducible refine Ext.drew ?_ | with_reducible refine Ext.trans ?_ (by with_reducible assumption)))⟩
  have hs' : ¬ (100 : Int) < s.size := by omega
  have hsm : s.size ≤ maxLen := Nat.le_trans (by omega : s.size ≤ 100) (by decide)
  have hR := own_right l0 e b k he0 he1 hb0 hb1 hk0
  have HF := Lib.hid (fun j hj => parse_fewer hR j hj)
  have HM := Lib.hid (parse_more hR s)
  have HO := Lib.hid (parse_other hR s)
  have HP := Lib.hid (print_parse hR (by omega) (by omega))
  have hL := words_len hR
  have hne : printWords (lawPre l0) (1 + e) (1 + b) (1 + k % 3) ≠ [] := by intro q; rw [q] at hL; simp at hL
  generalize hl : printWords (lawPre l0) (1 + e) (1 + b) (1 + k % 3) = l at *
  have HL := Lib.hid hl
  obtain ⟨hL4, hL5⟩ := hL
  have HNE := Lib.hid hne
  clear hs hl hR hne
  have hps := Nat.le_trans (lawPre_size l0) (by decide : 12 ≤ maxLen)
  go_enter Try.func8, Try.ntmps8
  go_wp2_with fail
  refine (law11_Rule v l0 e b k _ hv he0 he1 hb0 hb1 hk0 hk1).mono ?_
  rintro x w1 ⟨rfl, hx1⟩
  go_wp2_with fail
  refine (rule_Print _ _ _ _ _ hps (by omega) (by omega) (by omega) (by omega)).mono ?_
  rw [HL.out]
  rintro x w2 ⟨v2, rfl, hs2, hcap, hx2⟩
  obtain ⟨⟨a, c, rfl, hcells⟩, hlen, heach⟩ := hs2
  obtain ⟨bb, o, rfl, hc⟩ := hcells HNE.out
  obtain ⟨hlc, hcm⟩ := hcap _ _ _ rfl
  have HC := Lib.hid hc
  have HEA := Lib.hid heach
  clear hcells hcap hc heach
  have hq0 : 0 ≤ n % (l.length : Int) := Int.emod_nonneg _ (by omega)
  have hq1 : n % (l.length : Int) < l.length := Int.emod_lt_of_pos _ (by omega)
  have hq2 : n % (l.length : Int) ≤ (c : Int) := by omega
  have hc0 : c ≠ 0 := by omega
  go_wp2_with fail
  refine (rule_Parse _ (l.take (n % (l.length : Int)).toNat) _ (StrSlice.take HC.out hlen HEA.out _ (by omega))).mono ?_
  rw [HF.out _ (by omega)]
  rintro x w3 ⟨rfl, hx3⟩
  simp only [PRes.v, pbad, parseRet]
  have hstr : (Try.prog.info? 9).map (fun i => (i.zero, i.size, i.bytes)) = some (some (.string ⟨#[]⟩), 1, 16) := by kernel_rfl
  obtain ⟨i0, hi, hz0, hz1, hz2⟩ := info_parts hstr
  have HI := Lib.hid (And.intro hi (And.intro hz0 (And.intro hz1 hz2)))
  clear hi hz0 hz1 hz2 hstr
  have hl16 : (0 + l.length) * 16 ≤ 140737488355328 := by omega
  have hl17 : (0 + l.length + 1) * 16 ≤ 140737488355328 := by omega
  have hl18 : 0 + l.length ≤ maxLen := by omega
  have hl19 : 0 + l.length + 1 ≤ maxLen := Nat.le_trans (by omega : _ ≤ 6) (by decide)
  have HLL := Lib.hid (And.intro hl16 (And.intro hl17 (And.intro hl18 hl19)))
  clear hl16 hl17 hl18 hl19
  go_wp2_with (first
    | (at_builtin
       refine wpList_append_own _ rfl (.tmp 53) (.tmp 54) 38 rfl w3.heap.size 9 i0 (.string ⟨#[]⟩) 1 16 Try.underlying38 HI.out.1 HI.out.2.1 HI.out.2.2.1 HI.out.2.2.2 rfl (by decide) (.slice none 0 0) 0 [] rfl (World.ownsRow_nil _ _ _ _) ⟨bb, o, none⟩ l.length c (l.map .string) rfl (by simp) (holds_map (cells_ext HC.out (hx3.alloc _))) (one_strs l) HLL.out.2.2.1 HLL.out.1 (by simp) ?_
       rintro v4 w4 hown4 hg4 -
       have hx4 := (hx3.alloc _).grown hg4
       have HOWN4 := Lib.hid hown4
       have hx43 : Ext w3 w4 := ((Ext.refl w3).alloc _).grown hg4
       clear hown4 hg4)
    | (at_builtin
       refine wpList_append_own _ rfl (.tmp 56) (.tmp 58) 38 rfl w3.heap.size 9 i0 (.string ⟨#[]⟩) 1 16 Try.underlying38 HI.out.1 HI.out.2.1 HI.out.2.2.1 HI.out.2.2.2 rfl (by decide) v4 _ _ rfl (HOWN4.out.alloc _) ⟨_, 0, none⟩ 1 1 [.string s] rfl rfl (holds_blk (C := [.string s]) (Blk.new _ _ _)) (one_strs [s]) HLL.out.2.2.2 HLL.out.2.1 (by have := hx43.sz; simp; omega) ?_
       rintro v5 w5 hown5 hg5 -
       have hx5 := Ext.grownOwn (hx4.alloc _) (HOWN4.out.alloc _) hx3.sz hg5
       have HOWN5 := Lib.hid hown5
       clear hown5 hg5)
    | fail)
  have hown5 : w5.ownsRow w3.heap.size 9 1 v5 (0 + l.length + 1) ((l ++ [s]).map Value.string) := by
    have := HOWN5.out
    simpa using this
  refine (rule_Parse v5 (l ++ [s]) _ (StrSlice.own (l ++ [s]) hown5 (by intro q hq; rcases List.mem_append.1 hq with h | h; exact HEA.out q h; rw [List.mem_singleton.1 h]; exact hsm))).mono ?_
  rw [HM.out]
  rintro x w6 ⟨rfl, hx6⟩
  clear hown5
  simp only [PRes.v, pbad, parseRet]
  have hx6' := hx5.trans hx6
  have hc1 : c ≠ 1 := by omega
  have hl1 : 1 ≤ l.length := by omega
  have hlc' : 1 ≤ c := by omega
  have ht16 : (1 + (l.length - 1)) * 16 ≤ 140737488355328 := by omega
  have ht18 : 1 + (l.length - 1) ≤ maxLen := by omega
  have HTL := Lib.hid (And.intro ht16 ht18)
  clear ht16 ht18
  go_wp2_with (first
    | (at_builtin
       refine wpList_append_own _ rfl (.tmp 68) (.tmp 70) 38 rfl w6.heap.size 9 i0 (.string ⟨#[]⟩) 1 16 Try.underlying38 HI.out.1 HI.out.2.1 HI.out.2.2.1 HI.out.2.2.2 rfl (by decide) (.slice (some ⟨w6.heap.size + 1, 0, none⟩) 1 1) 1 [.string s] rfl (own_blk (b := w6.heap.size + 1) (C := [.string s]) (Blk.new' _ _ _ (by simp)) rfl (by decide) (by omega)) ⟨bb, o + 1, none⟩ (l.length - 1) (c - 1) (l.tail.map .string) rfl (by simp) (holds_map (cells_tail (cells_ext HC.out (Ext.alloc (Ext.alloc hx6' _) _)))) (one_strs l.tail) HTL.out.2 HTL.out.1 (by simp; omega) ?_
       rintro v7 w7 hown7 hg7 -
       have hx7 := Ext.grownOwn (Ext.alloc (Ext.alloc hx6' _) _) (own_blk (n := 1) (b := w6.heap.size + 1) (C := [.string s]) (Blk.new' _ _ _ (by simp)) rfl (by decide) (by omega)) hx6'.sz hg7
       have HOWN7 := Lib.hid hown7
       clear hown7 hg7)
    | fail)
  have hown7 : w7.ownsRow w6.heap.size 9 1 v7 (1 + (l.length - 1)) ((s :: l.tail).map Value.string) := by
    have := HOWN7.out
    simpa using this
  have hea7 : ∀ q ∈ s :: l.tail, q.size ≤ maxLen := by
    intro q hq
    rcases List.mem_cons.1 hq with h | h
    · rw [h]; exact hsm
    · exact HEA.out q (List.mem_of_mem_tail h)
  have hls : StrSlice w7 v7 (s :: l.tail) := StrSlice.own (s :: l.tail) hown7 hea7
  clear hown7 hea7
  obtain ⟨h0, l1, rfl⟩ : ∃ h0 l1, l = h0 :: l1 := List.exists_cons_of_ne_nil HNE.out
  have c0 : w7.cell? ⟨bb, o, none⟩ = some (.string h0) := hx7.keep (HC.out 0 (by simp))
  by_cases hsame : s = h0
  · subst hsame
    refine (rule_Parse v7 _ _ hls).mono ?_
    have e1 : (s :: (s :: l1).tail) = s :: l1 := rfl
    rw [e1, HP.out]
    rintro x w8 ⟨rfl, hx8⟩
    simp only [PRes.v, parseRet]
    have c1 := hx8.keep c0
    have hbl := cell_lt c1
    go_wp2_with fail
    refine (law11_known _).mono ?_
    rintro x w9 ⟨rfl, hx9⟩
    go_wp2
    have hxe : Ext w w9 := hx1.trans (hx2.trans (hx7.trans ((hx8.alloc _).trans hx9)))
    go_ret
    exact ⟨rfl, hxe⟩
  · have hne1 : (s.toList == h0.toList) = false := by
      rw [ByteArray.toList_eq, ByteArray.toList_eq]
      simp
      intro q
      apply hsame
      cases s; cases h0
      simp_all
    refine (rule_Parse v7 _ _ hls).mono ?_
    rw [HO.out (by simpa using hsame)]
    rintro x w8 ⟨rfl, hx8⟩
    simp only [PRes.v, pbad, parseRet]
    have c1 := hx8.keep c0
    have hbl := cell_lt c1
    go_wp2_with fail
    refine (law11_known _).mono ?_
    rintro x w9 ⟨rfl, hx9⟩
    go_wp2
    have hxe : Ext w w9 := hx1.trans (hx2.trans (hx7.trans ((hx8.alloc _).trans hx9)))
    go_ret
    exact ⟨rfl, hxe⟩
end Go.Proofs.Ytphbhinobdkidaa
