/- Walks: (*node).split. Walks: (*node).grow. -/
import Derived.Deep.RegionHeld3
import Derived.Deep.QuietTactic
import Derived.BigQuiet
import Derived.Test.YtknlojlcahgnoaaGreatEb28

namespace Go.Proofs.YtknlojlcahgnoaaGreat
open Go.RowKit
set_option linter.unusedVariables false
set_option linter.unusedSimpArgs false

theorem part_get {x : Nd} {i : Nat} (h : i < x.part.size) : x.path[x.plen + i]? = some x.part[i] := by
  have e : (x.path.drop x.plen)[i]? = some x.part[i] := by rw [← part_list, List.getElem?_eq_getElem (by rw [data_len]; exact h), data_get x.part i h]
  rw [List.getElem?_drop] at e
  exact e

theorem cell_other {w : World} {b c i j : Nat} {v : Value} (h : b ≠ c) : (w.setCell ⟨c, j, none⟩ v).cell? ⟨b, i, none⟩ = w.cell? ⟨b, i, none⟩ := by
  unfold World.cell?
  rw [Below.heap_setCell _ _ _ _ (show b ≠ c from h)]
theorem extB_cell {w w' : World} {b c i : Nat} {v : Value} (h : ExtB b w.drew w') (e : w.cell? ⟨c, i, none⟩ = some v) (ne : c ≠ b) : w'.cell? ⟨c, i, none⟩ = some v := by
  have hlt := cell_lt e
  have hb := h.block c hlt ne
  unfold World.cell? at e ⊢
  simp only at hb ⊢
  rw [hb]
  exact e
theorem below_extB {lo b : Nat} {x y z : World} (h : Below lo x y) (e : ExtB b y z) (hb : lo ≤ b) (hs : lo ≤ y.heap.size) : Below lo x z :=
  ⟨e.os.trans (Below.os h), e.tape.trans (Below.tape h), e.output.trans (Below.output h), Nat.le_trans (Below.size h) e.size, fun k hk => (e.block k (by omega) (by omega)).trans (Below.block h k hk)⟩
theorem rest_part (o : Nd) (i : Nat) (h : i ≤ o.part.size) : (restOf o i).part = o.part.extract i o.part.size := by
  rw [str_eq_iff, Lib.extract_to_end, part_list, part_list]
  show o.path.drop (o.plen + i) = _
  rw [List.drop_drop]
theorem half_part (o : Nd) (a mb i : Nat) (d : UInt8) : (halfOf o a mb i d).part = o.part.extract 0 i := by
  rw [str_eq_iff, Lib.extract_data, part_list, part_list]
  show (o.path.take (o.plen + i)).drop o.plen = _
  rw [List.drop_zero, Nat.sub_zero, List.drop_take]
  congr 1
  omega

/-- blocks of rules lie as they lay -/
def RulesKept (w w' : World) : Prop := ∀ k C, Blk w k C 37 → Blk w' k C 37
theorem RulesKept.refl (w : World) : RulesKept w w := fun _ _ h => h
theorem RulesKept.trans {x y z : World} (h : RulesKept x y) (k : RulesKept y z) : RulesKept x z := fun b C q => k b C (h b C q)
theorem Ext.rk {x y : World} (h : Ext x y) : RulesKept x y := fun b C q => q.ext h

set_option maxHeartbeats 1000000 in
set_option maxRecDepth 100000 in
theorem node_split (lo root : Nat) (many : Int) (ns : NSet) (n o : Nd) (i j : Nat) (c : UInt8) (w : World) (hT : TreeAt w lo root many ns) (hn : n ∈ ns) (ho : o ∈ ns) (hk : (c, o.a, j) ∈ n.kids) (hi0 : 0 < i) (hi1 : o.plen + i < o.path.length) (hlo : lo ≤ w.heap.size) :
    Calls Tryz.prog 169 #[.pointer (some ⟨n.a, 0, none⟩), .pointer (some ⟨o.a, 0, none⟩), .int .i64 i] w fun x w' => ∃ d, x = .returned (.pointer (some ⟨w.heap.size + 1, 0, none⟩)) ∧ o.path[o.plen + i]? = some d ∧
      TreeAt w' lo root many (splitTo ns n o (w.heap.size + 1) w.heap.size i c d) ∧ Below lo w w' ∧ RulesKept w w' := by
  obtain ⟨p0, -, p2⟩ := Nd.cell0 (hT.cells o ho)
  obtain ⟨-, -, m2⟩ := Nd.cell0 (hT.cells n hn)
  have hps := part_size o
  have hlen := hT.len o ho
  unfold maxLen at hlen
  have hip : i < o.part.size := by omega
  have hb0 : (0 : Int) ≤ (i : Int) := by omega
  have hb1 : (i : Int) < (o.part.size : Int) := by omega
  have hb2 : (i : Int) ≤ (o.part.size : Int) := by omega
  have hz1 : o.part.size ≤ 9223372036854775807 := by omega
  have HD := Lib.hid (part_get hip)
  have u1 : (Instr.mapUpdate 205 (.map (some w.heap.size)) (.int .u8 (o.part[i].toNat : Int)) (.pointer (some ⟨o.a, 0, none⟩))).run Tryz.prog (w.alloc (.map #[] 0)).drew = .ok () (w.alloc (.map (kents [(o.part[i], o.a, 0)]) 1)).drew := run_update_new (P := Tryz.prog) Tryz.underlying205 Tryz.underlying5 (key := .int .u8 (o.part[i].toNat : Int)) rfl (es := #[]) (c := 0) rfl w.drew (.pointer (some ⟨o.a, 0, none⟩))
  have hex : 0 < (o.part.extract 0 i).size := by rw [ByteArray.size_extract]; omega
  have hc0 : c = (o.part.extract 0 i)[0] := by
    obtain ⟨o', ho', f1, f2, f3, f4⟩ := hT.trie.kid n hn _ hk
    obtain rfl := hT.trie.inj o' ho' o ho f1
    have h1 : (o'.part.extract 0 i).data.toList[0]? = some (o'.part.extract 0 i)[0] := by rw [List.getElem?_eq_getElem (by rw [data_len]; exact hex), data_get _ 0 hex]
    rw [Lib.extract_data, part_list, List.drop_zero, Nat.sub_zero, List.getElem?_take_of_lt hi0, List.getElem?_drop, Nat.add_zero, f4] at h1
    exact Option.some.inj h1
  subst hc0
  have hone : o.a ≠ root := fun e => by
    have := (hT.trie.rt ho e).1
    rw [this] at hi1
    simp at hi1
  have hkeys := hT.trie.keys n hn
  have HK := Lib.hid hkeys
  have HKK := Lib.hid hk
  have HT := Lib.hid hT
  have HI1 := Lib.hid hi1
  have hnm : n.mb ≠ o.a := hT.map_ne hn ho
  have hnml := (hT.maps n hn).lt
  have hoal := (hT.cells o ho).lt
  have hloo := (hT.low o ho).1
  have hlon := (hT.low n hn).2
  clear hT hps hlen hkeys hk hi1
  go_enter Tryz.func169, Tryz.ntmps169
  have hmm := @run_makeMap Tryz.prog
  go_upto_region 1 with fail
  go_region_held3 (fun w' => w'.cell? ⟨o.a, 0, none⟩ = some (.string o.part)) (go_keep) (fail)
  all_goals
    rename_i hHeld
    clear hHeld u1 hmm
    have hxa : Ext w ((w.alloc (.map (kents [(o.part[i], o.a, 0)]) 1)).alloc (.cells #[.string (o.part.extract 0 i), .pointer none, .map (some w.heap.size)] 208)).drew := (((Ext.refl w).alloc _).alloc _).drew
    have hma : KMap ((w.alloc (.map (kents [(o.part[i], o.a, 0)]) 1)).alloc (.cells #[.string (o.part.extract 0 i), .pointer none, .map (some w.heap.size)] 208)).drew w.heap.size [(o.part[i], o.a, 0)] 1 := KMap.ext (MapKept.heap_alloc w _).1 (((Ext.refl _).alloc _).drew)
    have hba : Blk ((w.alloc (.map (kents [(o.part[i], o.a, 0)]) 1)).alloc (.cells #[.string (o.part.extract 0 i), .pointer none, .map (some w.heap.size)] 208)).drew (w.heap.size + 1) #[.string (o.part.extract 0 i), .pointer none, .map (some w.heap.size)] 208 := (Blk.new' _ _ _ (by simp)).drew
    generalize ((w.alloc (.map (kents [(o.part[i], o.a, 0)]) 1)).alloc (.cells #[.string (o.part.extract 0 i), .pointer none, .map (some w.heap.size)] 208)).drew = wa at *
    have hoa := (HT.out.cells o ho).ext hxa
    have hna := (HT.out.maps n hn).ext hxa
    rw [Nd.cells_node _ _ hone, Nd.ty_node _ hone] at hoa
    have q0 := hoa.cell 0
    have qf := hoa.free 0
    have k0 := hba.cell 0
    have hn2 := hxa.keep m2
    obtain ⟨w3, hw3, hm3, hx3⟩ := run_kput_old (P := Tryz.prog) Tryz.underlying205 Tryz.underlying5 ((hna.other (a := ⟨o.a, 0, none⟩) hnm (.string (o.part.extract i o.part.size))).ext ((Ext.refl _).drew)) HK.out HKK.out (w.heap.size + 1)
    have HX := Lib.hid hxa
    have HMA := Lib.hid hma
    have HBA := Lib.hid hba
    have HOA := Lib.hid hoa
    have HM3 := Lib.hid hm3
    have HX3 := Lib.hid hx3
    have hne : o.a ≠ w.heap.size + 1 := by omega
    clear hxa hma hba hoa hna hm3 hx3
    have hna' : n.a ≠ o.a := fun e => by
      obtain ⟨o', ho', f1, f2, f3, f4⟩ := HT.out.trie.kid n hn _ HKK.out
      obtain rfl := HT.out.trie.inj o' ho' o ho f1
      obtain rfl := HT.out.trie.inj n hn o' ho e
      have := HI1.out
      omega
    go_upto_region 3 with fail
    have g2 : (wa.setCell ⟨o.a, 0, none⟩ (.string (o.part.extract i o.part.size))).cell? ⟨n.a, 2, none⟩ = some (.map (some n.mb)) := (cell_other hna').trans hn2
    have g0 : (wa.setCell ⟨o.a, 0, none⟩ (.string (o.part.extract i o.part.size))).cell? ⟨w.heap.size + 1, 0, none⟩ = some (.string (o.part.extract 0 i)) := (cell_other (Ne.symm hne)).trans k0
    have r2 : w3.cell? ⟨n.a, 2, none⟩ = some (.map (some n.mb)) := extB_cell HX3.out g2 (fun e => HT.out.map_ne hn hn e.symm)
    have r0 : w3.cell? ⟨w.heap.size + 1, 0, none⟩ = some (.string (o.part.extract 0 i)) := extB_cell HX3.out g0 (by omega)
    go_region_held3 (fun w' => w'.cell? ⟨n.a, 2, none⟩ = some (.map (some n.mb)) ∧ w'.cell? ⟨w.heap.size + 1, 0, none⟩ = some (.string (o.part.extract 0 i))) (go_keep) (fail)
    all_goals
      go_wp2
      go_ret
      have hb5 : Below lo w w3 := below_extB ((Below.mono HX.out hlo).setCell (p := ⟨o.a, 0, none⟩) hloo _).drew HX3.out hlon (by simpa [World.setCell] using Nat.le_trans hlo (Ext.sz HX.out))
      have hs2 : Same2 n.mb o.a w w3 := by
        intro b hb h1 h2
        refine (HX3.out.block b ?_ h1).trans ((Below.heap_setCell _ _ _ _ h2).trans (Ext.block HX.out hb))
        exact Nat.lt_of_lt_of_le hb (by simpa [World.setCell] using Ext.sz HX.out)
      refine ⟨o.part[i], rfl, HD.out, ?_, hb5, fun b C hb => hb.same2 hs2 (fun e => (HT.out.maps n hn).ne hb e.symm) (fun e => Nd.ty_rule o root (blk_ty (HT.out.cells o ho) (e ▸ hb)))⟩
      refine HT.out.split hn ho HKK.out hi0 HI1.out HD.out (Nat.le_succ _) (Nat.le_refl _) hs2 HM3.out ?_ ?_ ?_ hlo
      · rw [Nd.cells_node (restOf o i) _ hone, Nd.ty_node (restOf o i) hone, rest_part o i (by omega)]
        have := (HOA.out.set 0 (.string (o.part.extract i o.part.size))).drew.extB HX3.out (Ne.symm hnm)
        exact this
      · rw [half_part]
        exact (HBA.out.other (Ne.symm hne) _).drew.extB HX3.out (by omega)
      · exact ((HMA.out.other (a := ⟨o.a, 0, none⟩) (by show w.heap.size ≠ o.a; omega) _).ext ((Ext.refl _).drew)).extB HX3.out (by omega)
end Go.Proofs.YtknlojlcahgnoaaGreat

namespace Go.Proofs.YtknlojlcahgnoaaGreat
open Go.RowKit
set_option linter.unusedVariables false
set_option linter.unusedSimpArgs false

theorem comm_self : ∀ a : List UInt8, comm a a = a.length
  | [] => rfl
  | x :: xs => by simp [comm, comm_self xs]
theorem comm_take : ∀ (a b : List UInt8), a.take (comm a b) = b.take (comm a b)
  | [], b => by cases b <;> simp [comm]
  | x :: xs, [] => by simp [comm]
  | x :: xs, y :: ys => by
    by_cases h : x = y
    · simp [comm, h, comm_take xs ys]
    · simp [comm, h]
theorem comm_pos {a b : List UInt8} {c : UInt8} (h1 : a[0]? = some c) (h2 : b[0]? = some c) : 0 < comm a b := by
  cases a with
  | nil => simp at h1
  | cons x xs =>
    cases b with
    | nil => simp at h2
    | cons y ys =>
      simp at h1 h2
      simp [comm, h1, h2]
/-- where the loop of grow stands -/
def GrowAt (w : World) (lo root : Nat) (many : Int) (ns : NSet) (p : List UInt8) (v0 v1 : Value) (wr : World) : Prop :=
  ∃ (ns1 : NSet) (n : Nd) (s : ByteArray), v0 = .pointer (some ⟨n.a, 0, none⟩) ∧ v1 = .string s ∧ n ∈ ns1 ∧ n.path ++ s.data.toList = p ∧ TreeAt wr lo root many ns1 ∧ (∀ q r, Has ns1 q r ↔ Has ns q r) ∧ Below lo w wr ∧ RulesKept w wr
def strLen : Value → Nat
  | .string s => s.size
  | _ => 0
/-- what grow tells -/
def GrowEnd (w : World) (lo root : Nat) (many : Int) (ns : NSet) (p : List UInt8) (e : Ending) (w' : World) : Prop :=
  ∃ (ns1 : NSet) (n : Nd), e = .returned (.pointer (some ⟨n.a, 0, none⟩)) ∧ n ∈ ns1 ∧ n.path = p ∧ TreeAt w' lo root many ns1 ∧ (∀ q r, Has ns1 q r ↔ Has ns q r) ∧ Below lo w w' ∧ RulesKept w w'

set_option maxHeartbeats 2000000 in
set_option maxRecDepth 100000 in
theorem node_grow (lo root : Nat) (many : Int) (ns : NSet) (s0 : ByteArray) (w : World) (hT : TreeAt w lo root many ns) (hs : s0.size ≤ maxLen) (hlo : lo ≤ w.heap.size) :
    Calls Tryz.prog 123 #[.pointer (some ⟨root, 0, none⟩), .string s0] w (GrowEnd w lo root many ns s0.data.toList) := by
  have h0 : GrowAt w lo root many ns s0.data.toList (.pointer (some ⟨root, 0, none⟩)) (.string s0) w := by
    obtain ⟨r, hr, hra, hrp, -⟩ := hT.trie.root
    exact ⟨ns, r, s0, by rw [hra], rfl, hr, by rw [hrp]; rfl, hT, fun _ _ => Iff.rfl, Below.refl _ _, RulesKept.refl _⟩
  have H0 := Lib.hid h0
  unfold maxLen at hs
  clear h0 hT
  go_enter Tryz.func123, Tryz.ntmps123
  go_wp2
  go_loopw [0, 1] (fun v0 v1 wr => GrowAt w lo root many ns s0.data.toList v0 v1 wr) (fun _ v1 _ => strLen v1)
  case atStart => exact H0.out
  case round =>
    obtain ⟨ns1, n, s, rfl, rfl, hn, hp, hT, hH, hB, hRK⟩ := hrel
    have HRK := Lib.hid hRK
    clear hRK
    have hsl : n.path.length + s.size = s0.size := by rw [← data_len s0, ← hp, List.length_append, data_len]
    have hslo : lo ≤ wr.heap.size := Nat.le_trans hlo (Below.size hB)
    have HB := Lib.hid hB
    have HH := Lib.hid hH
    have HP := Lib.hid hp
    have hm1 : s.size ≤ maxLen := by unfold maxLen; omega
    have hm2 : s.size ≤ 9223372036854775807 := by omega
    clear hB hH hp
    by_cases hz : s.size = 0
    · have he : s.toList.isEmpty = true := by rw [ByteArray.toList_eq, List.isEmpty_iff, ← List.length_eq_zero_iff, data_len]; exact hz
      have he2 : s.toList = [] := by simpa using he
      have hd : s.data.toList = [] := by rw [← List.length_eq_zero_iff, data_len]; exact hz
      have HD := Lib.hid hd
      have HT := Lib.hid hT
      clear hT hz hsl hd
      go_wp2
      go_ret
      exact ⟨ns1, n, rfl, hn, by have := HP.out; rw [HD.out, List.append_nil] at this; exact this, HT.out, HH.out, HB.out, HRK.out⟩
    · have he : s.toList.isEmpty = false := by rw [Bool.eq_false_iff]; intro q; rw [ByteArray.toList_eq, List.isEmpty_iff, ← List.length_eq_zero_iff, data_len] at q; exact hz q
      have hpos : 0 < s.size := by omega
      have hpos2 : (0 : Int) < (s.size : Int) := by omega
      obtain ⟨-, -, m2⟩ := Nd.cell0 (hT.cells n hn)
      have hs00 : s.data.toList[0]? = some s[0] := by rw [List.getElem?_eq_getElem (by rw [data_len]; exact hpos), data_get s 0 hpos]
      have HS0 := Lib.hid hs00
      have HT := Lib.hid hT
      clear hs00 hz hT
      by_cases hkid : ∃ x ∈ n.kids, x.1 = s[0]
      · obtain ⟨⟨c, b, j⟩, hx, hc⟩ := hkid
        simp only at hc
        subst hc
        obtain ⟨o, ho, f1, f2, f3, f4⟩ := HT.out.trie.kid n hn _ hx
        simp only at f1 f4
        subst f1
        obtain ⟨p0, -, -⟩ := Nd.cell0 (HT.out.cells o ho)
        have hop : n.path ++ o.part.data.toList = o.path := by
          obtain ⟨t, ht⟩ := f3
          rw [part_list, f2, ← ht, List.drop_left]
        have HOP := Lib.hid hop
        have hps := part_size o
        have hlen := HT.out.len o ho
        have hoz := HT.out.trie.nz o ho (fun e => by rw [e] at f4; simp at f4)
        unfold maxLen at hlen
        have hm3 : o.part.size ≤ maxLen := by unfold maxLen; omega
        have hp00 : o.part.data.toList[0]? = some s[0] := by rw [part_list, List.getElem?_drop, Nat.add_zero, f4]
        have hcl := comm_le o.part.data.toList s.data.toList
        have hcp := comm_pos hp00 HS0.out
        have HTK := Lib.hid (comm_take o.part.data.toList s.data.toList)
        rw [data_len, data_len] at hcl
        obtain ⟨hcl1, hcl2⟩ := hcl
        obtain ⟨cm, hcm⟩ : ∃ cm, comm o.part.data.toList s.data.toList = cm := ⟨_, rfl⟩
        rw [hcm] at hcl1 hcl2 hcp HTK
        have HCM := Lib.hid hcm
        have hL := fun k => run_klook_yes (P := Tryz.prog) Tryz.underlying205 Tryz.underlying5 ((HT.out.maps n hn).ext (Ext.drewNs wr k)) (HT.out.trie.keys n hn) hx
        have HX0 := Lib.hid hx
        have F2 := Lib.hid f2
        have HPS := Lib.hid hps
        have hzc : (0 : Int) ≤ (cm : Int) := by omega
        have hzc2 : (cm : Int) ≤ (s.size : Int) := by omega
        clear hop hps hcm hp00 f2 f3 f4 hx
        go_upto_region 2 with fail
        go_quiet (fail)
        have q0 := (Ext.drewNs wr nq).keep p0
        have hxq := Ext.drewNs wr nq
        generalize wr.drewN nq = wq at *
        go_wp2_with fail
        refine (key_Common o.part s _ hm3 hm1).mono ?_
        rw [HCM.out]
        rintro x w4 ⟨rfl, hx4⟩
        have r4 := hx4.keep q0
        have HX4 := Lib.hid (hxq.trans hx4)
        clear hx4 hxq hL
        by_cases hlt : cm < o.part.size
        · go_wp2_with fail
          refine (node_split lo root many ns1 n o cm j s[0] _ (HT.out.ext HX4.out) hn ho HX0.out hcp (by have := HPS.out; omega) (Nat.le_trans hslo (Ext.sz HX4.out))).mono ?_
          rintro x w5 ⟨d, rfl, hd, hT5, hb5, hrk5⟩
          have HRK5 := Lib.hid hrk5
          clear hrk5
          have HT5 := Lib.hid hT5
          have HB5 := Lib.hid hb5
          clear hT5 hb5 hd
          go_wp2
          go_quiet (fail)
          go_wp2
          go_roundw
          case rel =>
            refine ⟨_, _, _, rfl, rfl, Or.inr (Or.inr (Or.inr rfl)), ?_, HT5.out.ext (Ext.drewNs _ _), fun q r => (has_split HT.out.trie hn ho q r).trans (HH.out q r), ?_, ((HRK.out.trans (Ext.rk HX4.out)).trans HRK5.out).trans (Ext.rk (Ext.drewNs _ _))⟩
            · show o.path.take (o.plen + cm) ++ _ = _
              rw [Lib.extract_to_end, ← HOP.out, F2.out, List.take_append, List.take_of_length_le (by omega), show n.path.length + cm - n.path.length = cm by omega, HTK.out, List.append_assoc, List.take_append_drop]
              exact HP.out
            · exact ((HB.out.trans (Below.mono HX4.out hslo)).trans HB5.out).trans (Below.mono (Ext.drewNs _ _) (Nat.le_trans (Nat.le_trans hslo (Ext.sz HX4.out)) HB5.out.size))
          case measure =>
            show (s.extract cm s.size).size < s.size
            rw [ByteArray.size_extract]
            omega
        · go_wp2
          go_quiet (fail)
          go_wp2
          go_roundw
          case rel =>
            refine ⟨ns1, o, _, rfl, rfl, ho, ?_, (HT.out.ext HX4.out).ext (Ext.drewNs _ _), HH.out, ?_, (HRK.out.trans (Ext.rk HX4.out)).trans (Ext.rk (Ext.drewNs _ _))⟩
            · have e := HTK.out
              rw [List.take_of_length_le (by rw [data_len]; omega)] at e
              rw [Lib.extract_to_end, ← HOP.out, e, List.append_assoc, List.take_append_drop]
              exact HP.out
            · exact (HB.out.trans (Below.mono HX4.out hslo)).trans (Below.mono (Ext.drewNs _ _) (Nat.le_trans hslo (Ext.sz HX4.out)))
          case measure =>
            show (s.extract cm s.size).size < s.size
            rw [ByteArray.size_extract]
            omega
      · have hno : ∀ x ∈ n.kids, x.1 ≠ s[0] := fun x hx e => hkid ⟨x, hx, e⟩
        have HNO := Lib.hid hno
        have hmm := @run_makeMap Tryz.prog
        have hL := fun k => run_klook_no (P := Tryz.prog) Tryz.underlying205 Tryz.underlying5 ((HT.out.maps n hn).ext (Ext.drewNs wr k)) hno (node_zero _)
        clear hno hkid
        go_upto_region 2 with fail
        go_quiet (fail)
        go_upto_region 5 with fail
        have hxa : Ext wr (((wr.drewN nq).alloc (.map #[] 0)).alloc (.cells #[.string s, .pointer none, .map (some wr.heap.size)] 208)) := ((Ext.drewNs wr nq).alloc _).alloc _
        have hma : KMap (((wr.drewN nq).alloc (.map #[] 0)).alloc (.cells #[.string s, .pointer none, .map (some wr.heap.size)] 208)) wr.heap.size [] 0 := KMap.ext (KMap.new (wr.drewN nq)) ((Ext.refl _).alloc _)
        have hba : Blk (((wr.drewN nq).alloc (.map #[] 0)).alloc (.cells #[.string s, .pointer none, .map (some wr.heap.size)] 208)) (wr.heap.size + 1) #[.string s, .pointer none, .map (some wr.heap.size)] 208 := Blk.new' _ _ _ (by simp)
        generalize ((wr.drewN nq).alloc (.map #[] 0)).alloc (.cells #[.string s, .pointer none, .map (some wr.heap.size)] 208) = wa at *
        have hna := (HT.out.maps n hn).ext hxa
        have hn2 := hxa.keep m2
        have k0 := hba.cell 0
        obtain ⟨w3, hw3, hm3, hx3⟩ := run_kput_new (P := Tryz.prog) Tryz.underlying205 Tryz.underlying5 (hna.ext ((Ext.refl _).drew)) HNO.out (wr.heap.size + 1)
        have hnml := (HT.out.maps n hn).lt
        have r2 : w3.cell? ⟨n.a, 2, none⟩ = some (.map (some n.mb)) := extB_cell hx3 hn2 (fun e => HT.out.map_ne hn hn e.symm)
        have r0 : w3.cell? ⟨wr.heap.size + 1, 0, none⟩ = some (.string s) := extB_cell hx3 k0 (by omega)
        have HX := Lib.hid hxa
        have HMA := Lib.hid hma
        have HBA := Lib.hid hba
        have HM3 := Lib.hid hm3
        have HX3 := Lib.hid hx3
        have HCS := Lib.hid ((comm_self s.data.toList).trans (data_len s))
        clear hxa hma hba hna hm3 hx3 hL hmm
        go_region_held3 (fun w' => w'.cell? ⟨n.a, 2, none⟩ = some (.map (some n.mb))) (go_keep) (fail)
        all_goals
          go_wp2_with fail
          refine (key_Common s s _ hm1 hm1).mono ?_
          rw [HCS.out]
          rintro x w4 ⟨rfl, hx4⟩
          have r4 := hx4.keep r0
          have HX4 := Lib.hid hx4
          clear hx4
          go_wp2
          go_quiet (fail)
          go_wp2
          go_roundw
          case rel =>
            obtain ⟨rest, hrest⟩ : ∃ rest, s.data.toList = s[0] :: rest := by
              have := HS0.out
              cases hd : s.data.toList with
              | nil => rw [hd] at this; simp at this
              | cons x xs => rw [hd] at this; simp at this; exact ⟨xs, by rw [this]⟩
            have hse : s = ⟨(s[0] :: rest).toArray⟩ := by rw [str_eq_iff]; simp [hrest]
            have hE : ExtB n.mb wr w3 := ((HX.out.drew).toB _).trans HX3.out
            have hB3 : Blk w3 (wr.heap.size + 1) #[.string ⟨(s[0] :: rest).toArray⟩, .pointer none, .map (some wr.heap.size)] 208 := by
              rw [← hse]; exact HBA.out.drew.extB HX3.out (by omega)
            have hK3 : KMap w3 wr.heap.size [] 0 := (HMA.out.ext ((Ext.refl _).drew)).extB HX3.out (by omega)
            have hT3 := HT.out.addLeaf hn HNO.out (Nat.le_succ _) (Nat.le_refl _) hE HM3.out hB3 hK3 (by rw [List.length_append, ← hrest, data_len]; unfold maxLen; omega) hslo
            refine ⟨_, _, _, rfl, rfl, Or.inr (Or.inr rfl), ?_, (hT3.ext HX4.out).ext (Ext.drewNs _ _), fun q r => (has_leaf HT.out.trie hn q r).trans (HH.out q r), ?_, ((HRK.out.trans (fun b C hb => hb.extB hE (fun e => (HT.out.maps n hn).ne hb e.symm))).trans (Ext.rk HX4.out)).trans (Ext.rk (Ext.drewNs _ _))⟩
            · show (n.path ++ s[0] :: rest) ++ _ = _
              rw [← hrest, show (ByteArray.empty).data.toList = [] from rfl, List.append_nil]
              exact HP.out
            · exact ((HB.out.trans (below_extB (Below.refl _ _) hE (HT.out.low n hn).2 hslo)).trans (Below.mono HX4.out (Nat.le_trans hslo hE.size))).trans (Below.mono (Ext.drewNs _ _) (Nat.le_trans (Nat.le_trans hslo hE.size) (Ext.sz HX4.out)))
          case measure =>
            show 0 < s.size
            omega
end Go.Proofs.YtknlojlcahgnoaaGreat
