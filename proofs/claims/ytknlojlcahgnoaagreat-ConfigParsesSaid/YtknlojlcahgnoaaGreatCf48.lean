/- Walk: tollerref10.Join. Walk: tollerref12.Print. Walks: tollerlaw12.Bent, tollerlaw10.Text: some bytes. Walk: tollerlaw10.Text: some bytes. Walk: tollerlaw12.ConfigParses. Walk: tollerlaw12.prints. Plain: what is read is right, and in order. -/
import Derived.SizedLaws
import Derived.Test.YtknlojlcahgnoaaGreatCf45
import Derived.Test.YtknlojlcahgnoaaGreatCf34
import Derived.Test.YtknlojlcahgnoaaGreatCf47
import Derived.Test.YtknlojlcahgnoaaGreatCf42
import Derived.Test.YtknlojlcahgnoaaGreatCf30
import Derived.Test.YtknlojlcahgnoaaGreatCf44

namespace Go.Proofs.YtknlojlcahgnoaaGreat
open Go.RowKit
set_option linter.unusedVariables false
set_option linter.unusedSimpArgs false

theorem joinL_cons2 (a b : ByteArray) (r : List ByteArray) : joinL (a :: b :: r) = a.data.toList ++ (32 :: joinL (b :: r)) := by
  simp [joinL, Lib.join, List.intercalate]
theorem joinL_snoc : ∀ (l : List ByteArray) (s : ByteArray), joinL (l ++ [s]) = joinL l ++ (if l = [] then [] else [32]) ++ s.data.toList
  | [], s => by simp [joinL, Lib.join, List.intercalate]
  | [a], s => by
    show joinL (a :: s :: []) = _
    rw [joinL_cons2]
    simp [joinL, Lib.join, List.intercalate]
  | a :: b :: r, s => by
    have ih := joinL_snoc (b :: r) s
    show joinL (a :: b :: (r ++ [s])) = _
    rw [joinL_cons2, show b :: (r ++ [s]) = (b :: r) ++ [s] from rfl, ih, joinL_cons2]
    simp
theorem joinL_take_le (ws : List ByteArray) (i : Nat) : (joinL (ws.take i)).length ≤ (joinL ws).length := by
  induction i with
  | zero => simp [joinL, Lib.join, List.intercalate]
  | succ i ih =>
    by_cases h : i < ws.length
    · have e : ws = ws.take (i + 1) ++ ws.drop (i + 1) := (List.take_append_drop _ _).symm
      have key : ∀ (a b : List ByteArray), (joinL a).length ≤ (joinL (a ++ b)).length := by
        intro a b
        induction b using list_snoc' with
        | h0 => simp
        | h1 b x ihb =>
          rw [← List.append_assoc, joinL_snoc, List.length_append, List.length_append]
          omega
      have := key (ws.take (i + 1)) (ws.drop (i + 1))
      rwa [← e] at this
    · rw [List.take_of_length_le (by omega)]
      exact Nat.le_refl _
set_option maxHeartbeats 4000000 in
set_option maxRecDepth 100000 in
theorem ref10_Join (v : Value) (ls : List (List ByteArray)) (w : World) (h : LinesStr w v ls) (hl : ls.length ≤ 1000000) (hw : ∀ l ∈ ls, l.length ≤ 1000000) (hj : (joinText ls).length ≤ 1000000000000) :
    Calls Tryz.prog 85 #[v] w fun x w' => ∃ v', x = .returned v' ∧ BytesOwn w.heap.size w' v' (joinText ls) ∧ Ext w w' := by
  have HLS := Lib.hid h
  have HW := Lib.hid hw
  obtain ⟨a, c, rfl, -⟩ := h
  obtain ⟨i1, hi, hz0, hz1, hz2⟩ := info_parts byte_info
  have HI1 := Lib.hid (And.intro hi (And.intro hz0 (And.intro hz1 hz2)))
  have hml : (2000000000000 : Nat) ≤ maxLen := by decide
  clear hi hz0 hz1 hz2 hw
  go_enter Tryz.func85, Tryz.ntmps85
  go_wp2_with fail
  go_loopw [3, 4] (fun ov i wr => ∃ k : Nat, k ≤ ls.length ∧ i = .int .i64 k ∧ BytesOwn w.heap.size wr ov (joinText (ls.take k)) ∧ Ext w wr) (fun _ i _ => ls.length - (intOf i).toNat)
  case atStart => exact ⟨0, by omega, rfl, World.ownsRow_nil _ _ _ _, Ext.refl _⟩
  case round =>
    obtain ⟨k, hk, rfl, hb, hx⟩ := hrel
    have HB := Lib.hid hb
    have HX := Lib.hid hx
    by_cases hlt : k < ls.length
    · obtain ⟨a', c', hv, hll⟩ := HLS.out
      simp only [Value.slice.injEq] at hv
      obtain ⟨rfl, -, -⟩ := hv
      obtain ⟨b, o, rfl, hcc⟩ := hll (by intro e; rw [e] at hlt; simp at hlt)
      obtain ⟨xv, hxc, hws, -⟩ := hcc k hlt
      have hwl := HW.out ls[k] (List.getElem_mem _)
      have htk : ls.take (k + 1) = ls.take k ++ [ls[k]] := List.take_succ_eq_append_getElem hlt
      have hjt := joinText_take ls (k + 1)
      rw [htk, joinText_snoc, List.length_append, List.length_append] at hjt
      have HTK : Hid (joinText (ls.take (k + 1)) = joinText (ls.take k) ++ (joinL ls[k] ++ [10])) := Lib.hid (by rw [htk, joinText_snoc])
      have HLE := Lib.hid (joinL_take_le ls[k])
      generalize ls[k] = ws at *
      generalize joinText (ls.take k) = Z at *
      obtain ⟨⟨wa, wc, rfl, hwc⟩, -, -⟩ := hws
      have HWC : Hid (ws ≠ [] → ∃ b o, wa = some ⟨b, o, none⟩ ∧ ∀ j (h : j < ws.length), w.cell? ⟨b, o + j, none⟩ = some (.string ws[j])) := Lib.hid hwc
      have hjz : (joinL ws).length ≤ 1000000000000 := by omega
      have hzz : Z.length + (joinL ws).length + 1 ≤ 1000000000001 := by simp at hjt; omega
      have hxc1 := hx.keep hxc
      clear hb hx hll hcc htk hjt hwc
      go_wp2_with fail
      go_loopw [3, 5] (fun ov i wz => ∃ j : Nat, j ≤ ws.length ∧ i = .int .i64 j ∧ BytesOwn w.heap.size wz ov (Z ++ joinL (ws.take j)) ∧ Ext w wz) (fun _ i _ => ws.length - (intOf i).toNat)
      case atStart => exact ⟨0, by omega, rfl, by rw [List.take_zero, show joinL [] = [] from rfl, List.append_nil]; exact HB.out, HX.out⟩
      case round =>
        obtain ⟨j, hj, rfl, hbz, hxz⟩ := hrel
        have HBZ := Lib.hid hbz
        have HXZ := Lib.hid hxz
        have hszz := hxz.sz
        have d1 := hxz.keep hxc
        have hle := HLE.out j
        clear hbz hxz
        by_cases hjl : j < ws.length
        · obtain ⟨wb, wo, rfl, hcw⟩ := HWC.out (by intro e; rw [e] at hjl; simp at hjl)
          have cw := hcw j hjl
          have d2 := HXZ.out.keep cw
          have HJN : Hid (joinL (ws.take (j + 1)) = joinL (ws.take j) ++ (if j = 0 then [] else [32]) ++ ws[j].data.toList) := Lib.hid (by
            rw [List.take_succ_eq_append_getElem hjl, joinL_snoc]
            congr 3
            apply propext
            constructor
            · intro e
              have h2 : (ws.take j).length = 0 := by rw [e]; rfl
              rw [List.length_take] at h2
              omega
            · intro e; subst e; rfl)
          have hle2 := HLE.out (j + 1)
          rw [HJN.out, List.length_append, List.length_append] at hle2
          generalize joinL (ws.take j) = Y at *
          generalize ws[j] = t at *
          have HCW := Lib.hid cw
          clear hcw cw
          obtain ⟨wz, hwz⟩ : ∃ wz, wz = wr := ⟨_, rfl⟩
          subst hwz
          go_upto_if 23 with fail
          go_cut [3] from 24 to 26 (fun x3 wx => BytesOwn w.heap.size wx x3 (Z ++ Y ++ (if j = 0 then [] else [32])) ∧ Ext w wx)
          case first =>
            cases j with
            | zero =>
              go_wp2_with fail
              go_meet
              exact ⟨by simpa using HBZ.out, HXZ.out⟩
            | succ j =>
              have hj0 : (0 : Int) < ((j + 1 : Nat) : Int) := by omega
              have hlz : (Z ++ Y).length ≤ 1000000000001 := by rw [List.length_append]; omega
              go_wp2_with (first
                | (at_builtin; refine wpList_append_own _ rfl (.tmp 24) (.tmp 25) 22 rfl w.heap.size 5 i1 (.int .u8 0) 1 1 Tryz.underlying22 HI1.out.1 HI1.out.2.1 HI1.out.2.2.1 HI1.out.2.2.2 rfl (by decide) _ _ _ rfl (HBZ.out.alloc _) ⟨wz.heap.size, 0, none⟩ 1 1 [.int .u8 32] rfl rfl (blk_news (C := #[.int .u8 32]) (Blk.new _ _ _)) (by simp [Value.oneCell']) (by omega) (by omega) (by simp; omega) ?_; rintro v' w6 hown hgrow -)
                | fail)
              have hx7 : Ext w w6 := Ext.grownAt (HXZ.out.alloc _) (HBZ.out.alloc _) (Nat.le_refl _) hgrow
              clear hgrow
              go_wp2_with fail
              go_meet
              exact ⟨by have h := bytesOwn_snoc (b := 32) hown; simpa using h, hx7⟩
          case rest =>
            obtain ⟨hb5, hx5⟩ := hcut
            have hxl : (Z ++ Y ++ (if j = 0 then [] else [32])).length + t.data.toList.length ≤ 1000000000001 := by simp only [List.length_append] at hle2 ⊢; omega
            have HNX : Hid (Z ++ joinL (ws.take (j + 1)) = (Z ++ Y ++ (if j = 0 then [] else [32])) ++ t.data.toList) := Lib.hid (by rw [HJN.out]; simp only [List.append_assoc])
            have HB5 := Lib.hid hb5
            have HX5 := Lib.hid hx5
            have hts := data_len t
            generalize Z ++ Y ++ (if j = 0 then [] else [32]) = V at *
            clear hb5 hx5 HBZ HXZ d1 d2
            go_wp2_with fail
            go_loopw [3, 6] (fun ov i wy => ∃ m : Nat, m ≤ t.size ∧ i = .int .i64 m ∧ BytesOwn w.heap.size wy ov (V ++ t.data.toList.take m) ∧ Ext w wy) (fun _ i _ => t.size - (intOf i).toNat)
            case atStart => exact ⟨0, by omega, rfl, by rw [List.take_zero, List.append_nil]; exact HB5.out, HX5.out⟩
            case round =>
              obtain ⟨m, hm, rfl, hby, hxy⟩ := hrel
              have HBY := Lib.hid hby
              have HXY := Lib.hid hxy
              have hszy := hxy.sz
              have e1 := hxy.keep hxc
              have e2 := hxy.keep HCW.out
              have hlv : (V ++ t.data.toList.take m).length ≤ 1000000000001 := by rw [List.length_append, List.length_take]; omega
              clear hby hxy
              by_cases hml2 : m < t.size
              · have hm1 : (m : Int) < (t.size : Int) := by omega
                have hg := data_get t m hml2
                have HTK2 : Hid (V ++ t.data.toList.take (m + 1) = (V ++ t.data.toList.take m) ++ [t[m]]) := Lib.hid (by rw [List.take_succ_eq_append_getElem (by omega), List.append_assoc, hg])
                generalize V ++ t.data.toList.take m = VM at *
                clear hg
                go_wp2_with (first
                  | (at_builtin; refine wpList_append_own _ rfl (.tmp 39) (.tmp 49) 22 rfl w.heap.size 5 i1 (.int .u8 0) 1 1 Tryz.underlying22 HI1.out.1 HI1.out.2.1 HI1.out.2.2.1 HI1.out.2.2.2 rfl (by decide) _ _ _ rfl (HBY.out.alloc _) ⟨wr.heap.size, 0, none⟩ 1 1 [_] rfl rfl (blk_news (C := #[_]) (Blk.new _ _ _)) (by simp [Value.oneCell']) (by omega) (by omega) (by simp; omega) ?_; rintro v' w6 hown hgrow -)
                  | fail)
                have hx7 : Ext w w6 := Ext.grownAt (HXY.out.alloc _) (HBY.out.alloc _) (Nat.le_refl _) hgrow
                clear hgrow
                go_wp2
                go_roundw
                case rel => exact ⟨m + 1, by omega, by go_num, by rw [HTK2.out]; exact bytesOwn_snoc hown, hx7⟩
                case measure => simp [intOf]; omega
              · have hmt : m = t.size := by omega
                have hm1 : ¬ (m : Int) < (t.size : Int) := by omega
                have htk : t.data.toList.take m = t.data.toList := List.take_of_length_le (by omega)
                have HTK2 := Lib.hid htk
                clear htk
                go_wp2_with fail
                go_roundw
                case rel => exact ⟨j + 1, by omega, by go_num, by rw [HNX.out, ← HTK2.out]; exact HBY.out, HXY.out⟩
                case measure => simp [intOf]; omega
        · have hjl2 : j = ws.length := by omega
          subst hjl2
          have htk : ws.take ws.length = ws := List.take_of_length_le (Nat.le_refl _)
          have HTW := Lib.hid htk
          have hlz : (Z ++ joinL (ws.take ws.length)).length ≤ 1000000000001 := by rw [List.length_append]; omega
          clear htk
          go_wp2_with (first
            | (at_builtin; refine wpList_append_own _ rfl (.tmp 51) (.tmp 52) 22 rfl w.heap.size 5 i1 (.int .u8 0) 1 1 Tryz.underlying22 HI1.out.1 HI1.out.2.1 HI1.out.2.2.1 HI1.out.2.2.2 rfl (by decide) _ _ _ rfl (HBZ.out.alloc _) ⟨wr.heap.size, 0, none⟩ 1 1 [.int .u8 10] rfl rfl (blk_news (C := #[.int .u8 10]) (Blk.new _ _ _)) (by simp [Value.oneCell']) (by omega) (by omega) (by simp; omega) ?_; rintro v' w6 hown hgrow -)
            | fail)
          have hx7 : Ext w w6 := Ext.grownAt (HXZ.out.alloc _) (HBZ.out.alloc _) (Nat.le_refl _) hgrow
          clear hgrow
          go_wp2
          go_roundw
          case rel => exact ⟨k + 1, by omega, by go_num, by have h := bytesOwn_snoc (b := 10) hown; rw [HTW.out] at h; rw [HTK.out]; simpa using h, hx7⟩
          case measure => simp [intOf]; omega
    · have hkl : k = ls.length := by omega
      subst hkl
      rw [List.take_length] at hb
      have hbo := Lib.hid hb
      clear hb
      go_wp2_with fail
      go_ret
      exact ⟨_, rfl, hbo.out, hx⟩
end Go.Proofs.YtknlojlcahgnoaaGreat

namespace Go.Proofs.YtknlojlcahgnoaaGreat
open Go.RowKit
set_option linter.unusedVariables false
set_option linter.unusedSimpArgs false

set_option maxHeartbeats 4000000 in
set_option maxRecDepth 100000 in
theorem ref12_Print_bad (most : Int) (v : Value) (rs : List Rl) (w : World) (hm0 : -9223372036854775808 ≤ most) (hm1 : most ≤ 9223372036854775807) (hv : RulesAt w v rs) (hro : ∀ r ∈ rs, RlOk r) (hlen : rs.length ≤ 1000000000) (hok : cfgErr most rs ≠ 0) :
    Calls Tryz.prog 37 #[.agg #[.int .i64 most, v]] w fun x w' => x = .returned (.tuple #[.slice none 0 0, .int .i64 (cfgErr most rs)]) ∧ Ext w w' := by
  obtain ⟨a, c, rfl⟩ := hv.size
  have x0 : Ext w (w.alloc (.cells #[.int .i64 most, .slice a rs.length c] 28)) := (Ext.refl w).alloc _
  have bP := Blk.new w #[.int .i64 most, .slice a rs.length c] 28
  have hv0 := hv.ext Rl.size4 x0
  generalize hw0 : w.alloc (.cells #[.int .i64 most, .slice a rs.length c] 28) = w0 at *
  have HRI := Lib.hid (fun V (e : Ext w0 V) => ref12_Right most (.slice a rs.length c) rs V hm0 hm1 (hv0.ext Rl.size4 e) hro hlen)
  clear hv
  generalize cfgErr most rs = E at *
  have hz : (E == 0) = false := by simpa using hok
  have hz2 : decide (E = 0) = false := by simpa using hok
  go_enter Tryz.func37, Tryz.ntmps37
  go_upto_region 1 with fail
  have c0 : w0.cell? ⟨w.heap.size, 0, none⟩ = some (.int .i64 most) := bP.cell 0
  have c1 : w0.cell? ⟨w.heap.size, 1, none⟩ = some (.slice a rs.length c) := bP.cell 1
  have HX0 := Lib.hid x0
  have HBP := Lib.hid bP
  clear bP x0 hw0 hv0
  go_wp2_with (first
    | (go_at_call 39; refine (HRI.out _ (Ext.refl _)).mono ?_; rintro x w1 ⟨rfl, hx1⟩; have d0 := hx1.keep c0; have d1 := hx1.keep c1; have HX1 := Lib.hid hx1; clear hx1 c0 c1)
    | (go_at_call 39; refine (HRI.out _ HX1.out).mono ?_; rintro x w2 ⟨rfl, hx2⟩)
    | fail)
  go_ret2
  exact ⟨rfl, HX0.out.trans (HX1.out.trans hx2)⟩
set_option maxHeartbeats 4000000 in
set_option maxRecDepth 100000 in
theorem ref12_Print_ok (most : Int) (v : Value) (rs : List Rl) (w : World) (hm0 : -9223372036854775808 ≤ most) (hm1 : most ≤ 9223372036854775807) (hv : RulesAt w v rs) (hro : ∀ r ∈ rs, RlOk r) (hlen : rs.length ≤ 1000000000) (hok : cfgErr most rs = 0) :
    Calls Tryz.prog 37 #[.agg #[.int .i64 most, v]] w fun x w' => ∃ v', x = .returned (.tuple #[v', .int .i64 0]) ∧ BytesOwn w.heap.size w' v' (prText most rs) ∧ Ext w w' := by
  obtain ⟨a, c, rfl⟩ := hv.size
  obtain ⟨z1, z2, z3⟩ := cfg_zero hok
  obtain ⟨y1, y2, y3⟩ := prLines_len hro hok
  have x0 : Ext w (w.alloc (.cells #[.int .i64 most, .slice a rs.length c] 28)) := (Ext.refl w).alloc _
  have bP := Blk.new w #[.int .i64 most, .slice a rs.length c] 28
  have hv0 := hv.ext Rl.size4 x0
  generalize hw0 : w.alloc (.cells #[.int .i64 most, .slice a rs.length c] 28) = w0 at *
  have HV := Lib.hid hv0
  have HRO := Lib.hid hro
  have HY := Lib.hid (And.intro y2 y3)
  have HRI := Lib.hid (ref12_Right most (.slice a rs.length c) rs w0 hm0 hm1 hv0 hro hlen)
  rw [hok] at HRI
  clear hv hv0 y2 y3
  go_enter Tryz.func37, Tryz.ntmps37
  go_upto_region 1 with fail
  have c0 : w0.cell? ⟨w.heap.size, 0, none⟩ = some (.int .i64 most) := bP.cell 0
  have c1 : w0.cell? ⟨w.heap.size, 1, none⟩ = some (.slice a rs.length c) := bP.cell 1
  have HBP := Lib.hid bP
  have HX0 := Lib.hid x0
  clear bP x0 hw0
  have hwr : IntKind.u64.wrap most = most := by simp [IntKind.wrap, IntKind.signed, IntKind.bits]; omega
  have HPD := Lib.hid (fun V => ref03_Print most V (by omega) (by omega))
  have hds := (dig_back most (by omega) (by omega)).2.2.1
  go_upto_region 4 with (first
    | (go_at_call 39; refine HRI.out.mono ?_; rintro x w1 ⟨rfl, hx1⟩; have d0 := hx1.keep c0; have d1 := hx1.keep c1; have HX1 := Lib.hid hx1; clear hx1 c0 c1)
    | (go_at_call 83; refine (HPD.out _).mono ?_; rintro x w2 ⟨rfl, rfl⟩)
    | fail)
  have bs := (Blk.new w1 #[.string ⟨#[115, 105, 122, 101]⟩, .string (digStr most)] 9).alloc (.cells #[.slice (some ⟨w1.heap.size, 0, none⟩) 2 2] 32)
  have bl := Blk.new' (w1.alloc (.cells #[.string ⟨#[115, 105, 122, 101]⟩, .string (digStr most)] 9)) #[.slice (some ⟨w1.heap.size, 0, none⟩) 2 2] 32 (b := w1.heap.size + 1) (by simp)
  have hx3 : Ext w1 ((w1.alloc (.cells #[.string ⟨#[115, 105, 122, 101]⟩, .string (digStr most)] 9)).alloc (.cells #[.slice (some ⟨w1.heap.size, 0, none⟩) 2 2] 32)) := ((Ext.refl w1).alloc _).alloc _
  generalize (w1.alloc (.cells #[.string ⟨#[115, 105, 122, 101]⟩, .string (digStr most)] 9)).alloc (.cells #[.slice (some ⟨w1.heap.size, 0, none⟩) 2 2] 32) = w3 at *
  have hsz2 := (HX0.out.trans HX1.out).sz
  have HST : Hid (PrAt w most rs 0 (.slice (some ⟨w1.heap.size + 1, 0, none⟩) 1 1) w3) := Lib.hid (PrAt.start bs bl hds hsz2 ((HX0.out.trans HX1.out).trans hx3))
  have HX3 := Lib.hid (HX1.out.trans hx3)
  have p0 : w3.cell? ⟨w.heap.size, 0, none⟩ = some (.int .i64 most) := (HBP.out.ext HX3.out).cell 0
  have p1 : w3.cell? ⟨w.heap.size, 1, none⟩ = some (.slice a rs.length c) := (HBP.out.ext HX3.out).cell 1
  have HOR := Lib.hid (ref12_Order most (.slice a rs.length c) rs w3 (HV.out.ext Rl.size4 HX3.out) (fun r hr => (hro r hr).1) hlen)
  have hol : (ordL Rl.key rs).length = rs.length := ordL_len rs
  have hsz3 := (HX0.out.trans HX3.out).sz
  clear bs bl hx3 hwr d0 d1
  go_upto_region 5 with (first
    | (go_at_call 40; refine HOR.out.mono ?_; rintro x w4 ⟨ov, rfl, hown, hx4⟩; obtain ⟨oa, oc, rfl⟩ := hown.size; have HOQ := Lib.hid hown; have HX4 := Lib.hid hx4; clear hown hx4)
    | fail)
  have HOL := Lib.hid hol
  rw [hol] at HOQ
  clear hol
  have bq := Blk.new w4 #[.int .i64 most, .slice oa rs.length oc] 28
  have hx5 : Ext w4 (w4.alloc (.cells #[.int .i64 most, .slice oa rs.length oc] 28)) := (Ext.refl w4).alloc _
  generalize w4.alloc (.cells #[.int .i64 most, .slice oa rs.length oc] 28) = w5 at *
  have HP5 : Hid (PrAt w most rs 0 (.slice (some ⟨w1.heap.size + 1, 0, none⟩) 1 1) w5) := Lib.hid (HST.out.ext (HX4.out.trans hx5))
  have HOQ5 : Hid (RuleOwn w3.heap.size w5 (.slice oa rs.length oc) (ordL Rl.key rs)) := Lib.hid (HOQ.out.ext hx5).own
  have HROO : Hid (∀ r ∈ ordL Rl.key rs, RlOk r) := Lib.hid (fun r hr => HRO.out r ((ordL_perm rs).mem_iff.1 hr))
  have HLN : Hid (∀ k (h : k < (ordL Rl.key rs).length) (h2 : k + 1 < (prLines most rs).length), (prLines most rs)[k + 1] = plW ((ordL Rl.key rs)[k])) := Lib.hid (fun k h h2 => by simp [prLines])
  have HPL : Hid ((prLines most rs).length = (ordL Rl.key rs).length + 1) := Lib.hid (by simp [prLines])
  generalize ordL Rl.key rs = os at *
  obtain ⟨i0, hi, hz0, hz1, hz2⟩ := info_parts strs_info
  have HI := Lib.hid (And.intro hi (And.intro hz0 (And.intro hz1 hz2)))
  clear hi hz0 hz1 hz2 p0 p1 HOQ HST hx5
  have HOQ6 : Hid (RuleOwn w3.heap.size w5 (.slice oa os.length oc) os) := Lib.hid (by rw [HOL.out]; exact HOQ5.out)
  clear HOQ5
  have hol2 := HOL.out
  rw [← hol2]
  rw [← hol2] at bq
  have hlen2 : os.length ≤ 1000000000 := by omega
  have hlen3 : os.length ≤ 1000 := by omega
  clear hol2
  go_wp2_with fail
  go_loopw [4, 6] (fun lv i wr => ∃ (k : Nat), k ≤ os.length ∧ i = .int .i64 k ∧ PrAt w most rs k lv wr ∧ RuleOwn w3.heap.size wr (.slice oa os.length oc) os ∧ Blk wr w4.heap.size #[.int .i64 most, .slice oa os.length oc] 28) (fun _ i _ => os.length - (intOf i).toNat)
  case atStart => exact ⟨0, by omega, rfl, HP5.out, HOQ6.out, bq⟩
  case round =>
    obtain ⟨k, hk, rfl, hp, hx, hbq⟩ := hrel
    have HPK := Lib.hid hp
    have HQ := Lib.hid hx
    have HBQ := Lib.hid hbq
    have hx0 : Ext w wr := (by obtain ⟨vs, o1, o2, o3, o4⟩ := HPK.out; exact o4)
    have q1 : wr.cell? ⟨w4.heap.size, 1, none⟩ = some (.slice oa os.length oc) := hbq.cell 1
    clear hp hbq
    by_cases hlt : k < os.length
    · obtain ⟨b, o, rfl, hbl, hc⟩ := (RuleOwn.at HQ.out).cells Rl.size4 (by decide) k hlt
      have c0 : wr.cell? ⟨b, o + k * 4, none⟩ = some (.string os[k].p) := hc 0 (by decide)
      have c1 : wr.cell? ⟨b, o + k * 4 + 1, none⟩ = some (.int .u64 os[k].e) := hc 1 (by decide)
      have c2 : wr.cell? ⟨b, o + k * 4 + 2, none⟩ = some (.int .u64 os[k].b) := hc 2 (by decide)
      have c3 : wr.cell? ⟨b, o + k * 4 + 3, none⟩ = some (.int .u8 os[k].k) := hc 3 (by decide)
      obtain ⟨vs, o1, o2, o3, o4⟩ := HPK.out
      have HOWN := Lib.hid o1
      have HVL := Lib.hid o2
      have HEL := Lib.hid o3
      have HWR := Lib.hid o4
      have hb4 := o4.sz
      have hlk : k + 1 < (prLines most rs).length := by have := HPL.out; omega
      have hle : (prLines most rs)[k + 1] = plW os[k] := HLN.out k hlt hlk
      have hru : RlOk os[k] := HROO.out _ (List.getElem_mem hlt)
      generalize os[k] = r at *
      obtain ⟨hm, e0, e1, b0, b1, -, -⟩ := hru
      have HLE := Lib.hid hle
      have HRP := Lib.hid (fun V => ref11_Print r.p r.e r.b r.k V hm e0 e1 b0 b1)
      have hkb : k < 1000000 := by omega
      clear hc hm e0 e1 b0 b1 o1 o2 o3 o4 hle hx
      go_wp2_with (first
        | (go_at_call 84; refine (HRP.out _).mono ?_; rintro x w6 ⟨v5, rfl, hs5, ho5, hx5⟩; obtain ⟨⟨a5, c5, rfl, -⟩, -, -⟩ := id hs5; have HS5 := Lib.hid hs5; have HO5 := Lib.hid ho5; have HX5 := Lib.hid hx5; clear hs5 ho5; have hsz5 := HX5.out.sz; clear hx5)
        | (at_builtin; refine wpList_append_own _ rfl (.tmp 27) (.tmp 34) 93 rfl w.heap.size 32 i0 (.slice none 0 0) 1 24 Tryz.underlying93 HI.out.1 HI.out.2.1 HI.out.2.2.1 HI.out.2.2.2 rfl (by decide) _ _ _ rfl ((own_ext HOWN.out HX5.out).alloc _) ⟨w6.heap.size, 0, none⟩ 1 1 [_] rfl rfl (blk_news (C := #[_]) (Blk.new _ _ _)) (by simp [Value.oneCell']) (by unfold maxLen; omega) (by omega) (by simp; omega) ?_; rintro v' w7 hown hgrow -)
        | fail)
      have hr := PrAt.step (w := w) (most := most) (rs := rs) HOWN.out HVL.out HEL.out HWR.out HX5.out ⟨HS5.out, HO5.out⟩ HLE.out hown hgrow
      have hq : RuleOwn w3.heap.size w7 (.slice (some ⟨b, o, none⟩) os.length oc) os := own_other ((own_ext HQ.out HX5.out).alloc _) ((own_ext HOWN.out HX5.out).alloc _) (by decide) hgrow
      have hbq7 := Blk.grownNe ((HBQ.out.ext HX5.out).alloc _) hgrow ((own_ext HOWN.out HX5.out).alloc _) (by decide)
      clear hown hgrow
      go_wp2
      go_roundw
      case rel => exact ⟨k + 1, by omega, by go_num, hr, hq, hbq7⟩
      case measure => simp [intOf]; omega
    · have hkl : k = os.length := by omega
      have HJ := Lib.hid (ref10_Join u4 (prLines most rs) wr (HPK.out.lines (by have := HPL.out; omega)) (by have := HPL.out; omega) (fun l hl => by have := HY.out.1 l hl; omega) HY.out.2)
      have HWR := Lib.hid hx0
      clear hx
      go_wp2_with (first
        | (go_at_call 85; refine HJ.out.mono ?_; rintro x w6 ⟨v6, rfl, hs6, hx6⟩)
        | fail)
      go_ret2
      refine ⟨_, rfl, ?_, HWR.out.trans hx6⟩
      have hlow : w.heap.size ≤ wr.heap.size := HWR.out.sz
      obtain ⟨h0, h | ⟨g, cap, cur, j1, j2, j3⟩⟩ := hs6
      · exact ⟨h0, Or.inl h⟩
      · exact ⟨h0, Or.inr ⟨g, cap, cur, j1, Nat.le_trans hlow j2, j3⟩⟩
end Go.Proofs.YtknlojlcahgnoaaGreat

namespace Go.Proofs.YtknlojlcahgnoaaGreat
open Go.RowKit
set_option linter.unusedVariables false
set_option linter.unusedSimpArgs false

theorem bytes_head (b n c hi : Nat) (h : hi ≤ c) (V : World) : (Instr.slice 22 (.slice (some ⟨b, 0, none⟩) n c) none (some (.int .i64 (hi : Int))) none).run Tryz.prog V = .ok (.slice (some ⟨b, 0, none⟩) hi c) V := by
  have hz : (sizeOf (Tryz.prog.elem 22)).run Tryz.prog V = .ok 1 V := by kernel_rfl
  rw [run_slice_h V 22 (some ⟨b, 0, none⟩) n c (by kernel_rfl) .i64 (hi : Int) (by omega) (by omega), hz]
  simp only [Result.andThen, sliced, Int.toNat_natCast, Nat.zero_mul, Nat.sub_zero]
  by_cases q : c = 0
  · rw [if_pos q]
  · rw [if_neg q, Option.map_some, addr_add, Nat.add_zero]
theorem bytes_rest (b n c lo : Nat) (h : lo ≤ n) (hc : n ≤ c) : ∃ o', (∀ V, (Instr.slice 22 (.slice (some ⟨b, 0, none⟩) n c) (some (.int .i64 (lo : Int))) none none).run Tryz.prog V = .ok (.slice (some ⟨b, o', none⟩) (n - lo) (c - lo)) V) ∧ (lo < n → o' = lo) := by
  have hz : ∀ V, (sizeOf (Tryz.prog.elem 22)).run Tryz.prog V = .ok 1 V := fun V => by kernel_rfl
  by_cases q : c = lo
  · refine ⟨0, fun V => ?_, fun h2 => absurd h2 (by omega)⟩
    rw [run_slice_l V 22 (some ⟨b, 0, none⟩) n c (by kernel_rfl) .i64 (lo : Int) (by omega) (by omega), hz]
    simp only [Result.andThen, sliced, Int.toNat_natCast]
    rw [if_pos q]
  · refine ⟨lo, fun V => ?_, fun _ => rfl⟩
    rw [run_slice_l V 22 (some ⟨b, 0, none⟩) n c (by kernel_rfl) .i64 (lo : Int) (by omega) (by omega), hz]
    simp only [Result.andThen, sliced, Int.toNat_natCast]
    rw [if_neg q, Option.map_some, addr_add, Nat.mul_one, Nat.zero_add]
theorem bytesOwn_part {w : World} {b n c : Nat} {l : List UInt8} (h : ByteSlice w (.slice (some ⟨b, 0, none⟩) n c) l) (lo m : Nat) (hm : lo + m ≤ l.length) : ∀ j u, (byteV ((l.drop lo).take m))[j]? = some u → w.cell? ((⟨b, lo, none⟩ : Addr).add j) = some u := by
  intro j u hu
  obtain ⟨q1, q2⟩ := bytes_form h
  unfold byteV at hu
  rw [List.getElem?_map] at hu
  have hlen : ((l.drop lo).take m).length = m := by simp; omega
  rcases Nat.lt_or_ge j m with hj | hj
  · rw [List.getElem?_eq_getElem (by rw [hlen]; exact hj)] at hu
    simp only [Option.map_some, Option.some.injEq] at hu
    have h2 := q2 (lo + j) (by omega)
    rw [addr_add, ← hu, List.getElem_take, List.getElem_drop, ← h2]
    congr 2
    omega
  · rw [List.getElem?_eq_none (by rw [hlen]; exact hj)] at hu
    cases hu
set_option maxHeartbeats 4000000 in
set_option maxRecDepth 100000 in
theorem law12_Bent (most : Int) (v : Value) (rs : List Rl) (at_ b : Int) (s : ByteArray) (w : World) (hP : PolOk most rs) (hv : RulesAt w v rs) (ha0 : 0 ≤ at_) (ha1 : at_ < 65536) (hb0 : 0 ≤ b) (hb1 : b < 256) (hs : s.size ≤ 100000) :
    Calls Tryz.prog 13 #[.agg #[.int .i64 most, v], .int .u16 at_, .int .u8 b, .string s] w fun x w' => ∃ v' l', x = .returned v' ∧ BytesOwn w.heap.size w' v' l' ∧ l'.length ≤ 2000000 ∧ Ext w w' := by
  obtain ⟨a, c, rfl⟩ := hv.size
  have m0 := hP.m0
  have m1 := hP.m1
  have hl := hP.len
  have bP := Blk.new w #[.int .i64 most, .slice a rs.length c] 28
  have hx0 : Ext w (w.alloc (.cells #[.int .i64 most, .slice a rs.length c] 28)) := (Ext.refl w).alloc _
  have hv0 := hv.ext Rl.size4 hx0
  obtain ⟨i1, hi, hz0, hz1, hz2⟩ := info_parts byte_info
  have HI1 := Lib.hid (And.intro hi (And.intro hz0 (And.intro hz1 hz2)))
  have hml : (10000000 : Nat) ≤ maxLen := by decide
  clear hi hz0 hz1 hz2 hv
  go_enter Tryz.func13, Tryz.ntmps13
  go_upto_region 1 with fail
  generalize w.alloc (.cells #[.int .i64 most, .slice a rs.length c] 28) = w0 at *
  have c0 : w0.cell? ⟨w.heap.size, 0, none⟩ = some (.int .i64 most) := bP.cell 0
  have c1 : w0.cell? ⟨w.heap.size, 1, none⟩ = some (.slice a rs.length c) := bP.cell 1
  have HPR := Lib.hid (ref12_Print_ok most (.slice a rs.length c) rs w0 (by omega) (by omega) hv0 hP.ok (by omega) hP.cfg)
  have HX0 := Lib.hid hx0
  have hsm : (prText most rs).length ≤ 400000 := by
    have h1 := lines_small most (by omega) (by omega) _ hP.ord.ok hP.ord.err
    have h2 := hP.ord.len
    show (joinText _).length ≤ _
    unfold prLines
    omega
  have hne : prText most rs ≠ [] := by
    intro e
    have h := pr_end (most := most) (rs := rs) (by omega) (by omega)
    rw [e] at h
    simp [endOf] at h
  have hs0 := hx0.sz
  clear hv0 hx0 bP
  go_upto_region 2 with (first | (go_at_call 37; refine HPR.out.mono ?_; rintro x w2 ⟨tv, rfl, htl, hx2⟩; have HTL := Lib.hid htl; have HX2 := Lib.hid hx2; clear htl hx2) | fail)
  obtain ⟨hbs, hcp⟩ := own_bytes (l := prText most rs) HTL.out rfl
  clear HPR
  generalize prText most rs = T at *
  obtain ⟨tb, tc, rfl⟩ : ∃ tb tc, tv = .slice (some ⟨tb, 0, none⟩) T.length tc := by
    obtain ⟨-, ⟨-, q⟩ | ⟨g, cap, cur, q, -⟩⟩ := HTL.out
    · exact absurd (List.length_eq_zero_iff.1 q) hne
    · exact ⟨g, cap, q⟩
  have hcap : T.length ≤ tc := hcp _ _ _ rfl
  have HBS := Lib.hid hbs
  obtain ⟨i, hi⟩ : ∃ i : Nat, at_ % ((T.length : Int) + 1) = i := ⟨(at_ % ((T.length : Int) + 1)).toNat, by rw [Int.toNat_of_nonneg (Int.emod_nonneg _ (by omega))]⟩
  have hil : i ≤ T.length := by have := Int.emod_lt_of_pos at_ (show (0 : Int) < (T.length : Int) + 1 by omega); omega
  have hpos : (0 : Int) < (T.length : Int) + 1 := by omega
  have hnz : ((T.length : Int) + 1 == 0) = false := by simp; omega
  have hnz2 : ¬ ((T.length : Int) + 1 = 0) := by omega
  have htm : at_.tmod ((T.length : Int) + 1) = (i : Int) := by rw [Int.tmod_eq_emod_of_nonneg ha0]; exact hi
  have hh1 := fun V => bytes_head tb T.length tc i (by omega) V
  have n1 := bytesOwn_part hbs 0 i (by omega)
  rw [List.drop_zero] at n1
  have hl1 : (byteV (T.take i)).length = i := by simp [byteV]; omega
  have HN1 := Lib.hid (And.intro n1 hl1)
  have hsz2 := HX2.out.sz
  clear hbs hcp n1 hl1
  go_upto_region 5 with (first
    | (at_builtin; refine wpList_append_own _ rfl (.tmp 25) (.tmp 28) 22 rfl w2.heap.size 5 i1 (.int .u8 0) 1 1 Tryz.underlying22 HI1.out.1 HI1.out.2.1 HI1.out.2.2.1 HI1.out.2.2.2 rfl (by decide) (.slice none 0 0) 0 [] rfl (World.ownsRow_nil _ _ _ _) ⟨tb, 0, none⟩ i tc (byteV (T.take i)) rfl (by rw [HN1.out.2, Nat.mul_one]) HN1.out.1 (one_bytes _) (by omega) (by omega) (Nat.le_refl _) ?_; rintro v3 w3 hown3 hgrow3 -; have hx3 : Ext w2 w3 := Ext.grownAt (Ext.refl _) (World.ownsRow_nil _ _ 5 1) (Nat.le_refl _) hgrow3; have HO3 := Lib.hid hown3; have HX3 := Lib.hid hx3; clear hown3 hgrow3 hx3)
    | fail)
  have HB3 : Hid (BytesOwn w2.heap.size w3 v3 (T.take i)) := Lib.hid (by
    show World.ownsRow _ _ _ _ _ (T.take i).length _
    have h := HO3.out
    rw [List.length_take, Nat.min_eq_left hil]
    simpa using h)
  clear HO3
  have hsz3 := HX3.out.sz
  go_upto_if 32 with fail
  go_cut [12] from 31 to 36 (fun x12 wx => (∃ Y, BytesOwn w2.heap.size wx x12 Y ∧ Y.length ≤ 400001) ∧ Ext w2 wx)
  case first =>
    by_cases hb3 : b % 3 = 0
    · have hlt : (T.take i).length ≤ 400000 := by rw [List.length_take]; omega
      obtain ⟨bn, hbn⟩ : ∃ bn : UInt8, (bn.toNat : Int) = b := ⟨UInt8.ofNat b.toNat, by simp; omega⟩
      subst hbn
      go_wp2_with (first
        | (at_builtin; refine wpList_append_own _ rfl (.tmp 33) (.tmp 35) 22 rfl w2.heap.size 5 i1 (.int .u8 0) 1 1 Tryz.underlying22 HI1.out.1 HI1.out.2.1 HI1.out.2.2.1 HI1.out.2.2.2 rfl (by decide) _ _ _ rfl (HB3.out.alloc _) ⟨w3.heap.size, 0, none⟩ 1 1 [.int .u8 (bn.toNat : Int)] rfl rfl (blk_news (C := #[.int .u8 (bn.toNat : Int)]) (Blk.new _ _ _)) (by simp [Value.oneCell']) (by omega) (by omega) (by simp; omega) ?_; rintro v4 w4 hown4 hgrow4 -)
        | fail)
      have hx4 : Ext w2 w4 := Ext.grownAt (HX3.out.alloc _) (HB3.out.alloc _) (Nat.le_refl _) hgrow4
      clear hgrow4
      go_wp2_with fail
      go_meet
      exact ⟨⟨_, bytesOwn_snoc hown4, by rw [List.length_append]; simp; omega⟩, hx4⟩
    · go_wp2_with fail
      go_meet
      exact ⟨⟨_, HB3.out, by rw [List.length_take]; omega⟩, HX3.out⟩
  case rest =>
    obtain ⟨⟨Y, hY, hYl⟩, hx5⟩ := hcut
    have HY := Lib.hid hY
    have HX5 := Lib.hid hx5
    clear hY hx5 HB3 HX3
    go_wp2_with fail
    go_loopw [12, 13] (fun ov j wz => ∃ (k : Nat) (Z : List UInt8), k ≤ s.size ∧ j = .int .i64 k ∧ BytesOwn w2.heap.size wz ov Z ∧ Z.length ≤ 400001 + k ∧ Ext w2 wz) (fun _ j _ => s.size - (intOf j).toNat)
    case atStart => exact ⟨0, Y, by omega, rfl, HY.out, by omega, HX5.out⟩
    case round =>
      obtain ⟨k, Z, hk, rfl, hbz, hzl, hxz⟩ := hrel
      have HBZ := Lib.hid hbz
      have HXZ := Lib.hid hxz
      have hszz := hxz.sz
      clear hbz hxz
      by_cases hlt : k < s.size
      · have hk1 : (k : Int) < (s.size : Int) := by omega
        go_wp2_with (first
          | (at_builtin; refine wpList_append_own _ rfl (.tmp 43) (.tmp 47) 22 rfl w2.heap.size 5 i1 (.int .u8 0) 1 1 Tryz.underlying22 HI1.out.1 HI1.out.2.1 HI1.out.2.2.1 HI1.out.2.2.2 rfl (by decide) _ _ _ rfl (HBZ.out.alloc _) ⟨wr.heap.size, 0, none⟩ 1 1 [_] rfl rfl (blk_news (C := #[_]) (Blk.new _ _ _)) (by simp [Value.oneCell']) (by omega) (by omega) (by simp; omega) ?_; rintro v' w6 hown hgrow -)
          | fail)
        have hx7 : Ext w2 w6 := Ext.grownAt (HXZ.out.alloc _) (HBZ.out.alloc _) (Nat.le_refl _) hgrow
        clear hgrow
        go_wp2
        go_roundw
        case rel => exact ⟨k + 1, Z ++ [s[k]], by omega, by go_num, bytesOwn_snoc hown, by rw [List.length_append]; simp; omega, hx7⟩
        case measure => simp [intOf]; omega
      · have hk1 : ¬ (k : Int) < (s.size : Int) := by omega
        go_upto_region 11 with fail
        go_cut [57] from 49 to 57 (fun x57 wx => (∃ β : Bool, x57 = .bool β ∧ (β = true → i < T.length)) ∧ wx = wr)
        case first =>
          by_cases hb5 : b % 5 = 1
          · by_cases hit : i < T.length
            · have hit2 : (i : Int) < (T.length : Int) := by omega
              go_wp2_with fail
              go_meet
              exact ⟨⟨_, rfl, fun _ => hit⟩, rfl⟩
            · have hit2 : ¬ (i : Int) < (T.length : Int) := by omega
              go_wp2_with fail
              go_meet
              exact ⟨⟨_, rfl, fun q => by simp at q⟩, rfl⟩
          · have hb52 : (b % 5 == 1) = false := by simpa using hb5
            go_wp2_with fail
            go_meet
            exact ⟨⟨_, rfl, fun q => by simp at q⟩, rfl⟩
        case rest =>
          obtain ⟨⟨β, rfl, hβ⟩, hw⟩ := hcut
          have hw' := hw.symm
          subst hw'
          clear hw
          go_upto_if 57 with fail
          go_cut [11] from 57 to 59 (fun x11 wx => (∃ i2 : Nat, x11 = .int .i64 i2 ∧ i2 ≤ T.length) ∧ wx = wr)
          case first =>
            cases β with
            | true =>
              have := hβ rfl
              go_wp2_with fail
              go_meet
              exact ⟨⟨i + 1, by go_num, by omega⟩, rfl⟩
            | false =>
              go_wp2_with fail
              go_meet
              exact ⟨⟨i, rfl, hil⟩, rfl⟩
          case rest =>
            obtain ⟨⟨i2, rfl, hi2⟩, hw⟩ := hcut
            have hw' := hw.symm
            subst hw'
            clear hw
            obtain ⟨o', hh2, hoo⟩ := bytes_rest tb T.length tc i2 hi2 hcap
            have n2 : ∀ j u, (byteV (T.drop i2))[j]? = some u → w2.cell? ((⟨tb, o', none⟩ : Addr).add j) = some u := fun j u hu => by
              by_cases q : i2 < T.length
              · rw [hoo q]
                have e : (T.drop i2).take (T.length - i2) = T.drop i2 := List.take_of_length_le (by simp)
                exact bytesOwn_part HBS.out i2 (T.length - i2) (by omega) j u (by rw [e]; exact hu)
              · rw [List.drop_of_length_le (by omega)] at hu
                simp [byteV] at hu
            have hl2 : (byteV (T.drop i2)).length = T.length - i2 := by simp [byteV]
            have HN2 := Lib.hid (And.intro n2 hl2)
            clear n2 hl2 hoo
            go_wp2_with (first
              | (at_builtin; refine wpList_append_own _ rfl (.tmp 60) (.tmp 63) 22 rfl w2.heap.size 5 i1 (.int .u8 0) 1 1 Tryz.underlying22 HI1.out.1 HI1.out.2.1 HI1.out.2.2.1 HI1.out.2.2.2 rfl (by decide) _ _ _ rfl HBZ.out ⟨tb, o', none⟩ (T.length - i2) (tc - i2) (byteV (T.drop i2)) rfl (by rw [HN2.out.2, Nat.mul_one]) (fun j u hu => HXZ.out.keep (HN2.out.1 j u hu)) (one_bytes _) (by omega) (by omega) (by omega) ?_; rintro v7 w7 hown7 hgrow7 -)
              | fail)
            have hx7 : Ext w2 w7 := Ext.grownAt HXZ.out HBZ.out (Nat.le_refl _) hgrow7
            clear hgrow7
            go_ret
            refine ⟨_, rfl, Z ++ T.drop i2, ?_, by rw [List.length_append, List.length_drop]; omega, HX0.out.trans (HX2.out.trans hx7)⟩
            have hlow : w.heap.size ≤ w2.heap.size := by omega
            have h2 : BytesOwn w2.heap.size w7 v7 (Z ++ T.drop i2) := by
              show World.ownsRow _ _ _ _ _ (Z ++ T.drop i2).length _
              rw [List.length_append, List.length_drop, byteV_app]
              exact hown7
            obtain ⟨h0, h | ⟨g, cap, cur, j1, j2, j3⟩⟩ := h2
            · exact ⟨h0, Or.inl h⟩
            · exact ⟨h0, Or.inr ⟨g, cap, cur, j1, Nat.le_trans hlow j2, j3⟩⟩
end Go.Proofs.YtknlojlcahgnoaaGreat

namespace Go.Proofs.YtknlojlcahgnoaaGreat
open Go.RowKit
set_option linter.unusedVariables false
set_option linter.unusedSimpArgs false

def textW : List ByteArray := [⟨#[97]⟩, ⟨#[98, 99]⟩, ⟨#[32]⟩, ⟨#[9]⟩, ⟨#[10]⟩, ⟨#[35]⟩, ⟨#[120, 49]⟩, ⟨#[10]⟩, ⟨#[32]⟩, ⟨#[32, 32]⟩, ⟨#[115, 105, 122, 101]⟩, ⟨#[100, 101, 102, 97, 117, 108, 116]⟩, ⟨#[114, 117, 108, 101]⟩, ⟨#[55]⟩, ⟨#[127]⟩, ⟨#[13]⟩]
theorem text_at (m : Nat) (h : m < 16) : ∃ s : ByteArray, ((textW.map Value.string).toArray)[m]? = some (.string s) ∧ s.size ≤ 10 := by
  have : m = 0 ∨ m = 1 ∨ m = 2 ∨ m = 3 ∨ m = 4 ∨ m = 5 ∨ m = 6 ∨ m = 7 ∨ m = 8 ∨ m = 9 ∨ m = 10 ∨ m = 11 ∨ m = 12 ∨ m = 13 ∨ m = 14 ∨ m = 15 := by omega
  rcases this with rfl | rfl | rfl | rfl | rfl | rfl | rfl | rfl | rfl | rfl | rfl | rfl | rfl | rfl | rfl | rfl <;> exact ⟨_, rfl, by decide⟩
set_option maxHeartbeats 4000000 in
set_option maxRecDepth 100000 in
theorem law10_Text (cv : Value) (c : List UInt8) (w : World) (hc : ByteSlice w cv c) :
    Calls Tryz.prog 12 #[cv] w fun x w' => ∃ v' l', x = .returned v' ∧ BytesOwn w.heap.size w' v' l' ∧ l'.length ≤ 1000 ∧ Ext w w' := by
  obtain ⟨⟨ca, cc, rfl, hcl⟩, hcm⟩ := hc
  have HCL := Lib.hid hcl
  obtain ⟨i1, hi, hz0, hz1, hz2⟩ := info_parts byte_info
  have HI1 := Lib.hid (And.intro hi (And.intro hz0 (And.intro hz1 hz2)))
  have hml : (10000000 : Nat) ≤ maxLen := by decide
  clear hi hz0 hz1 hz2 hcl
  go_enter Tryz.func12, Tryz.ntmps12
  go_wp2_with fail
  go_loopw [3, 4] (fun ov i wr => ∃ (k : Nat) (Z : List UInt8), k ≤ 80 ∧ k ≤ c.length ∧ i = .int .i64 k ∧ BytesOwn w.heap.size wr ov Z ∧ Z.length ≤ 10 * k ∧ Ext w wr) (fun _ i _ => 80 - (intOf i).toNat)
  case atStart => exact ⟨0, [], by omega, by omega, rfl, World.ownsRow_nil _ _ _ _, by simp, Ext.refl _⟩
  case round =>
    obtain ⟨k, Z, hk, hkc, rfl, hb, hzl, hx⟩ := hrel
    have HB := Lib.hid hb
    have HX := Lib.hid hx
    have hsz := hx.sz
    by_cases hlt : k < c.length ∧ k < 80
    · obtain ⟨h1, h2⟩ := hlt
      obtain ⟨b, o, rfl, hcc⟩ := HCL.out (by intro e; rw [e] at h1; simp at h1)
      have cy := hx.keep (hcc k h1)
      have hul := c[k].toNat_lt
      have hy0 : (0 : Int) ≤ (c[k].toNat : Int) := by omega
      have hy1 : (c[k].toNat : Int) < 256 := by omega
      have hk1 : (k : Int) < (c.length : Int) := by omega
      have hk2 : (k : Int) < 80 := by omega
      generalize (c[k].toNat : Int) = y at *
      obtain ⟨m, hm⟩ : ∃ m : Nat, y % 16 = m := ⟨(y % 16).toNat, by rw [Int.toNat_of_nonneg (Int.emod_nonneg _ (by decide))]⟩
      have hm16 : m < 16 := by have := Int.emod_lt_of_pos y (show (0 : Int) < 16 by decide); omega
      obtain ⟨s, hs, hsl⟩ := text_at m hm16
      have ht : (textW.map Value.string).toArray = #[.string ⟨#[97]⟩, .string ⟨#[98, 99]⟩, .string ⟨#[32]⟩, .string ⟨#[9]⟩, .string ⟨#[10]⟩, .string ⟨#[35]⟩, .string ⟨#[120, 49]⟩, .string ⟨#[10]⟩, .string ⟨#[32]⟩, .string ⟨#[32, 32]⟩, .string ⟨#[115, 105, 122, 101]⟩, .string ⟨#[100, 101, 102, 97, 117, 108, 116]⟩, .string ⟨#[114, 117, 108, 101]⟩, .string ⟨#[55]⟩, .string ⟨#[127]⟩, .string ⟨#[13]⟩] := rfl
      rw [ht] at hs
      have hpc := ((Blk.new wr #[.string ⟨#[97]⟩, .string ⟨#[98, 99]⟩, .string ⟨#[32]⟩, .string ⟨#[9]⟩, .string ⟨#[10]⟩, .string ⟨#[35]⟩, .string ⟨#[120, 49]⟩, .string ⟨#[10]⟩, .string ⟨#[32]⟩, .string ⟨#[32, 32]⟩, .string ⟨#[115, 105, 122, 101]⟩, .string ⟨#[100, 101, 102, 97, 117, 108, 116]⟩, .string ⟨#[114, 117, 108, 101]⟩, .string ⟨#[55]⟩, .string ⟨#[127]⟩, .string ⟨#[13]⟩] 9).cell m).trans hs
      have hxa : Ext wr (wr.alloc (.cells #[.string ⟨#[97]⟩, .string ⟨#[98, 99]⟩, .string ⟨#[32]⟩, .string ⟨#[9]⟩, .string ⟨#[10]⟩, .string ⟨#[35]⟩, .string ⟨#[120, 49]⟩, .string ⟨#[10]⟩, .string ⟨#[32]⟩, .string ⟨#[32, 32]⟩, .string ⟨#[115, 105, 122, 101]⟩, .string ⟨#[100, 101, 102, 97, 117, 108, 116]⟩, .string ⟨#[114, 117, 108, 101]⟩, .string ⟨#[55]⟩, .string ⟨#[127]⟩, .string ⟨#[13]⟩] 9)) := (Ext.refl wr).alloc _
      have cy2 := hxa.keep cy
      clear hcc hul hb hx ht hs
      go_upto_region 6 with fail
      generalize wr.alloc (.cells #[.string ⟨#[97]⟩, .string ⟨#[98, 99]⟩, .string ⟨#[32]⟩, .string ⟨#[9]⟩, .string ⟨#[10]⟩, .string ⟨#[35]⟩, .string ⟨#[120, 49]⟩, .string ⟨#[10]⟩, .string ⟨#[32]⟩, .string ⟨#[32, 32]⟩, .string ⟨#[115, 105, 122, 101]⟩, .string ⟨#[100, 101, 102, 97, 117, 108, 116]⟩, .string ⟨#[114, 117, 108, 101]⟩, .string ⟨#[55]⟩, .string ⟨#[127]⟩, .string ⟨#[13]⟩] 9) = wa at *
      have HXA := Lib.hid hxa
      go_cut [37] from 22 to 37 (fun x37 wx => (∃ β : Bool, x37 = .bool β) ∧ wx = wa)
      case first =>
        have hm2 : y % 16 = (m : Int) := hm
        by_cases hy : y < 128
        · by_cases hm13 : 13 < m
          · have h3 : (13 : Int) < (m : Int) := by omega
            go_wp2_with fail
            go_meet
            exact ⟨⟨_, rfl⟩, rfl⟩
          · have h3 : ¬ (13 : Int) < (m : Int) := by omega
            go_wp2_with fail
            go_meet
            exact ⟨⟨_, rfl⟩, rfl⟩
        · go_wp2_with fail
          go_meet
          exact ⟨⟨_, rfl⟩, rfl⟩
      case rest =>
        obtain ⟨⟨β, rfl⟩, hw⟩ := hcut
        have hw' := hw.symm
        subst hw'
        clear hw
        go_upto_if 37 with fail
        go_cut [5] from 37 to 37 (fun x5 wx => (∃ s2 : ByteArray, x5 = .string s2 ∧ s2.size ≤ 10) ∧ wx = wa)
        case first =>
          cases β with
          | true =>
            go_wp2_with fail
            go_meet
            exact ⟨⟨_, rfl, by decide⟩, rfl⟩
          | false =>
            go_wp2_with fail
            go_meet
            exact ⟨⟨_, rfl, hsl⟩, rfl⟩
        case rest =>
          obtain ⟨⟨s2, rfl, hs2⟩, hw⟩ := hcut
          have hw' := hw.symm
          subst hw'
          have HBA := Lib.hid (own_ext HB.out HXA.out)
          have HXW := Lib.hid (HX.out.trans HXA.out)
          clear hw hsl hpc cy2 hxa HB HX HXA cy
          go_wp2_with fail
          go_loopw [3, 6] (fun ov j wz => ∃ (q : Nat) (Y : List UInt8), q ≤ s2.size ∧ j = .int .i64 q ∧ BytesOwn w.heap.size wz ov Y ∧ Y.length ≤ 10 * k + q ∧ Ext w wz) (fun _ j _ => s2.size - (intOf j).toNat)
          case atStart => exact ⟨0, Z, by omega, rfl, HBA.out, by omega, HXW.out⟩
          case round =>
            obtain ⟨q, Y, hq, rfl, hby, hyl, hxy⟩ := hrel
            have HBY := Lib.hid hby
            have HXY := Lib.hid hxy
            have hszy := hxy.sz
            clear hby hxy
            by_cases hql : q < s2.size
            · have hq1 : (q : Int) < (s2.size : Int) := by omega
              go_wp2_with (first
                | (at_builtin; refine wpList_append_own _ rfl (.tmp 44) (.tmp 48) 22 rfl w.heap.size 5 i1 (.int .u8 0) 1 1 Tryz.underlying22 HI1.out.1 HI1.out.2.1 HI1.out.2.2.1 HI1.out.2.2.2 rfl (by decide) _ _ _ rfl (HBY.out.alloc _) ⟨wr.heap.size, 0, none⟩ 1 1 [_] rfl rfl (blk_news (C := #[_]) (Blk.new _ _ _)) (by simp [Value.oneCell']) (by omega) (by omega) (by simp; omega) ?_; rintro v' w6 hown hgrow -)
                | fail)
              have hx7 : Ext w w6 := Ext.grownAt (HXY.out.alloc _) (HBY.out.alloc _) (Nat.le_refl _) hgrow
              clear hgrow
              go_wp2
              go_roundw
              case rel => exact ⟨q + 1, Y ++ [s2[q]], by omega, by go_num, bytesOwn_snoc hown, by rw [List.length_append]; simp; omega, hx7⟩
              case measure => simp [intOf]; omega
            · have hq1 : ¬ (q : Int) < (s2.size : Int) := by omega
              go_wp2_with fail
              go_roundw
              case rel => exact ⟨k + 1, Y, by omega, by omega, by go_num, HBY.out, by omega, HXY.out⟩
              case measure => simp [intOf]; omega
    · clear hb hx
      by_cases h1 : k < c.length
      · have h80 : k = 80 := by omega
        subst h80
        have hk1 : (80 : Int) < (c.length : Int) := by omega
        go_wp2_with fail
        go_ret
        first | exact ⟨_, rfl, Z, HB.out, by omega, HX.out⟩ | exact ⟨_, Z, rfl, HB.out, by omega, HX.out⟩
      · have hk1 : ¬ (k : Int) < (c.length : Int) := by omega
        go_wp2_with fail
        go_ret
        first | exact ⟨_, rfl, Z, HB.out, by omega, HX.out⟩ | exact ⟨_, Z, rfl, HB.out, by omega, HX.out⟩
end Go.Proofs.YtknlojlcahgnoaaGreat

namespace Go.Proofs.YtknlojlcahgnoaaGreat
open Go.RowKit
set_option linter.unusedVariables false
set_option linter.unusedSimpArgs false

def wordW : List ByteArray := [⟨#[10, 115, 105, 122, 101, 32, 53, 10]⟩, ⟨#[10, 100, 101, 102, 97, 117, 108, 116, 32, 49, 32, 49, 32, 108, 101, 97, 107, 121, 10]⟩, ⟨#[10, 114, 117, 108, 101, 32, 97, 32, 53, 32, 53, 32, 103, 99, 114, 97, 10]⟩, ⟨#[10, 114, 117, 108, 101, 32, 98, 32, 48, 32, 49, 32, 103, 99, 114, 97, 10]⟩, ⟨#[10, 114, 117, 108, 101, 32, 122, 32, 57, 57, 57, 57, 57, 57, 57, 57, 57, 57, 32, 57, 57, 57, 57, 57, 57, 57, 57, 57, 57, 32, 103, 99, 114, 97, 10]⟩, ⟨#[32, 55, 32]⟩, ⟨#[10, 35, 120, 10]⟩, ⟨#[10, 115, 105, 122, 101, 10]⟩]
theorem word_get (m : Nat) (h : m < (wordW.map Value.string).length) : ∃ s : ByteArray, (wordW.map Value.string)[m] = .string s ∧ s.size ≤ 100 := by
  have : m = 0 ∨ m = 1 ∨ m = 2 ∨ m = 3 ∨ m = 4 ∨ m = 5 ∨ m = 6 ∨ m = 7 := by have e : (wordW.map Value.string).length = 8 := rfl; omega
  rcases this with rfl | rfl | rfl | rfl | rfl | rfl | rfl | rfl <;> exact ⟨_, rfl, by decide⟩
theorem bytesOwn_app {base : Nat} {w : World} {v : Value} {X Y : List UInt8} {n : Nat} (h : w.ownsRow base 5 1 v (X.length + n) (byteV X ++ byteV Y)) (hn : n = Y.length) : BytesOwn base w v (X ++ Y) := by
  subst hn
  show World.ownsRow _ _ _ _ _ (X ++ Y).length _
  rw [List.length_append, byteV_app]
  exact h
set_option maxHeartbeats 2000000 in
set_option maxRecDepth 100000 in
theorem law12_ConfigParses (tv : Value) (tl : List UInt8) (n : Int) (v : Value) (l : List Nms) (at_ b : Int) (s : ByteArray) (cv : Value) (c : List UInt8) (w : World) (ht : ByteSlice w tv tl ∧ CapLe tv) (hn0 : 0 ≤ n) (hn1 : n < 65536) (hv : NmsSlice w v l) (ha0 : 0 ≤ at_) (ha1 : at_ < 65536) (hb0 : 0 ≤ b) (hb1 : b < 256) (hs : s.size ≤ reachBytes) (htz : tl.length ≤ reachBytes) (hc : ByteSlice w cv c) :
    Calls Tryz.prog 3 #[tv, .int .u16 n, v, .int .u16 at_, .int .u8 b, .string s, cv] w fun x w' => x = .returned (.bool true) ∧ Ext w w' := by
  have hall := hv
  obtain ⟨⟨va, vc, rfl, -⟩, -, heach⟩ := hv
  obtain ⟨hP, hlen, t0, ht0⟩ := polRs_ok hn0 l heach
  have HP := Lib.hid hP
  have HPO := Lib.hid (fun V (e : Ext w V) => law12_Policy n _ l V hn0 hn1 (hall.ext e))
  obtain ⟨rs, hrs⟩ : ∃ rs, polRs n l = rs := ⟨_, rfl⟩
  rw [hrs] at HP HPO hlen
  obtain ⟨most, hmost⟩ : ∃ most, 1 + n % 50 = most := ⟨_, rfl⟩
  rw [hmost] at HP HPO
  have hm0 : 1 ≤ most := by omega
  have hm1 : most ≤ 50 := by omega
  obtain ⟨⟨ta, tc, rfl, -⟩, htm⟩ := id ht.1
  obtain ⟨⟨ca, cc, rfl, -⟩, -⟩ := id hc
  have HTX := Lib.hid ht
  have HCX := Lib.hid hc
  have hmx : maxLen ≤ 9223372036854775807 := by decide
  have hml : (10000000 : Nat) ≤ maxLen := by decide
  obtain ⟨i1, hi, hz0, hz1, hz2⟩ := info_parts byte_info
  have HI1 := Lib.hid (And.intro hi (And.intro hz0 (And.intro hz1 hz2)))
  clear hi hz0 hz1 hz2 hP heach hall ht0 ht hc hrs hmost
  have hK := fun W => law12_known W
  have HK := Lib.hid hK
  clear hK
  have hmm : (maxLen : Int) ≤ 9223372036854775807 := by omega
  have hrb : reachBytes < 140737488355328 := reachBytes_lt
  go_enter Tryz.func3, Tryz.ntmps3
  by_cases hbig : 400 < tl.length + s.size
  · have hb2 : (400 : Int) < (tl.length : Int) + (s.size : Int) := by omega
    go_wp2_with (first | (go_at_call 10; refine (HK.out _).mono ?_; rintro x w2 ⟨rfl, hx2⟩) | fail)
    go_ret
    exact ⟨rfl, hx2⟩
  · have hb2 : ¬ (400 : Int) < (tl.length : Int) + (s.size : Int) := by omega
    go_upto_region 3 with (first | (go_at_call 10; refine (HK.out _).mono ?_; rintro x w1 ⟨rfl, hx1⟩; have HX1 := Lib.hid hx1; clear hx1) | fail)
    go_upto_region 4 with (first | (go_at_call 11; refine (HPO.out _ HX1.out).mono ?_; rintro x w2 ⟨rv, rfl, hrow, hx2⟩; have hat : RulesAt w2 rv rs := RuleRow.at hrow; obtain ⟨ra, rc, rfl⟩ := hat.size; have HAT := Lib.hid hat; have HX2 := Lib.hid (HX1.out.trans hx2); clear hat hrow hx2) | fail)
    have bP := Blk.new w2 #[.int .i64 most, .slice ra rs.length rc] 28
    have hxa : Ext w2 (w2.alloc (.cells #[.int .i64 most, .slice ra rs.length rc] 28)) := (Ext.refl w2).alloc _
    generalize w2.alloc (.cells #[.int .i64 most, .slice ra rs.length rc] 28) = wa at *
    have HBP := Lib.hid bP
    have HXA := Lib.hid (HX2.out.trans hxa)
    have HATA := Lib.hid (HAT.out.ext Rl.size4 hxa)
    have HBE := Lib.hid (fun V (e : Ext wa V) (x y : Int) (t : ByteArray) h0 h1 h2 h3 (h4 : t.size ≤ 100000) => law12_Bent most _ rs x y t V HP.out (HATA.out.ext Rl.size4 e) h0 h1 h2 h3 h4)
    have HTE := Lib.hid (fun V (e : Ext wa V) => law10_Text _ c V (HCX.out.ext (HXA.out.trans e)))
    clear bP hxa HAT HX2 HPO HX1 HK
    go_upto_region 5 with (first | (go_at_call 12; refine (HTE.out _ (Ext.refl _)).mono ?_; rintro x w3 ⟨v3, l3, rfl, hb3, hl3, hx3⟩; have HB3 := Lib.hid hb3; have HX3 := Lib.hid hx3; have cP0 := (HBP.out.ext hx3).cell 0; have cP1 := (HBP.out.ext hx3).cell 1; have hsz3 := hx3.sz; clear hb3 hx3) | fail)
    go_cut [16] from 34 to 38 (fun x16 wx => (∃ Y, BytesOwn wa.heap.size wx x16 Y) ∧ Ext wa wx)
    case first =>
      go_wp2_with fail
      refine (HBE.out _ HX3.out at_ 1 ⟨#[]⟩ ha0 ha1 (by omega) (by omega) (by decide)).mono ?_
      rintro x w4 ⟨v4, l4, rfl, ho4, hl4, hx4⟩
      have HB4 := Lib.hid (own_ext HB3.out hx4)
      have HX4 := Lib.hid (HX3.out.trans hx4)
      have hsz4 := hx4.sz
      clear hx4
      obtain ⟨hz4, ⟨rfl, hn4⟩ | ⟨g4, cap4, cur4, rfl, g0, g1, g2, g3, g5, g6⟩⟩ := id ho4
      · clear ho4
        go_wp2_with (first
          | (at_builtin; refine wpList_append_own_none rfl (.tmp 34) (.tmp 37) 22 rfl wa.heap.size 5 i1 1 Tryz.underlying22 HI1.out.1 _ _ _ rfl HB4.out rfl ?_)
          | fail)
        go_meet
        exact ⟨⟨_, HB4.out⟩, HX4.out⟩
      · have n4 : ∀ j u, (byteV l4)[j]? = some u → w4.cell? ((⟨g4, 0, none⟩ : Addr).add j) = some u := fun j u hu => bytesOwn_part (own_bytes ho4 rfl).1 0 l4.length (by omega) j u (by rw [List.drop_zero, List.take_length]; exact hu)
        have HN4 := Lib.hid n4
        clear ho4 n4 g1 g6
        go_wp2_with (first
          | (at_builtin; refine wpList_append_own _ rfl (.tmp 34) (.tmp 37) 22 rfl wa.heap.size 5 i1 (.int .u8 0) 1 1 Tryz.underlying22 HI1.out.1 HI1.out.2.1 HI1.out.2.2.1 HI1.out.2.2.2 rfl (by decide) _ _ _ rfl HB4.out ⟨g4, 0, none⟩ l4.length cap4 (byteV l4) rfl (by simp [byteV]) HN4.out (one_bytes _) (by omega) (by omega) (by omega) ?_; rintro v5 w5 hown5 hgrow5 -)
          | fail)
        have hx5 : Ext wa w5 := Ext.grownAt HX4.out HB4.out (Nat.le_refl _) hgrow5
        clear hgrow5
        go_wp2_with fail
        go_meet
        exact ⟨⟨_, bytesOwn_app hown5 rfl⟩, hx5⟩
    case rest =>
      obtain ⟨⟨Y, hY⟩, hx5⟩ := hcut
      have HY := Lib.hid hY
      have HX5 := Lib.hid hx5
      clear hY hx5 HB3 HX3 cP0 cP1 hsz3
      go_upto_region 6 with fail
      go_cut [17] from 39 to 43 (fun x17 wx => (∃ t : ByteArray, x17 = .string t ∧ t.size ≤ 100) ∧ Ext wa wx ∧ Ext wc wx)
      case first =>
        obtain ⟨k, hk⟩ : ∃ k : Nat, b % 8 = (k : Int) := ⟨(b % 8).toNat, by omega⟩
        have hk8 : k < 8 := by omega
        have hk9 : (k : Int) < 8 := by omega
        have HW0 := Lib.hid fun o => (Ext.refl wc).alloc o
        go_wp2_with fail
        go_meet
        exact ⟨word_get k hk8, HX5.out.trans (HW0.out _), HW0.out _⟩
      case rest =>
        obtain ⟨⟨t, rfl, hts⟩, hx6, hx56⟩ := hcut
        have HY6 := Lib.hid (own_ext HY.out hx56)
        have HX6 := Lib.hid hx6
        clear HY HX5 hx6 hx56
        obtain ⟨w6, hw6⟩ : ∃ w6, w6 = wc := ⟨_, rfl⟩
        subst hw6
        have HCUR := Lib.hid (Ext.refl w6)
        have cP0 := (HBP.out.ext HX6.out).cell 0
        have cP1 := (HBP.out.ext HX6.out).cell 1
        have hts' : t.size ≤ 100000 := by omega
        have hs' : s.size ≤ 100000 := by omega
        go_wp2_with fail
        refine (law12_parses _ _ _ (HTX.out.1.ext (HXA.out.trans (HX6.out.trans HCUR.out))) HTX.out.2).mono ?_
        rintro x wz ⟨rfl, hz⟩
        have HCUR := Lib.hid (HCUR.out.trans hz)
        have cP0 := (HBP.out.ext (HX6.out.trans HCUR.out)).cell 0
        have cP1 := (HBP.out.ext (HX6.out.trans HCUR.out)).cell 1
        clear hz
        go_wp2_with fail
        refine (HBE.out _ (HX6.out.trans HCUR.out) at_ b s (by omega) (by omega) (by omega) (by omega) (by assumption)).mono ?_
        rintro x wz ⟨vz, lz, rfl, hbz, -, hz⟩
        have HCUR := Lib.hid (HCUR.out.trans hz)
        have HV := Lib.hid (own_bytes hbz rfl)
        clear hz hbz
        go_wp2_with fail
        refine (law12_parses _ _ _ HV.out.1 HV.out.2).mono ?_
        rintro x wz ⟨rfl, hz⟩
        have HCUR := Lib.hid (HCUR.out.trans hz)
        have cP0 := (HBP.out.ext (HX6.out.trans HCUR.out)).cell 0
        have cP1 := (HBP.out.ext (HX6.out.trans HCUR.out)).cell 1
        clear hz
        go_wp2_with fail
        refine (HBE.out _ (HX6.out.trans HCUR.out) at_ b t (by omega) (by omega) (by omega) (by omega) (by assumption)).mono ?_
        rintro x wz ⟨vz, lz, rfl, hbz, -, hz⟩
        have HCUR := Lib.hid (HCUR.out.trans hz)
        have HV := Lib.hid (own_bytes hbz rfl)
        clear hz hbz
        go_wp2_with fail
        refine (law12_parses _ _ _ HV.out.1 HV.out.2).mono ?_
        rintro x wz ⟨rfl, hz⟩
        have HCUR := Lib.hid (HCUR.out.trans hz)
        have cP0 := (HBP.out.ext (HX6.out.trans HCUR.out)).cell 0
        have cP1 := (HBP.out.ext (HX6.out.trans HCUR.out)).cell 1
        clear hz
        go_wp2_with fail
        refine (HBE.out _ (HX6.out.trans HCUR.out) 0 1 t (by omega) (by omega) (by omega) (by omega) (by assumption)).mono ?_
        rintro x wz ⟨vz, lz, rfl, hbz, -, hz⟩
        have HCUR := Lib.hid (HCUR.out.trans hz)
        have HV := Lib.hid (own_bytes hbz rfl)
        clear hz hbz
        go_wp2_with fail
        refine (law12_parses _ _ _ HV.out.1 HV.out.2).mono ?_
        rintro x wz ⟨rfl, hz⟩
        have HCUR := Lib.hid (HCUR.out.trans hz)
        have cP0 := (HBP.out.ext (HX6.out.trans HCUR.out)).cell 0
        have cP1 := (HBP.out.ext (HX6.out.trans HCUR.out)).cell 1
        clear hz
        go_wp2_with fail
        refine (HTE.out _ (HX6.out.trans HCUR.out)).mono ?_
        rintro x wz ⟨vz, lz, rfl, hbz, -, hz⟩
        have HCUR := Lib.hid (HCUR.out.trans hz)
        have HV := Lib.hid (own_bytes hbz rfl)
        clear hz hbz
        go_wp2_with fail
        refine (law12_parses _ _ _ HV.out.1 HV.out.2).mono ?_
        rintro x wz ⟨rfl, hz⟩
        have HCUR := Lib.hid (HCUR.out.trans hz)
        have cP0 := (HBP.out.ext (HX6.out.trans HCUR.out)).cell 0
        have cP1 := (HBP.out.ext (HX6.out.trans HCUR.out)).cell 1
        clear hz
        go_wp2_with fail
        refine (law12_parses _ _ _ (own_bytes (own_ext HY6.out HCUR.out) rfl).1 (own_bytes (own_ext HY6.out HCUR.out) rfl).2).mono ?_
        rintro x wz ⟨rfl, hz⟩
        have HCUR := Lib.hid (HCUR.out.trans hz)
        have cP0 := (HBP.out.ext (HX6.out.trans HCUR.out)).cell 0
        have cP1 := (HBP.out.ext (HX6.out.trans HCUR.out)).cell 1
        clear hz
        go_wp2_with fail
        go_ret
        exact ⟨rfl, HXA.out.trans (HX6.out.trans HCUR.out)⟩
end Go.Proofs.YtknlojlcahgnoaaGreat

namespace Go.Proofs.YtknlojlcahgnoaaGreat
open Go.RowKit
set_option linter.unusedVariables false
set_option linter.unusedSimpArgs false

theorem cfgErr_range (most : Int) (rs : List Rl) : 0 ≤ cfgErr most rs ∧ cfgErr most rs < 65536 := by
  have hr : ∀ r : Rl, 0 ≤ rErr r ∧ rErr r < 65536 := fun r => by
    unfold rErr ruleErr
    repeat' split
    all_goals constructor <;> decide
  have hq : 0 ≤ cfgRest rs ∧ cfgRest rs < 65536 := by
    unfold cfgRest
    generalize ordL Rl.key rs = l
    unfold restL
    repeat' split
    all_goals constructor <;> decide
  unfold cfgErr
  repeat' split
  · constructor <;> decide
  · constructor <;> decide
  · exact hr _
  · exact hq
theorem conv_slice (w : World) (v : Value) (l : List UInt8) (h : ByteSlice w v l) : (convert 22 9 v).run Tryz.prog w = .ok (.string (bText l)) w := by
  obtain ⟨⟨a, c, rfl, hcl⟩, hm⟩ := h
  rcases l with _ | ⟨x, l⟩
  · rw [show ([] : List UInt8).length = 0 from rfl, run_convert_bytes_string (P := Tryz.prog) w 22 9 5 a 0 c Tryz.underlying22 Tryz.underlying5 Tryz.underlying9]
    cases a <;> simp [Conv.bytesToString, loadCells, bText] <;> rfl
  · obtain ⟨b, o, rfl, hc⟩ := hcl (by simp)
    refine run_convert_bytes_back w 22 9 5 ⟨b, o, none⟩ c (x :: l) Tryz.underlying22 Tryz.underlying5 Tryz.underlying9 fun j hj => ?_
    rw [addr_add]
    exact hc j hj
set_option maxHeartbeats 4000000 in
set_option maxRecDepth 100000 in
theorem law12_prints (most : Int) (v : Value) (rs : List Rl) (w : World) (hm0 : -9223372036854775808 ≤ most) (hm1 : most ≤ 9223372036854775807) (hv : RulesAt w v rs) (hro : ∀ r ∈ rs, RlOk r) (hlen : rs.length ≤ 1000000000) :
    Calls Tryz.prog 15 #[.agg #[.int .i64 most, v]] w fun x w' => x = .returned (.bool true) ∧ Ext w w' := by
  obtain ⟨a, c, rfl⟩ := hv.size
  have x0 : Ext w (w.alloc (.cells #[.int .i64 most, .slice a rs.length c] 28)) := (Ext.refl w).alloc _
  have bP := Blk.new w #[.int .i64 most, .slice a rs.length c] 28
  have hv0 := hv.ext Rl.size4 x0
  generalize hw0 : w.alloc (.cells #[.int .i64 most, .slice a rs.length c] 28) = w0 at *
  obtain ⟨T, q1, q2⟩ : ∃ T : List UInt8, (∀ V, Ext w0 V → Calls Tryz.prog 16 #[.agg #[.int .i64 most, .slice a rs.length c]] V fun x w' => ∃ v', x = .returned (.tuple #[v', .int .u16 (cfgErr most rs)]) ∧ ByteSlice w' v' T ∧ Ext V w') ∧
      (∀ V, Ext w0 V → Calls Tryz.prog 37 #[.agg #[.int .i64 most, .slice a rs.length c]] V fun x w' => ∃ v', x = .returned (.tuple #[v', .int .i64 (cfgErr most rs)]) ∧ ByteSlice w' v' T ∧ Ext V w') := by
    by_cases hok : cfgErr most rs = 0
    · refine ⟨prText most rs, fun V e => ?_, fun V e => ?_⟩
      · rw [hok]
        exact (config_Print_ok most _ rs V hm0 hm1 (hv0.ext Rl.size4 e) hro hlen hok).mono fun x w' ⟨v', h1, h2, h3, h4⟩ => ⟨v', h1, h2, h4⟩
      · rw [hok]
        exact (ref12_Print_ok most _ rs V hm0 hm1 (hv0.ext Rl.size4 e) hro hlen hok).mono fun x w' ⟨v', h1, h2, h4⟩ => ⟨v', h1, (own_bytes h2 rfl).1, h4⟩
    · refine ⟨[], fun V e => ?_, fun V e => ?_⟩
      · exact (config_Print_bad most _ rs V hm0 hm1 (hv0.ext Rl.size4 e) hro hlen hok).mono fun x w' ⟨h1, h4⟩ => ⟨_, h1, ByteSlice.nil _, h4⟩
      · exact (ref12_Print_bad most _ rs V hm0 hm1 (hv0.ext Rl.size4 e) hro hlen hok).mono fun x w' ⟨h1, h4⟩ => ⟨_, h1, ByteSlice.nil _, h4⟩
  have HP1 := Lib.hid q1
  have HP2 := Lib.hid q2
  have HRI := Lib.hid (fun V (e : Ext w0 V) => config_Right most (.slice a rs.length c) rs V hm0 hm1 (hv0.ext Rl.size4 e) hro hlen)
  have HRR := Lib.hid (fun V (e : Ext w0 V) => ref12_Right most (.slice a rs.length c) rs V hm0 hm1 (hv0.ext Rl.size4 e) hro hlen)
  have HOR := Lib.hid (fun V (e : Ext w0 V) => config_Order most (.slice a rs.length c) rs V (hv0.ext Rl.size4 e) hlen)
  have HOO := Lib.hid (fun V (e : Ext w0 V) => ref12_Order most (.slice a rs.length c) rs V (hv0.ext Rl.size4 e) (fun r h => (hro r h).1) hlen)
  have HSA := Lib.hid (fun v3 v4 V (h3 : RulesAt V v3 (ordL Rl.key rs)) (h4 : RulesAt V v4 (ordL Rl.key rs)) => ref12_Same_yes most v3 v4 (ordL Rl.key rs) V h3 h4 (by rw [ordL_len]; omega))
  obtain ⟨he0, he1⟩ := cfgErr_range most rs
  clear hv q1 q2 hro
  generalize cfgErr most rs = E at *
  have hew : IntKind.i64.wrap E = E := by simp [IntKind.wrap, IntKind.signed, IntKind.bits]; omega
  go_enter Tryz.func15, Tryz.ntmps15
  go_upto_region 1 with fail
  have c0 : w0.cell? ⟨w.heap.size, 0, none⟩ = some (.int .i64 most) := bP.cell 0
  have c1 : w0.cell? ⟨w.heap.size, 1, none⟩ = some (.slice a rs.length c) := bP.cell 1
  have HX0 := Lib.hid x0
  have HBP := Lib.hid bP
  clear bP x0 hw0 hv0
  go_upto_region 3 with (first
    | (go_at_call 16; refine (HP1.out _ (Ext.refl _)).mono ?_; rintro x w1 ⟨v1, rfl, hb1, hx1⟩; have d0 := hx1.keep c0; have d1 := hx1.keep c1; have HX1 := Lib.hid hx1; have HB1 := Lib.hid hb1; clear hx1 hb1 c0 c1)
    | (go_at_call 37; refine (HP2.out _ HX1.out).mono ?_; rintro x w2 ⟨v2, rfl, hb2, hx2⟩; have e0 := hx2.keep d0; have e1 := hx2.keep d1; have HX2 := Lib.hid hx2; have HB2 := Lib.hid hb2; clear hx2 hb2 d0 d1)
    | fail)
  have HXA := Lib.hid (HX1.out.trans HX2.out)
  have HB3 := Lib.hid (HBP.out.ext HXA.out)
  have HC1 := Lib.hid (HB1.out.ext HX2.out)
  clear HB1
  go_region_held3 (fun w' => (∀ o, w'.cell? ⟨w.heap.size, o, none⟩ = (#[.int .i64 most, .slice a rs.length c] : Array Value)[o]?) ∧ (convert 22 9 v1).run Tryz.prog w' = .ok (.string (bText T)) w' ∧ (convert 22 9 v2).run Tryz.prog w' = .ok (.string (bText T)) w' ∧ Ext w2 w')
    (((try go_split_ands); refine ⟨Blk.cell (HB3.out.ext ?_), conv_slice _ _ _ (HC1.out.ext ?_), conv_slice _ _ _ (HB2.out.ext ?_), ?_⟩ <;> (repeat (first | with_reducible exact Ext.refl _ | with_reducible assumption | with_reducible refine Ext.alloc ?_ _ | with_reducible refine Ext.drew ?_ | (with_reducible refine Ext.setCell ?_ (by first | exact Nat.le_refl _ | (dsimp only; omega) | (simp; done) | (simp; omega)) _) | with_reducible refine Ext.trans ?_ (by with_reducible assumption)))))
    (first
      | (go_at_call 35; (with_reducible refine (HRI.out _ (HXA.out.trans (by repeat (first | with_reducible exact Ext.refl _ | with_reducible assumption | with_reducible refine Ext.alloc ?_ _ | with_reducible refine Ext.drew ?_ | (with_reducible refine Ext.setCell ?_ (by first | exact Nat.le_refl _ | (dsimp only; omega) | (simp; done) | (simp; omega)) _) | with_reducible refine Ext.trans ?_ (by with_reducible assumption))))).mono ?_); rintro x w11 ⟨rfl, hx11⟩)
      | (go_at_call 39; (with_reducible refine (HRR.out _ (HXA.out.trans (by repeat (first | with_reducible exact Ext.refl _ | with_reducible assumption | with_reducible refine Ext.alloc ?_ _ | with_reducible refine Ext.drew ?_ | (with_reducible refine Ext.setCell ?_ (by first | exact Nat.le_refl _ | (dsimp only; omega) | (simp; done) | (simp; omega)) _) | with_reducible refine Ext.trans ?_ (by with_reducible assumption))))).mono ?_); rintro x w12 ⟨rfl, hx12⟩)
      | (go_at_call 19; (with_reducible refine (HOR.out _ (HXA.out.trans (by repeat (first | with_reducible exact Ext.refl _ | with_reducible assumption | with_reducible refine Ext.alloc ?_ _ | with_reducible refine Ext.drew ?_ | (with_reducible refine Ext.setCell ?_ (by first | exact Nat.le_refl _ | (dsimp only; omega) | (simp; done) | (simp; omega)) _) | with_reducible refine Ext.trans ?_ (by with_reducible assumption))))).mono ?_); rintro x w13 ⟨v3, rfl, ho3, hx13⟩; have h3 := RuleOwn.at ho3; obtain ⟨a3, c3, rfl⟩ := h3.size)
      | (go_at_call 40; (with_reducible refine (HOO.out _ (HXA.out.trans (by repeat (first | with_reducible exact Ext.refl _ | with_reducible assumption | with_reducible refine Ext.alloc ?_ _ | with_reducible refine Ext.drew ?_ | (with_reducible refine Ext.setCell ?_ (by first | exact Nat.le_refl _ | (dsimp only; omega) | (simp; done) | (simp; omega)) _) | with_reducible refine Ext.trans ?_ (by with_reducible assumption))))).mono ?_); rintro x w14 ⟨v4, rfl, ho4, hx14⟩; have h4 := RuleRow.at ho4; obtain ⟨a4, c4, rfl⟩ := h4.size)
      | (go_at_call 18; (with_reducible refine (HSA.out _ _ _ (h3.ext Rl.size4 (by repeat (first | with_reducible exact Ext.refl _ | with_reducible assumption | with_reducible refine Ext.alloc ?_ _ | with_reducible refine Ext.drew ?_ | (with_reducible refine Ext.setCell ?_ (by first | exact Nat.le_refl _ | (dsimp only; omega) | (simp; done) | (simp; omega)) _) | with_reducible refine Ext.trans ?_ (by with_reducible assumption)))) (h4.ext Rl.size4 (by repeat (first | with_reducible exact Ext.refl _ | with_reducible assumption | with_reducible refine Ext.alloc ?_ _ | with_reducible refine Ext.drew ?_ | (with_reducible refine Ext.setCell ?_ (by first | exact Nat.le_refl _ | (dsimp only; omega) | (simp; done) | (simp; omega)) _) | with_reducible refine Ext.trans ?_ (by with_reducible assumption))))).mono ?_); rintro x w15 ⟨rfl, hx15⟩))
  all_goals
    go_wp2
    go_ret
    exact ⟨rfl, HX0.out.trans (HXA.out.trans (by repeat (first | with_reducible exact Ext.refl _ | with_reducible assumption | with_reducible refine Ext.alloc ?_ _ | with_reducible refine Ext.drew ?_ | (with_reducible refine Ext.setCell ?_ (by first | exact Nat.le_refl _ | (dsimp only; omega) | (simp; done) | (simp; omega)) _) | with_reducible refine Ext.trans ?_ (by with_reducible assumption))))⟩
end Go.Proofs.YtknlojlcahgnoaaGreat

namespace Go.Proofs.YtknlojlcahgnoaaGreat
open Go.RowKit
set_option linter.unusedVariables false
set_option linter.unusedSimpArgs false

structure StOk (s : CfgSt) : Prop where
  m : s.most = 0 ∨ (1 ≤ s.most ∧ s.most ≤ 1000000)
  ok : ∀ r ∈ s.rs, RlOk r
  err : ∀ r ∈ s.rs, rErr r = 0
  nd : (s.rs.map (·.p)).Nodup
  len : s.rs.length ≤ 1000
theorem StOk.zero : StOk cfg0 := ⟨Or.inl rfl, by simp [cfg0], by simp [cfg0], by simp [cfg0], by simp [cfg0]⟩
theorem hasPre_mem {rs : List Rl} {p : ByteArray} : hasPre rs p = true ↔ p ∈ rs.map (·.p) := by
  unfold hasPre
  simp
theorem prefOk_size {p : ByteArray} (h : prefOk p = true) : p.size ≤ maxLen := by
  have hm : (1000 : Nat) ≤ maxLen := by decide
  unfold prefOk at h
  rw [Bool.or_eq_true, decide_eq_true_eq] at h
  rcases h with h | h
  · omega
  · unfold keyOk at h
    simp only [Bool.and_eq_true, decide_eq_true_eq] at h
    omega
theorem StOk.put {s : CfgSt} (h : StOk s) {ws : List Wd} (h0 : (lnErr s ws).1 = 0) : StOk (lnPut s ws) := by
  unfold lnErr at h0
  unfold lnPut
  split at h0
  · rename_i q
    rw [if_pos q]
    unfold szErr at h0
    repeat' split at h0
    all_goals try (exfalso; revert h0; decide)
    · rename_i q1 q2 q3
      exact absurd h0 q3
    · rename_i q1 q2 q3 q4
      exact ⟨Or.inr (by constructor <;> (dsimp only; omega)), h.ok, h.err, h.nd, h.len⟩
  · rename_i q
    rw [if_neg q]
    unfold rlErr at h0
    have R := read_line (wTexts ws)
    generalize ruleParse (wTexts ws) = r at *
    repeat' split at h0
    all_goals try (exfalso; revert h0; decide)
    · rename_i q1
      exact absurd h0 q1
    · rename_i q1 q2 q3
      have q1' : r.err = 0 := by
        by_cases q4 : r.err = 0
        · exact q4
        · exact absurd q4 q1
      have hg := (R.good q1').1
      have hp := (ruleErr_zero hg).1
      have hro : RlOk (prRl r) := ⟨prefOk_size hp, R.e0, R.e1, R.b0, R.b1, R.k0, by have := R.k1; show r.k < 256; omega⟩
      refine ⟨h.m, fun x hx => ?_, fun x hx => ?_, ?_, ?_⟩
      · rcases List.mem_append.1 hx with hx | hx
        · exact h.ok x hx
        · rw [List.mem_singleton.1 hx]; exact hro
      · rcases List.mem_append.1 hx with hx | hx
        · exact h.err x hx
        · rw [List.mem_singleton.1 hx]; exact hg
      · show ((s.rs ++ [prRl r]).map (·.p)).Nodup
        rw [List.map_append, List.nodup_append]
        refine ⟨h.nd, by simp, fun a ha b hb e => ?_⟩
        have hb' : b = r.p := by simpa [prRl] using hb
        rw [e, hb'] at ha
        exact q2 (hasPre_mem.2 ha)
      · show (s.rs ++ [prRl r]).length ≤ 1000
        rw [List.length_append]
        simp
        omega
theorem StOk.lines : ∀ (ls : List (List Wd)) (s s' : CfgSt), StOk s → cfgLines s ls = .inr s' → StOk s'
  | [], s, s', h0, h => by
    simp only [cfgLines, Sum.inr.injEq] at h
    subst h
    exact h0
  | ws :: r, s, s', h0, h => by
    have h3 : (if (lnErr s ws).1 ≠ 0 then .inl ((lnErr s ws).1, (wdAt ws (lnErr s ws).2).line, (wdAt ws (lnErr s ws).2).col) else cfgLines (lnPut s ws) r) = (.inr s' : Sum (Int × Int × Int) CfgSt) := h
    split at h3
    · cases h3
    · rename_i q
      have q2 : (lnErr s ws).1 = 0 := by
        by_cases q3 : (lnErr s ws).1 = 0
        · exact q3
        · exact absurd q3 q
      exact StOk.lines r _ s' (h0.put q2) h3
theorem cfgLines_ne : ∀ (ls : List (List Wd)) (s : CfgSt) (f : Int × Int × Int), cfgLines s ls = .inl f → f.1 ≠ 0
  | [], s, f, h => by simp [cfgLines] at h
  | ws :: r, s, f, h => by
    have h3 : (if (lnErr s ws).1 ≠ 0 then .inl ((lnErr s ws).1, (wdAt ws (lnErr s ws).2).line, (wdAt ws (lnErr s ws).2).col) else cfgLines (lnPut s ws) r) = (.inl f : Sum (Int × Int × Int) CfgSt) := h
    split at h3
    · rename_i q
      rw [Sum.inl.injEq] at h3
      rw [← h3]
      exact q
    · exact cfgLines_ne r _ f h3
/-- a text is wrong, and nothing comes of it; or what comes of it is right and in order -/
theorem cfgParse_cases (l : List UInt8) : (∃ e a b, e ≠ 0 ∧ cfgParse l = ⟨e, a, b, 0, []⟩) ∨ ∃ most rs, cfgParse l = ⟨0, 0, 0, most, rs⟩ ∧ PolOk most rs ∧ ordL Rl.key rs = rs := by
  unfold cfgParse
  split
  · rename_i q
    exact Or.inl ⟨_, _, _, q, rfl⟩
  · split
    · rename_i f h
      exact Or.inl ⟨_, _, _, cfgLines_ne _ _ _ h, rfl⟩
    · rename_i s h
      split
      · rename_i q
        exact Or.inl ⟨_, _, _, q, rfl⟩
      · rename_i q
        right
        have hs := StOk.lines _ _ _ StOk.zero h
        have he : endErr s = 0 := by
          by_cases q3 : endErr s = 0
          · exact q3
          · exact absurd q3 q
        unfold endErr at he
        by_cases q1 : s.most = 0
        · rw [if_pos q1] at he; exact absurd he (by decide)
        · rw [if_neg q1] at he
          by_cases q2 : hasPre s.rs ⟨#[]⟩ = false
          · rw [if_pos q2] at he; exact absurd he (by decide)
          · have hm := hs.m.resolve_left q1
            have hd : (⟨#[]⟩ : ByteArray) ∈ s.rs.map (·.p) := hasPre_mem.1 (by simpa using q2)
            exact ⟨s.most, ordL Rl.key s.rs, rfl, (PolOk.mk hm.1 hm.2 hs.ok hs.err hs.nd hs.len hd).ord, ordL_up_id (ordL_up _)⟩
end Go.Proofs.YtknlojlcahgnoaaGreat
