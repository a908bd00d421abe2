/- Walk: tollerlaw12.Policy. -/
import Derived.Deep.CutBlock
import Derived.BigQuiet
import Derived.StillTail
import Derived.Deep.MidRow
import Derived.Deep.DeepCutAuto
import Derived.Maps.AppendAt
import Derived.Test.YtknlojlcahgnoaaGreatEb46
import Derived.Test.YtknlojlcahgnoaaGreatEb21
import Derived.Test.YtknlojlcahgnoaaGreatEb7

namespace Go.Proofs.YtknlojlcahgnoaaGreat
open Go.RowKit
set_option linter.unusedVariables false
set_option linter.unusedSimpArgs false

/-- the rule of some numbers -/
def nmR (ky : ByteArray) (ev bu ki : Int) : Rl := if 200 ≤ ki then ⟨ky, 1 + ev % 50, 1 + bu % 9, 1 + ki % 3⟩ else ⟨ky, 1 + ev, 1 + bu, 1 + ki % 3⟩
def numsR (d : Nms) : Rl := nmR (keyText d.pre) d.every d.burst d.kind
/-- is there none with a prefix -/
def polNew (rs : List Rl) (p : ByteArray) : Bool := rs.all fun r => !decide (r.p = p)
def polAdd (rs : List Rl) (r : Rl) : List Rl := if polNew rs r.p then rs ++ [r] else rs
def polR0 (n : Int) : Rl := ⟨⟨#[]⟩, 1000, 5, 1 + n % 3⟩
def polTo (n : Int) (l : List Nms) : List Rl := l.foldl (fun rs d => polAdd rs (numsR d)) [polR0 n]
def polRs (n : Int) (l : List Nms) : List Rl := polTo n (l.take 12)
theorem polTo_snoc (n : Int) (l : List Nms) (d : Nms) : polTo n (l ++ [d]) = polAdd (polTo n l) (numsR d) := by unfold polTo; rw [List.foldl_append]; rfl
theorem polNew_snoc (rs : List Rl) (r : Rl) (p : ByteArray) : polNew (rs ++ [r]) p = (polNew rs p && !decide (r.p = p)) := by unfold polNew; rw [List.all_append]; simp
theorem keyText_size (l : List UInt8) : 1 ≤ (keyText l).size ∧ (keyText l).size ≤ 12 := by
  have h := keyCat_size (l.take 6)
  rw [List.length_take] at h
  unfold keyText
  split
  · decide
  · omega
theorem numsR_ok {w : World} {d : Nms} (h : NmsOk w d) : RlOk (numsR d) := by
  have hk := keyText_size d.pre
  have hm : 12 ≤ maxLen := by decide
  have h1 := h.e0; have h2 := h.e1; have h3 := h.b0; have h4 := h.b1; have h5 := h.k0; have h6 := h.k1
  unfold numsR nmR
  split <;> exact ⟨by dsimp only; omega, by dsimp only; omega, by dsimp only; omega, by dsimp only; omega, by dsimp only; omega, by dsimp only; omega, by dsimp only; omega⟩
theorem polR0_ok {n : Int} (h : 0 ≤ n) : RlOk (polR0 n) := ⟨show (⟨#[]⟩ : ByteArray).size ≤ maxLen by decide, show (0 : Int) ≤ 1000 by decide, show (1000 : Int) < 18446744073709551616 by decide, show (0 : Int) ≤ 5 by decide, show (5 : Int) < 18446744073709551616 by decide, by unfold polR0; dsimp only; omega, by unfold polR0; dsimp only; omega⟩
theorem polAdd_len (rs : List Rl) (r : Rl) : (polAdd rs r).length ≤ rs.length + 1 := by
  unfold polAdd
  split <;> simp
theorem polTo_len (n : Int) (l : List Nms) : (polTo n l).length ≤ l.length + 1 := by
  induction l using list_snoc with
  | h0 => exact Nat.le_refl _
  | h1 l d ih =>
    rw [polTo_snoc]
    have := polAdd_len (polTo n l) (numsR d)
    rw [List.length_append]
    simp only [List.length_cons, List.length_nil]
    omega
theorem polTo_ok {n : Int} (hn : 0 ≤ n) {w : World} (l : List Nms) (hl : ∀ d ∈ l, NmsOk w d) : ∀ r ∈ polTo n l, RlOk r := by
  induction l using list_snoc with
  | h0 => intro r hr; obtain rfl := List.mem_singleton.1 hr; exact polR0_ok hn
  | h1 l d ih =>
    intro r hr
    rw [polTo_snoc] at hr
    unfold polAdd at hr
    split at hr
    · rcases List.mem_append.1 hr with hr | hr
      · exact ih (fun d hd => hl d (List.mem_append_left _ hd)) r hr
      · obtain rfl := List.mem_singleton.1 hr
        exact numsR_ok (hl d (by simp))
    · exact ih (fun d hd => hl d (List.mem_append_left _ hd)) r hr
theorem setP4 {w : World} {b : Nat} {a0 a1 a2 a3 : Value} {t : TypeId} (h : Blk w b #[a0, a1, a2, a3] t) (v0 v1 v2 v3 : Value) :
    Blk ((((w.setCell ⟨b, 0, none⟩ v0).setCell ⟨b, 1, none⟩ v1).setCell ⟨b, 2, none⟩ v2).setCell ⟨b, 3, none⟩ v3) b #[v0, v1, v2, v3] t := by
  have h0 : Blk _ b #[v0, a1, a2, a3] t := h.set 0 v0
  have h1 : Blk _ b #[v0, v1, a2, a3] t := h0.set 1 v1
  have h2 : Blk _ b #[v0, v1, v2, a3] t := h1.set 2 v2
  exact h2.set 3 v3
theorem row_block {base : Nat} {w : World} {v : Value} {l : List Rl} (h : RuleRow base w v l) (j : Nat) (hj : j < l.length) : ∃ b c, v = .slice (some ⟨b, 0, none⟩) l.length c ∧ base ≤ b ∧ b < w.heap.size ∧ w.cell? ⟨b, j * 4, none⟩ = some (.string l[j].p) := by
  obtain ⟨b, c, e, h1, h2, h3⟩ := RowOf.cells (enc := Rl.cells) (k := 4) Rl.size4 h j hj
  exact ⟨b, c, e, h1, h2, h3 0 (by decide)⟩

set_option maxHeartbeats 4000000 in
set_option maxRecDepth 100000 in
theorem law12_Policy (n : Int) (v : Value) (l : List Nms) (w : World) (hn0 : 0 ≤ n) (hn1 : n < 65536) (hv : NmsSlice w v l) :
    Calls Tryz.prog 11 #[.int .u16 n, v] w fun x w' => ∃ rv, x = .returned (.agg #[.int .i64 (1 + n % 50), rv]) ∧ RuleRow w.heap.size w' rv (polRs n l) ∧ Ext w w' := by
  obtain ⟨⟨a, c, rfl, hl⟩, hlen, heach⟩ := hv
  unfold maxLen at hlen
  have HL := Lib.hid hl
  have HE := Lib.hid heach
  obtain ⟨i0, hi, hz0, hz1, hz2⟩ := info_parts rule_info
  have HI := Lib.hid (And.intro hi (And.intro hz0 (And.intro hz1 hz2)))
  clear hl heach hi hz0 hz1 hz2
  have hq1 : n.tmod 50 = n % 50 := Int.tmod_eq_emod_of_nonneg hn0
  have hq2 : IntKind.u16.wrap (n % 50) = n % 50 := by simp [IntKind.wrap, IntKind.signed, IntKind.bits]; omega
  have hq3 : IntKind.i64.wrap (n % 50) = n % 50 := by simp [IntKind.wrap, IntKind.signed, IntKind.bits]; omega
  have hq4 : IntKind.i64.wrap (1 + n % 50) = 1 + n % 50 := by simp [IntKind.wrap, IntKind.signed, IntKind.bits]; omega
  have hp1 : n.tmod 3 = n % 3 := Int.tmod_eq_emod_of_nonneg hn0
  have hp2 : IntKind.u16.wrap (n % 3) = n % 3 := by simp [IntKind.wrap, IntKind.signed, IntKind.bits]; omega
  have hp3 : IntKind.u8.wrap (n % 3) = n % 3 := by simp [IntKind.wrap, IntKind.signed, IntKind.bits]; omega
  have hp4 : IntKind.u8.wrap (1 + n % 3) = 1 + n % 3 := by simp [IntKind.wrap, IntKind.signed, IntKind.bits]; omega
  have hml : (100 : Nat) ≤ maxLen := by decide
  have hres := (Blk.new w #[.int .i64 0, .slice none 0 0] 28).alloc (.cells #[.int .i64 (1 + n % 50), .slice none 0 0] 28)
  have hpol := Blk.new' (w.alloc (.cells #[.int .i64 0, .slice none 0 0] 28)) #[.int .i64 (1 + n % 50), .slice none 0 0] 28 (b := w.heap.size + 1) (by simp)
  have hxr : Ext w ((w.alloc (.cells #[.int .i64 0, .slice none 0 0] 28)).alloc (.cells #[.int .i64 (1 + n % 50), .slice none 0 0] 28)) := ((Ext.refl w).alloc _).alloc _
  go_enter Tryz.func11, Tryz.ntmps11
  go_upto_region 2 with fail
  generalize (w.alloc (.cells #[.int .i64 0, .slice none 0 0] 28)).alloc (.cells #[.int .i64 (1 + n % 50), .slice none 0 0] 28) = w0 at *
  have cP := hpol.cell
  have fP := hpol.free
  have lP := hpol.lt
  have HRES := Lib.hid hres
  have HPOL := Lib.hid hpol
  have HX0 := Lib.hid hxr
  clear hres hpol hxr
  go_wp2_with (first
    | (at_builtin; refine wpList_append_own _ rfl (.tmp 16) (.tmp 22) 26 rfl w.heap.size 37 i0 (.agg #[.string ⟨#[]⟩, .int .u64 0, .int .u64 0, .int .u8 0]) 4 40 Tryz.underlying26 HI.out.1 HI.out.2.1 HI.out.2.2.1 HI.out.2.2.2 rfl (by decide) (.slice none 0 0) 0 [] rfl (World.ownsRow_nil _ _ _ _) ⟨w0.heap.size, 0, none⟩ 1 1 [.string ⟨#[]⟩, .int .u64 1000, .int .u64 5, .int .u8 (1 + n % 3)] rfl rfl ?_ ?_ ?_ ?_ ?_ ?_; (· exact blk_news (C := #[.string ⟨#[]⟩, .int .u64 1000, .int .u64 5, .int .u8 (1 + n % 3)]) (Blk.new _ _ _)); (· simp [Value.oneCell']); (· omega); (· omega); (· simp; omega); rintro v' w9 hown hgrow -
       have hrow9 : RuleRow w.heap.size w9 v' [polR0 n] := rulerow_more (l := []) (r := polR0 n) hown rfl
       obtain ⟨va, vc, rfl⟩ := hrow9.size
       have hq2 : Blk (w0.alloc (.cells #[.string ⟨#[]⟩, .int .u64 1000, .int .u64 5, .int .u8 (1 + n % 3)] 37)) (w.heap.size + 1) #[.int .i64 (1 + n % 50), .slice none 0 0] 28 := HPOL.out.alloc _
       have bt9 := Blk.grownNe (e := 37) (size := 4) (base := w.heap.size) (n := 0) (xs := []) hq2 hgrow (World.ownsRow_nil _ w.heap.size 37 4) ?hne
       rotate_left
       · decide
       have tc9 := bt9.cell
       have tf9 := bt9.free)
    | fail)
  have hx9 : Ext w w9 := Ext.grownAt (HX0.out.alloc _) (World.ownsRow_nil _ w.heap.size 37 4) (Nat.le_refl _) hgrow
  have hre9 : Blk w9 w.heap.size #[.int .i64 0, .slice none 0 0] 28 := Blk.grownNe (HRES.out.alloc _) hgrow (World.ownsRow_nil _ w.heap.size 37 4) (by decide)
  have HT9 := Lib.hid bt9
  have HROW := Lib.hid hrow9
  have HRE := Lib.hid hre9
  have HX9 := Lib.hid hx9
  clear hgrow hown bt9 tc9 tf9 hrow9 hre9 hx9 cP fP lP HRES HPOL HX0
  go_wp2
  go_loopw [6] (fun i wr => ∃ (k : Nat) (rv : Value), k ≤ l.length ∧ k ≤ 12 ∧ i = .int .i64 k ∧ Blk wr (w.heap.size + 1) #[.int .i64 (1 + n % 50), rv] 28 ∧ RuleRow w.heap.size wr rv (polTo n (l.take k)) ∧ Blk wr w.heap.size #[.int .i64 0, .slice none 0 0] 28 ∧ Ext w wr) (fun i _ => l.length - (intOf i).toNat)
  case atStart => exact ⟨0, .slice va 1 vc, by omega, by omega, rfl, HT9.out.set 1 _, HROW.out.setOther HT9.out (by decide) 1 _, HRE.out.other (by dsimp only; omega) _, HX9.out.setCell (by dsimp only; omega) _⟩
  case round =>
    obtain ⟨k, rv, hk, hk12, rfl, hbp, hrow, hre, hx⟩ := hrel
    obtain ⟨ra, rc, rfl⟩ := hrow.size
    clear HT9 HROW HRE HX9
    have HBP := Lib.hid hbp
    have HROW := Lib.hid hrow
    have HRE := Lib.hid hre
    have HX := Lib.hid hx
    have hbl := hbp.lt
    have hel := hre.lt
    have hpl := polTo_len n (l.take k)
    rw [List.length_take] at hpl
    have hpl2 : (polTo n (l.take k)).length ≤ 13 := by omega
    clear hrow hbp hre hpl
    by_cases hlt : k < l.length ∧ k < 12
    · obtain ⟨hl1, hl2⟩ := hlt
      obtain ⟨b, oo, rfl, hcc⟩ := HL.out (by intro e; rw [e] at hl1; simp at hl1)
      have hdd := HE.out l[k] (List.getElem_mem _)
      obtain ⟨d0, d1, d2, d3⟩ := nms_cells hcc hx k hl1
      have htk : polTo n (l.take (k + 1)) = polAdd (polTo n (l.take k)) (numsR l[k]) := by rw [List.take_succ_eq_append_getElem hl1, polTo_snoc]
      have hky := fun W (hx : Ext w W) => law09_Key _ _ W (hdd.pre.ext hx)
      obtain ⟨ka, kc, hkv, -⟩ := hdd.pre.form
      obtain ⟨-, hev0, hev1, hbu0, hbu1, hki0, hki1⟩ := hdd
      rw [hkv] at d0
      simp only [hkv] at hky
      unfold numsR at htk
      have HTK := Lib.hid htk
      have HKY := Lib.hid hky
      clear htk hky hcc hkv
      generalize keyText l[k].pre = ky at *
      generalize l[k].pre.length = kn at *
      generalize l[k].every = ev at *
      generalize l[k].burst = bu at *
      generalize l[k].kind = ki at *
      generalize hob : oo + k * 4 = ob at *
      have he1 : IntKind.u64.wrap ev = ev := by rw [wrap_u64]; omega
      have he2 : IntKind.u64.wrap (1 + ev) = 1 + ev := by rw [wrap_u64]; omega
      have hb1 : IntKind.u64.wrap bu = bu := by rw [wrap_u64]; omega
      have hb2 : IntKind.u64.wrap (1 + bu) = 1 + bu := by rw [wrap_u64]; omega
      have hk1 : ki.tmod 3 = ki % 3 := Int.tmod_eq_emod_of_nonneg hki0
      have hk2 : IntKind.u8.wrap (ki % 3) = ki % 3 := by simp [IntKind.wrap, IntKind.signed, IntKind.bits]; omega
      have hk3 : IntKind.u8.wrap (1 + ki % 3) = 1 + ki % 3 := by simp [IntKind.wrap, IntKind.signed, IntKind.bits]; omega
      have he3 : ev.tmod 50 = ev % 50 := Int.tmod_eq_emod_of_nonneg hev0
      have he4 : IntKind.u32.wrap (ev % 50) = ev % 50 := by simp [IntKind.wrap, IntKind.signed, IntKind.bits]; omega
      have he5 : IntKind.u64.wrap (ev % 50) = ev % 50 := by rw [wrap_u64]; omega
      have he6 : IntKind.u64.wrap (1 + ev % 50) = 1 + ev % 50 := by rw [wrap_u64]; omega
      have hb3 : bu.tmod 9 = bu % 9 := Int.tmod_eq_emod_of_nonneg hbu0
      have hb4 : IntKind.u16.wrap (bu % 9) = bu % 9 := by simp [IntKind.wrap, IntKind.signed, IntKind.bits]; omega
      have hb5 : IntKind.u64.wrap (bu % 9) = bu % 9 := by rw [wrap_u64]; omega
      have hb6 : IntKind.u64.wrap (1 + bu % 9) = 1 + bu % 9 := by rw [wrap_u64]; omega
      have hkl0 : (0 : Int) ≤ (k : Int) := by omega
      have hkl1 : (k : Int) < (l.length : Int) := by omega
      have hkl2 : (k : Int) < 12 := by omega
      have hkd1 : decide ((k : Int) < (l.length : Int)) = true := decide_eq_true hkl1
      have hkd2 : decide ((k : Int) < 12) = true := decide_eq_true hkl2
      clear hx
      go_upto_region 6 with fail
      go_cut [7] from 35 to 63 (fun x7 wx => ∃ g, x7 = .pointer (some ⟨g, 0, none⟩) ∧ wr.heap.size ≤ g ∧ Blk wx g #[.string ky, .int .u64 (1 + ev), .int .u64 (1 + bu), .int .u8 (1 + ki % 3)] 37 ∧ Ext wr wx)
      case first =>
        go_region_held3 (fun w' => w'.cell? ⟨b, ob, none⟩ = some (.slice ka kn kc) ∧ w'.cell? ⟨b, ob + 1, none⟩ = some (.int .u32 ev) ∧ w'.cell? ⟨b, ob + 2, none⟩ = some (.int .u16 bu) ∧ w'.cell? ⟨b, ob + 3, none⟩ = some (.int .u8 ki) ∧ Ext wr w')
          (((try go_split_ands); refine ⟨?_, ?_, ?_, ?_, ?_⟩ <;> first | with_reducible assumption | exact (Ext.refl _).drew | ((repeat (first | with_reducible exact Ext.refl _ | with_reducible assumption | with_reducible refine Ext.alloc ?_ _ | with_reducible refine Ext.drew ?_ | (with_reducible refine Ext.setCell ?_ (by first | exact Nat.le_refl _ | (dsimp only; omega) | (simp; done) | (simp; omega)) _) | with_reducible refine Ext.trans ?_ (by with_reducible assumption))); done) | (refine Ext.keep (w := wr) (by repeat (first | with_reducible exact Ext.refl _ | with_reducible assumption | with_reducible refine Ext.alloc ?_ _ | with_reducible refine Ext.drew ?_ | (with_reducible refine Ext.setCell ?_ (by first | exact Nat.le_refl _ | (dsimp only; omega) | (simp; done) | (simp; omega)) _) | with_reducible refine Ext.trans ?_ (by with_reducible assumption))) ?_; with_reducible assumption)))
          (first | (go_at_call 36; (with_reducible refine (HKY.out _ (Ext.trans HX.out (by repeat (first | with_reducible exact Ext.refl _ | with_reducible assumption | with_reducible refine Ext.alloc ?_ _ | with_reducible refine Ext.drew ?_ | (with_reducible refine Ext.setCell ?_ (by first | exact Nat.le_refl _ | (dsimp only; omega) | (simp; done) | (simp; omega)) _) | with_reducible refine Ext.trans ?_ (by with_reducible assumption))))).mono ?_); rintro x w6 ⟨rfl, hx6⟩; have hs6 := Ext.sz hx6; (try (with_reducible have bn := Blk.ext (Blk.drew (Blk.new wr #[.string ⟨#[]⟩, .int .u64 0, .int .u64 0, .int .u8 0] 37)) hx6; have cn := bn.cell; have fn := bn.free))))
        all_goals
          go_wp2
          go_meet
          first
            | exact ⟨_, rfl, Nat.le_refl _, setP4 bn _ _ _ _, (by repeat (first | with_reducible exact Ext.refl _ | with_reducible assumption | with_reducible refine Ext.alloc ?_ _ | with_reducible refine Ext.drew ?_ | (with_reducible refine Ext.setCell ?_ (by first | exact Nat.le_refl _ | (dsimp only; omega) | (simp; done) | (simp; omega)) _) | with_reducible refine Ext.trans ?_ (by with_reducible assumption)))⟩
            | exact ⟨_, rfl, by simp at hs6; omega, Blk.new _ _ _, (by repeat (first | with_reducible exact Ext.refl _ | with_reducible assumption | with_reducible refine Ext.alloc ?_ _ | with_reducible refine Ext.drew ?_ | (with_reducible refine Ext.setCell ?_ (by first | exact Nat.le_refl _ | (dsimp only; omega) | (simp; done) | (simp; omega)) _) | with_reducible refine Ext.trans ?_ (by with_reducible assumption)))⟩
      case rest =>
        obtain ⟨g, rfl, hgw, hbg, hxc⟩ := hcut
        have hgc := hbg.cell
        have hgf := hbg.free
        have hgl := hbg.lt
        have e1 := hxc.keep d1
        have e2 := hxc.keep d2
        have e3 := hxc.keep d3
        go_upto_if 68 with fail
        go_cut [7] from 69 to 87 (fun x7 wx => x7 = .pointer (some ⟨g, 0, none⟩) ∧ (∃ e' b' : Int, Blk wx g #[.string ky, .int .u64 e', .int .u64 b', .int .u8 (1 + ki % 3)] 37 ∧ nmR ky ev bu ki = ⟨ky, e', b', 1 + ki % 3⟩) ∧ Ext wr wx)
        case first =>
          by_cases h200 : 200 ≤ ki
          · go_wp2
            go_meet
            exact ⟨rfl, ⟨1 + ev % 50, 1 + bu % 9, (hbg.set 1 _).set 2 _, by unfold nmR; rw [if_pos h200]⟩, (hxc.setCell (by dsimp only; omega) _).setCell (by dsimp only; omega) _⟩
          · go_wp2
            go_meet
            exact ⟨rfl, ⟨1 + ev, 1 + bu, hbg, by unfold nmR; rw [if_neg (by omega)]⟩, hxc⟩
        case rest =>
          obtain ⟨rfl, ⟨e', b', hbg, hnm⟩, hxd⟩ := hcut
          clear hgc hgf hgl e1 e2 e3 hxc
          rw [hnm] at HTK
          generalize hrs : polTo n (l.take k) = rs at *
          have HBG := Lib.hid hbg
          have HXD := Lib.hid hxd
          have HP2 := Lib.hid (HBP.out.ext hxd)
          have HROW2 := Lib.hid (HROW.out.ext hxd)
          have cP := HP2.out.cell
          have cG := hbg.cell
          have hrsl : (rs.length : Int) ≤ 13 := by omega
          clear hbg hxd
          go_wp2_with fail
          go_loopw [8, 9] (fun is i ws => ∃ (j : Nat), j ≤ rs.length ∧ i = .int .i64 j ∧ is = .bool (polNew (rs.take j) ky) ∧ Ext wc ws) (fun _ i _ => rs.length - (intOf i).toNat)
          case atStart => exact ⟨0, by omega, rfl, rfl, Ext.refl _⟩
          case round =>
            obtain ⟨j, hj, rfl, rfl, hxj⟩ := hrel
            have HXJ := Lib.hid hxj
            have cP := (HP2.out.ext hxj).cell
            by_cases hltj : j < rs.length
            · obtain ⟨rb, rcc, er, -, -, q0⟩ := row_block (HROW2.out.ext hxj) j hltj
              cases er
              have cG := (HBG.out.ext hxj).cell
              have htj : polNew (rs.take (j + 1)) ky = (polNew (rs.take j) ky && !decide (rs[j].p = ky)) := by rw [List.take_succ_eq_append_getElem hltj, polNew_snoc]
              have HTJ := Lib.hid htj
              clear htj hxj
              generalize rs[j].p = pj at *
              generalize polNew (rs.take j) ky = bj at *
              have hj0 : (0 : Int) ≤ (j : Int) := by omega
              have hj1 : (j : Int) < (rs.length : Int) := by omega
              cases bj with
              | false =>
                go_upto_region 14 with fail
                go_quiet (fail)
                go_wp2
                go_roundw
                case rel => exact ⟨j + 1, by omega, by go_num, by rw [HTJ.out]; rfl, HXJ.out.trans (Ext.drewNs _ _)⟩
                case measure => simp [intOf]; omega
              | true =>
                by_cases hpj : pj = ky
                · have hpd : (pj.toList != ky.toList) = false := by rw [hpj]; simp
                  go_upto_region 14 with fail
                  go_quiet (fail)
                  go_wp2
                  go_roundw
                  case rel => exact ⟨j + 1, by omega, by go_num, by rw [HTJ.out, hpj]; simp, HXJ.out.trans (Ext.drewNs _ _)⟩
                  case measure => simp [intOf]; omega
                · have hpd : (pj.toList == ky.toList) = false := beq_eq_false_iff_ne.2 fun e => hpj (toList_inj e)
                  go_upto_region 14 with fail
                  go_quiet (fail)
                  go_wp2
                  go_roundw
                  case rel => exact ⟨j + 1, by omega, by go_num, by rw [HTJ.out, decide_eq_false hpj]; rfl, HXJ.out.trans (Ext.drewNs _ _)⟩
                  case measure => simp [intOf]; omega
            · have hjl : j = rs.length := by omega
              subst hjl
              rw [List.take_length]
              cases hb : polNew rs ky with
              | false =>
                have hadd : polAdd rs ⟨ky, e', b', 1 + ki % 3⟩ = rs := by unfold polAdd; rw [show polNew rs ky = false from hb]; rfl
                have HADD := Lib.hid (HTK.out.trans hadd)
                have HXW := Lib.hid (HX.out.trans (HXD.out.trans HXJ.out))
                clear hadd hb
                go_wp2
                go_roundw
                case rel => exact ⟨k + 1, _, by omega, by omega, by go_num, HP2.out.ext HXJ.out, by rw [HADD.out]; exact HROW2.out.ext HXJ.out, HRE.out.ext (HXD.out.trans HXJ.out), HXW.out⟩
                case measure => simp [intOf]; omega
              | true =>
                have hadd : polAdd rs ⟨ky, e', b', 1 + ki % 3⟩ = rs ++ [⟨ky, e', b', 1 + ki % 3⟩] := by unfold polAdd; rw [show polNew rs ky = true from hb]; rfl
                have HADD := Lib.hid (HTK.out.trans hadd)
                have HP3 := Lib.hid (HP2.out.ext HXJ.out)
                have fP := HP3.out.free
                have lP := HP3.out.lt
                have cG := (HBG.out.ext HXJ.out).cell
                have HROW3 := Lib.hid (HROW2.out.ext HXJ.out)
                have HRE3 := Lib.hid (HRE.out.ext (HXD.out.trans HXJ.out))
                have HXW := Lib.hid (HX.out.trans (HXD.out.trans HXJ.out))
                have hrn : rs.length ≤ 13 := by omega
                clear hadd hb
                go_wp2_with (first
                  | (at_builtin; refine wpList_append_own _ rfl (.tmp 108) (.tmp 110) 26 rfl w.heap.size 37 i0 (.agg #[.string ⟨#[]⟩, .int .u64 0, .int .u64 0, .int .u8 0]) 4 40 Tryz.underlying26 HI.out.1 HI.out.2.1 HI.out.2.2.1 HI.out.2.2.2 rfl (by decide) _ _ _ rfl (HROW3.out.own.alloc _) ⟨wr.heap.size, 0, none⟩ 1 1 [.string ky, .int .u64 e', .int .u64 b', .int .u8 (1 + ki % 3)] rfl rfl ?_ ?_ ?_ ?_ ?_ ?_; (· exact blk_news (C := #[.string ky, .int .u64 e', .int .u64 b', .int .u8 (1 + ki % 3)]) (Blk.new _ _ _)); (· simp [Value.oneCell']); (· omega); (· omega); (· simp; omega); rintro v' w9 hown hgrow -
                     have hrow9 : RuleRow w.heap.size w9 v' (rs ++ [⟨ky, e', b', 1 + ki % 3⟩]) := rulerow_more (r := ⟨ky, e', b', 1 + ki % 3⟩) hown rfl
                     obtain ⟨va, vc, rfl⟩ := hrow9.size
                     have hq2 := HP3.out.alloc (.cells #[.string ky, .int .u64 e', .int .u64 b', .int .u8 (1 + ki % 3)] 37)
                     have hq3 := HROW3.out.own.alloc (.cells #[.string ky, .int .u64 e', .int .u64 b', .int .u8 (1 + ki % 3)] 37)
                     have hqn : (37 : TypeId) ≠ 28 := by decide
                     have bt9 := Blk.grownNe hq2 hgrow hq3 hqn
                     have tc9 := bt9.cell
                     have tf9 := bt9.free)
                  | fail)
                have hx9 : Ext w w9 := Ext.grownAt (HXW.out.alloc _) hq3 (Nat.le_refl _) hgrow
                have hre9 : Blk w9 w.heap.size #[.int .i64 0, .slice none 0 0] 28 := Blk.grownNe (HRE3.out.alloc _) hgrow hq3 (by decide)
                have HT9 := Lib.hid bt9
                clear hown hgrow bt9 tc9 tf9
                go_wp2
                go_roundw
                case rel => exact ⟨k + 1, .slice va (rs.length + 1) vc, by omega, by omega, by go_num, HT9.out.set 1 _, (by rw [HADD.out]; have h := hrow9.setOther HT9.out (by decide) 1 (.slice va (rs.length + 1) vc); simpa only [List.length_append, List.length_cons, List.length_nil, Nat.zero_add] using h), hre9.other (by dsimp only; omega) _, hx9.setCell (by dsimp only; omega) _⟩
                case measure => simp [intOf]; omega
    · have hkk : l.take k = l.take 12 := by
        rcases (by omega : k = l.length ∨ k = 12) with q | q
        · rw [List.take_of_length_le (by omega), List.take_of_length_le (by omega)]
        · rw [q]
      have HFIN := Lib.hid (show polTo n (l.take k) = polRs n l from by unfold polRs; rw [hkk])
      have cP := HBP.out.cell
      have cE := HRE.out.cell
      have fE := HRE.out.free
      clear hkk
      go_upto_region 17 with fail
      all_goals
        go_wp2
        refine ret_cell Tryz.results11 rfl (Blk.set2 HRE.out (.int .i64 (1 + n % 50)) (.slice ra (polTo n (l.take k)).length rc)) Tryz.underlying28 rfl (by kernel_rfl) ?_
        exact ⟨_, rfl, by rw [← HFIN.out]; exact (HROW.out.setOther HRE.out (by decide) 0 _).setOther (HRE.out.set 0 _) (by decide) 1 _, (HX.out.setCell (Nat.le_refl _) _).setCell (Nat.le_refl _) _⟩
end Go.Proofs.YtknlojlcahgnoaaGreat
