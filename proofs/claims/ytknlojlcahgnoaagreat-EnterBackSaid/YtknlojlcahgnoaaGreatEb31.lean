/- Walks: Charge. -/
import Derived.Deep.DeepCutAuto
import Derived.Deep.CutRange
import Derived.Test.YtknlojlcahgnoaaGreatEb27

namespace Go.Proofs.YtknlojlcahgnoaaGreat
open Go.RowKit
set_option linter.unusedVariables false
set_option linter.unusedSimpArgs false

/-- the memory of a Charge under way: the table, the rule's box, the answer's cell, the slot -/
structure ChAt (w0 w : World) (t mb c : Nat) (most clock : Int) (l : SMap) (p : ByteArray) (e b rk : Int) (bs : Nat) (S : Array Value) : Prop where
  tab : TabAt w t mb most clock l c
  ok : TabOk l c
  rule : Blk w w0.heap.size (ruleBox p e b rk) 37
  res : Blk w (w0.heap.size + 1) (ansC 0 0 0 0 0 0 0 false) 66
  slot : Blk w bs S 145
  ext : ExtB mb w0 w
theorem ChAt.up {w0 w w' : World} {t mb c : Nat} {most clock : Int} {l : SMap} {p : ByteArray} {e b rk : Int} {bs : Nat} {S : Array Value} (h : ChAt w0 w t mb c most clock l p e b rk bs S) (x : Ext w w') : ChAt w0 w' t mb c most clock l p e b rk bs S :=
  ⟨h.tab.ext x, h.ok, h.rule.ext x, h.res.ext x, h.slot.ext x, h.ext.trans (x.toB mb)⟩
theorem ChAt.swap {w0 w w' : World} {t mb c c' : Nat} {most clock : Int} {l l' : SMap} {p : ByteArray} {e b rk : Int} {bs : Nat} {S : Array Value} (h : ChAt w0 w t mb c most clock l p e b rk bs S) (x : ExtB mb w w') (m : TabAt w' t mb most clock l' c') (k : TabOk l' c') : ChAt w0 w' t mb c' most clock l' p e b rk bs S :=
  ⟨m, k, h.rule.extB x (h.tab.map.ne h.rule).symm, h.res.extB x (h.tab.map.ne h.res).symm, h.slot.extB x (h.tab.map.ne h.slot).symm, h.ext.trans x⟩

theorem run_slen {P : Program} {t k e : TypeId} (ht : P.underlying t = some (.map k e)) {w : World} {b c : Nat} {l : SMap} (h : MapIs w b l c) (ty : TypeId) :
    (Builtin.len_ #[t] ty #[.map (some b)]).run P w = .ok (.int .i64 (l.length : Int)) w := by
  have hb : w.heap[b]? = some (.map (ents l) c) := h
  simp [Builtin.len_, run_underlying ht, MapKept.run_getObj_map hb, Result.andThen]
  simp [goInt, ents]

theorem ChAt.store {w0 w : World} {t mb c : Nat} {most clock : Int} {l : SMap} {p : ByteArray} {e b rk : Int} {bs : Nat} {S : Array Value} (h : ChAt w0 w t mb c most clock l p e b rk bs S) (hbs : w0.heap.size + 1 < bs) (ht : t < w0.heap.size) (hm : mb < w0.heap.size) {a : Nat} (ha : bs < a) (o : Nat) (v : Value) : ChAt w0 (w.setCell ⟨a, o, none⟩ v) t mb c most clock l p e b rk bs S :=
  ⟨⟨h.tab.blk.other (by simp only; omega) v, h.tab.map.other (by simp only; omega) v⟩, h.ok, h.rule.other (by simp only; omega) v, h.res.other (by simp only; omega) v, h.slot.other (by simp only; omega) v, h.ext.setNew (by simp only; omega) v⟩
theorem ChAt.slots {w0 w : World} {t mb c : Nat} {most clock : Int} {l : SMap} {p : ByteArray} {e b rk : Int} {bs : Nat} {S : Array Value} (h : ChAt w0 w t mb c most clock l p e b rk bs S) (hbs : w0.heap.size + 1 < bs) (ht : t < w0.heap.size) (hm : mb < w0.heap.size) (o : Nat) (v : Value) : ChAt w0 (w.setCell ⟨bs, o, none⟩ v) t mb c most clock l p e b rk bs (S.setIfInBounds o v) :=
  ⟨⟨h.tab.blk.other (by simp only; omega) v, h.tab.map.other (by simp only; omega) v⟩, h.ok, h.rule.other (by simp only; omega) v, h.res.other (by simp only; omega) v, h.slot.set o v, h.ext.setNew (by simp only; omega) v⟩

/-- what is left behind the first sweep -/
def roomed (clock : Int) (l : SMap) (is : Bool) (most : Int) : SMap := if is = false ∧ most ≤ l.length then l.filter (fun x => !drained clock x.1) else l

def full (clock : Int) (l : SMap) (is : Bool) (most : Int) : Bool := !is && decide (most ≤ ((roomed clock l is most).length : Int))
def pickI (is : Bool) (a b : Int) : Int := if is then a else b
def chCode (ok : Bool) : Int := if ok then 1 else 2
def chL (ok : Bool) (l : SMap) (s : Slot) (c : Nat) : SMap := if ok then l.put s c else l
def chC (ok : Bool) (l : SMap) (s : Slot) (c : Nat) : Nat := if ok then l.putC s c else c
def chK (h : Option Slot) (rk : Int) : Int := match h with | some s => s.sk | none => rk
def chA (h : Option Slot) (rk clock cap : Int) : Int := match h with | some s => s.sa | none => kOfA rk clock cap 0
def chB (h : Option Slot) (rk clock : Int) : Int := match h with | some s => s.sb | none => kOfB rk clock
/-- what is told of a state that is asked for W -/
def chAns (k a x clock cap W burst e : Int) : Value :=
  ansV (chCode (kOk k a x clock cap W)) 0 burst (divS (satSub cap (kFill k (kNextA k a x clock cap W) (kNextB k a x clock cap W) clock cap)) e)
    (ceilS (kFill k (kNextA k a x clock cap W) (kNextB k a x clock cap W) clock cap) 1000000000) (ceilS (kWait (kFill k a x clock cap) cap W) 1000000000) (kWait (kFill k a x clock cap) cap W) (kRetry (kFill k a x clock cap) cap W)
def chSlot (k p : ByteArray) (e b rk xk xa xb clock cap W : Int) : Slot := ⟨k, p, e, b, rk, xk, kNextA xk xa xb clock cap W, kNextB xk xa xb clock cap W⟩
/-- is there no room -/
def chFull (most clock : Int) (l : SMap) (k : ByteArray) (e b : Int) : Bool := full clock (slotLeft l k e b clock) (slotHit l k e b clock).isSome most
def chRoom (most clock : Int) (l : SMap) (k : ByteArray) (e b : Int) : SMap := roomed clock (slotLeft l k e b clock) (slotHit l k e b clock).isSome most
def chgV (clock : Int) (h : Option Slot) (e b rk n : Int) : Value := chAns (chK h rk) (chA h rk clock (e * b)) (chB h rk clock) clock (e * b) (satMul n e) b e
def chgOk (clock : Int) (h : Option Slot) (e b rk n : Int) : Bool := kOk (chK h rk) (chA h rk clock (e * b)) (chB h rk clock) clock (e * b) (satMul n e)
def chgS (clock : Int) (h : Option Slot) (k p : ByteArray) (e b rk n : Int) : Slot := chSlot k p e b rk (chK h rk) (chA h rk clock (e * b)) (chB h rk clock) clock (e * b) (satMul n e)
/-- what Charge tells, and what it leaves, of a right key and a right rule -/
def chargeV (most clock : Int) (l : SMap) (k : ByteArray) (e b rk n : Int) : Value :=
  if chFull most clock l k e b then ansV 3 0 b 0 0 0 0 false else chgV clock (slotHit l k e b clock) e b rk n
def chargeL (most clock : Int) (l : SMap) (c : Nat) (k p : ByteArray) (e b rk n : Int) : SMap :=
  if chFull most clock l k e b then chRoom most clock l k e b else chL (chgOk clock (slotHit l k e b clock) e b rk n) (chRoom most clock l k e b) (chgS clock (slotHit l k e b clock) k p e b rk n) c
def chargeC (most clock : Int) (l : SMap) (c : Nat) (k p : ByteArray) (e b rk n : Int) : Nat :=
  if chFull most clock l k e b then c else chC (chgOk clock (slotHit l k e b clock) e b rk n) (chRoom most clock l k e b) (chgS clock (slotHit l k e b clock) k p e b rk n) c

theorem kernel_DecideX (k a b now cap x : Int) (w : World) (ha0 : 0 ≤ a) (ha1 : a < 18446744073709551616) (hb0 : 0 ≤ b) (hb1 : b < 18446744073709551616) (hn0 : 0 ≤ now) (hn1 : now < 18446744073709551616) (hc0 : 0 ≤ cap) (hc1 : cap < 18446744073709551616) (hx0 : 0 ≤ x) (hx1 : x < 18446744073709551616) :
    Calls Tryz.prog 108 #[.agg #[.int .u8 k, .int .u64 a, .int .u64 b], .int .u64 now, .int .u64 cap, .int .u64 x] w fun e w' =>
      e = .returned (.tuple #[.agg #[.int .u8 k, .int .u64 (kNextA k a b now cap x), .int .u64 (kNextB k a b now cap x)], .bool (kOk k a b now cap x)]) ∧ Ext w w' := kernel_Decide k a b now cap x w ha0 ha1 hb0 hb1 hn0 hn1 hc0 hc1 hx0 hx1
theorem pick_u {is : Bool} {a b m : Int} (ha : 0 ≤ a) (ha1 : a < m) (hb : 0 ≤ b) (hb1 : b < m) : 0 ≤ pickI is a b ∧ pickI is a b < m := by
  unfold pickI; split <;> omega
theorem kernel_OfR (k now cap : Int) (w : World) (hk : rightKind k = true) (hn0 : 0 ≤ now) (hn1 : now < 18446744073709551616) (hc0 : 0 ≤ cap) (hc1 : cap < 18446744073709551616) :
    Calls Tryz.prog 68 #[.int .u8 k, .int .u64 now, .int .u64 cap, .int .u64 0] w fun e w' => e = .returned (.tuple #[.agg #[.int .u8 k, .int .u64 (kOfA k now cap 0), .int .u64 (kOfB k now)], .int .u16 0]) ∧ Ext w w' := by
  have h := kernel_Of k now cap 0 w hn0 hn1 hc0 hc1 (by omega) (by omega)
  unfold ofV stV at h
  rw [hk] at h
  exact h

set_option maxHeartbeats 8000000 in
set_option maxRecDepth 100000 in
theorem charge_go (t mb c : Nat) (k p : ByteArray) (most clock e b rk n : Int) (l : SMap) (w : World) (h : TabAt w t mb most clock l c) (hok : TabOk l c) (hn0 : 0 ≤ clock) (hn1 : clock < 18446744073709551616)
    (hk : k.size ≤ maxLen) (hp : p.size ≤ maxLen) (he0 : 0 ≤ e) (he1 : e < 18446744073709551616) (hb0 : 0 ≤ b) (hb1 : b < 18446744073709551616) (hr0 : 0 ≤ rk) (hr1 : rk < 256) (hw0 : 0 ≤ n) (hw1 : n < 18446744073709551616)
    (HK : Hid (keyOk k = true)) (HR : Hid (ruleErr p e b rk = 0)) :
    Calls Tryz.prog 54 #[.pointer (some ⟨t, 0, none⟩), .string k, .agg #[.string p, .int .u64 e, .int .u64 b, .int .u8 rk], .int .u64 n] w fun x w' =>
      x = .returned (chargeV most clock l k e b rk n) ∧ TabAt w' t mb most clock (chargeL most clock l c k p e b rk n) (chargeC most clock l c k p e b rk n) ∧ TabOk (chargeL most clock l c k p e b rk n) (chargeC most clock l c k p e b rk n) ∧ ExtB mb w w' := by
  have br := (Blk.new w #[.string p, .int .u64 e, .int .u64 b, .int .u8 rk] 37).alloc (.cells #[.int .u8 0, .int .u16 0, .int .u64 0, .int .u64 0, .int .u64 0, .int .u64 0, .int .u64 0, .bool false, .int .i64 0, .slice none 0 0] 66)
  have ba := Blk.new' (w.alloc (.cells #[.string p, .int .u64 e, .int .u64 b, .int .u8 rk] 37)) #[.int .u8 0, .int .u16 0, .int .u64 0, .int .u64 0, .int .u64 0, .int .u64 0, .int .u64 0, .bool false, .int .i64 0, .slice none 0 0] 66 (b := w.heap.size + 1) (by simp)
  have hx0 := ((Ext.refl w).alloc (.cells #[.string p, .int .u64 e, .int .u64 b, .int .u8 rk] 37)).alloc (.cells #[.int .u8 0, .int .u16 0, .int .u64 0, .int .u64 0, .int .u64 0, .int .u64 0, .int .u64 0, .bool false, .int .i64 0, .slice none 0 0] 66)
  generalize hW0 : (w.alloc (.cells #[.string p, .int .u64 e, .int .u64 b, .int .u8 rk] 37)).alloc (.cells #[.int .u8 0, .int .u16 0, .int .u64 0, .int .u64 0, .int .u64 0, .int .u64 0, .int .u64 0, .bool false, .int .i64 0, .slice none 0 0] 66) = w0 at br ba hx0
  have HW0 := Lib.hid hW0
  clear hW0
  have HT := Lib.hid h
  clear h
  go_enter Tryz.func54, Tryz.ntmps54
  go_wp2_with fail
  rw [HW0.out]
  have hcr := br.cell
  refine (key_Right k _ hk).mono ?_
  rw [HK.out]
  rintro x w1 ⟨rfl, hx1⟩
  have br1 := br.ext hx1
  have ba1 := ba.ext hx1
  clear hcr
  have hcr := br1.cell
  go_wp2_with fail
  refine (rule_Right p e b rk _ hp he0 he1 hb0 hb1).mono ?_
  rw [HR.out]
  rintro x w2 ⟨rfl, hx2⟩
  have br2 := br1.ext hx2
  have ba2 := ba1.ext hx2
  clear hcr br br1 ba ba1
  have hcr := br2.cell
  go_wp2_with fail
  have hxa := (hx0.trans hx1).trans hx2
  refine (table_slot t mb c k p most clock e b rk l _ (HT.out.ext hxa) hok hn0 hn1).mono ?_
  rintro x w3 ⟨s0, hs0, rfl, hsame, ht3, hx3⟩
  have mne := ht3.map
  have br3 := br2.extB hx3 (((HT.out.ext hxa).map.ne br2).symm)
  have ba3 := ba2.extB hx3 (((HT.out.ext hxa).map.ne ba2).symm)
  clear hcr mne br2 ba2
  obtain ⟨k', sp, se, sbu, srk, sk, sa, sb⟩ := s0
  obtain ⟨m1, m2, u1, u2, u3, u4, u5, u6, u7, u8, u9, u10, u11, u12⟩ := hs0
  simp only at m1 m2 u1 u2 u3 u4 u5 u6 u7 u8 u9 u10 u11 u12
  have hok1 : TabOk (slotLeft l k e b clock) c := by unfold slotLeft; split <;> first | exact hok | exact hok.del k
  have HS := Lib.hid hsame
  clear hsame
  have hC : ChAt w (w3.alloc (.cells #[.string k', .string sp, .int .u64 se, .int .u64 sbu, .int .u8 srk, .int .u8 sk, .int .u64 sa, .int .u64 sb] 145)) t mb c most clock (slotLeft l k e b clock) p e b rk w3.heap.size #[.string k', .string sp, .int .u64 se, .int .u64 sbu, .int .u8 srk, .int .u8 sk, .int .u64 sa, .int .u64 sb] :=
    ⟨ht3.ext ((Ext.refl w3).alloc _), hok1, br3.alloc _, ba3.alloc _, Blk.new w3 _ _, ((hxa.toB mb).trans hx3).alloc _⟩
  simp only [Slot.val, Slot.cells]
  go_upto_region 9 with fail
  generalize hI : (slotHit l k e b clock).isSome = is
  have HI := Lib.hid hI
  generalize hL : slotLeft l k e b clock = l1 at *
  have HL := Lib.hid hL
  clear hI hL hok1
  have hbs : w.heap.size + 1 < w3.heap.size := ba3.lt
  have hmb := HT.out.map.lt
  have htb := HT.out.blk.lt
  generalize w3.alloc (.cells #[.string k', .string sp, .int .u64 se, .int .u64 sbu, .int .u8 srk, .int .u8 sk, .int .u64 sa, .int .u64 sb] 145) = wa at *
  clear ht3 hx3 br3 ba3 hx1 hx2 hxa hx0 HW0
  generalize w3.heap.size = bs at *
  have hok1 := hC.ok
  have HC := Lib.hid hC
  clear hC
  go_cut [50] from 17 to 153 (fun s50 wx => s50 = .bool (!is && decide (most ≤ (l1.length : Int))) ∧ ChAt w wx t mb c most clock l1 p e b rk bs #[.string k', .string sp, .int .u64 se, .int .u64 sbu, .int .u8 srk, .int .u8 sk, .int .u64 sa, .int .u64 sb])
  case first =>
    have hm : ∀ n ty, (Builtin.len_ #[128] ty #[.map (some mb)]).run Tryz.prog (wa.drewN n) = .ok (.int .i64 (l1.length : Int)) (wa.drewN n) := fun n ty => run_slen (P := Tryz.prog) Tryz.underlying128 (HC.out.tab.map.ext (Ext.drewNs wa n)) ty
    have c0 : wa.cell? ⟨t, 0, none⟩ = some (.int .i64 most) := HC.out.tab.blk.cell 0
    have c2 : wa.cell? ⟨t, 2, none⟩ = some (.map (some mb)) := HC.out.tab.blk.cell 2
    cases is <;>
    · go_quiet (fail)
      go_wp2
      go_meet
      exact ⟨rfl, HC.out.up (Ext.drewNs _ _)⟩
  case rest =>
  obtain ⟨rfl, hC1⟩ := hcut
  generalize hG : (!is && decide (most ≤ (l1.length : Int))) = G
  have HG := Lib.hid hG
  clear hG HC
  have HC1 := Lib.hid hC1
  clear hC1
  go_upto_if 50 with fail
  go_cut [10] from 17 to 153 (fun s10 wx => s10 = .pointer (some ⟨bs, 0, none⟩) ∧ ChAt w wx t mb c most clock (roomed clock l1 is most) p e b rk bs #[.string k', .string sp, .int .u64 se, .int .u64 sbu, .int .u8 srk, .int .u8 sk, .int .u64 sa, .int .u64 sb])
  case first =>
    cases G
    · go_wp2
      go_meet
      have e1 : roomed clock l1 is most = l1 := by
        have := HG.out
        unfold roomed
        rw [if_neg]
        simp at this
        rintro ⟨q1, q2⟩
        have := this q1
        omega
      rw [e1]
      exact ⟨rfl, HC1.out⟩
    · go_wp2_with fail
      refine (table_sweep t mb c most clock l1 _ HC1.out.tab hok1.old hok1.born hok1.keys hok1.ok hn0 hn1).mono ?_
      rintro x w2 ⟨rfl, hm2, hx2⟩
      go_wp2
      go_meet
      have e1 : roomed clock l1 is most = l1.filter (fun x => !drained clock x.1) := by
        have := HG.out
        simp at this
        unfold roomed
        rw [if_pos this]
      rw [e1]
      exact ⟨rfl, HC1.out.swap hx2 hm2 (hok1.filter _)⟩
  case rest =>
  obtain ⟨rfl, hC2⟩ := hcut
  generalize hL2 : roomed clock l1 is most = l2 at hC2
  have HL2 := Lib.hid hL2
  clear hL2 HC1 HG
  have HC2 := Lib.hid hC2
  clear hC2
  go_upto_region 11 with fail
  go_cut [66] from 17 to 153 (fun s66 wx => s66 = .bool (!is && decide (most ≤ (l2.length : Int))) ∧ ChAt w wx t mb c most clock l2 p e b rk bs #[.string k', .string sp, .int .u64 se, .int .u64 sbu, .int .u8 srk, .int .u8 sk, .int .u64 sa, .int .u64 sb])
  case first =>
    have hm : ∀ n ty, (Builtin.len_ #[128] ty #[.map (some mb)]).run Tryz.prog (wc.drewN n) = .ok (.int .i64 (l2.length : Int)) (wc.drewN n) := fun n ty => run_slen (P := Tryz.prog) Tryz.underlying128 (HC2.out.tab.map.ext (Ext.drewNs wc n)) ty
    have c0 : wc.cell? ⟨t, 0, none⟩ = some (.int .i64 most) := HC2.out.tab.blk.cell 0
    have c2 : wc.cell? ⟨t, 2, none⟩ = some (.map (some mb)) := HC2.out.tab.blk.cell 2
    cases is <;>
    · go_quiet (fail)
      go_wp2
      go_meet
      exact ⟨rfl, HC2.out.up (Ext.drewNs _ _)⟩
  case rest =>
  obtain ⟨rfl, hC3⟩ := hcut
  generalize hG : (!is && decide (most ≤ (l2.length : Int))) = G
  have HG := Lib.hid hG
  clear hG HC2
  have HC3 := Lib.hid hC3
  clear hC3
  cases G
  rotate_left
  · have hcr := HC3.out.rule.cell
    have hcz := HC3.out.res.cell
    have hfz := HC3.out.res.free
    simp only [ruleBox, ansC] at hcr hcz
    have hgl := HC3.out.rule.lt
    go_wp2
    have hS := Blk.set10 HC3.out.res (.int .u8 3) (.int .u16 0) (.int .u64 b) (.int .u64 0) (.int .u64 0) (.int .u64 0) (.int .u64 0) (.bool false) (.int .i64 0) (.slice none 0 0)
    have hful : chFull most clock l k e b = true := by
      unfold chFull full; rw [HI.out, HL.out, HL2.out]; exact HG.out
    have hrm : chRoom most clock l k e b = l2 := by
      unfold chRoom; rw [HI.out, HL.out, HL2.out]
    refine ret_cell Tryz.results54 rfl hS Tryz.underlying66 rfl (by kernel_rfl) ⟨?_, ?_, ?_, ?_⟩
    · unfold chargeV; rw [if_pos hful]; rfl
    · unfold chargeL chargeC; rw [if_pos hful, if_pos hful, hrm]
      have n1 : t ≠ w.heap.size + 1 := by omega
      have n2 : mb ≠ w.heap.size + 1 := by omega
      exact ⟨HC3.out.tab.blk.oth10 n1 _ _ _ _ _ _ _ _ _ _, HC3.out.tab.map.oth10 n2 _ _ _ _ _ _ _ _ _ _⟩
    · unfold chargeL chargeC; rw [if_pos hful, if_pos hful, hrm]; exact HC3.out.ok
    · have n3 : w.heap.size ≤ w.heap.size + 1 := by omega
      exact HC3.out.ext.new10 n3 _ _ _ _ _ _ _ _ _ _
  · have hcr := HC3.out.rule.cell
    simp only [ruleBox] at hcr
    have hgl := HC3.out.rule.lt
    have hcu := ruleCap_u p e b rk he0 hb0
    generalize hcap : ruleCap p e b rk = cap at hcu
    have HCAP := Lib.hid hcap
    clear hcap
    obtain ⟨hc0, hc1⟩ := hcu
    go_upto_if 73 with (go_at_call 69; (with_reducible refine (rule_Cap p e b rk _ hp he0 he1 hb0 hb1).mono ?_); rw [HCAP.out]; rintro x w1 ⟨rfl, hx1⟩)
    have hC4 := HC3.out.up hx1
    have HC4 := Lib.hid hC4
    clear HC3 hC4 hcr
    go_cut [10] from 17 to 153 (fun s10 wx => s10 = .pointer (some ⟨bs, 0, none⟩) ∧ ChAt w wx t mb c most clock l2 p e b rk bs #[.string k', .string sp, .int .u64 se, .int .u64 sbu, .int .u8 srk, .int .u8 (pickI is sk rk), .int .u64 (pickI is sa (kOfA rk clock cap 0)), .int .u64 (pickI is sb (kOfB rk clock))])
    case first =>
      cases is
      · have hrk : rightKind rk = true := (ruleErr_zero HR.out).2.2.2.2
        have r3 : w1.cell? ⟨w.heap.size, 3, none⟩ = some (.int .u8 rk) := HC4.out.rule.cell 3
        have t1 : w1.cell? ⟨t, 1, none⟩ = some (.int .u64 clock) := HC4.out.tab.blk.cell 1
        go_wp2_with fail
        go_region_held3 (fun w' => w'.cell? ⟨w.heap.size, 3, none⟩ = some (.int .u8 rk) ∧ w'.cell? ⟨t, 1, none⟩ = some (.int .u64 clock) ∧ ExtB bs w1 w')
          (((try go_split_ands); refine ⟨?_, ?_, ?_⟩ <;> first | with_reducible assumption | ((repeat (first | with_reducible exact ExtB.refl _ _ | with_reducible assumption | with_reducible refine ExtB.alloc ?_ _ | with_reducible refine ExtB.drew ?_ | with_reducible refine ExtB.setCell ?_ _ _ | with_reducible refine ExtB.trans ?_ (by with_reducible assumption) | with_reducible refine ExtB.trans ?_ (Ext.toB (by with_reducible assumption) _))); done) | (refine ExtB.keep (b := bs) (w := w1) (by repeat (first | with_reducible exact ExtB.refl _ _ | with_reducible assumption | with_reducible refine ExtB.alloc ?_ _ | with_reducible refine ExtB.drew ?_ | with_reducible refine ExtB.setCell ?_ _ _ | with_reducible refine ExtB.trans ?_ (by with_reducible assumption) | with_reducible refine ExtB.trans ?_ (Ext.toB (by with_reducible assumption) _))) ?_ ?_ <;> first | with_reducible assumption | (dsimp only; omega))))
          (first
            | (go_at_call 68; (with_reducible refine (kernel_OfR rk clock cap _ hrk hn0 hn1 hc0 (by omega)).mono ?_); rintro x w2 ⟨rfl, hx2⟩; have hfs := (HC4.out.slot.ext (Ext.trans ((Ext.refl _).drew) hx2)).free; have hcs := (HC4.out.slot.ext (Ext.trans ((Ext.refl _).drew) hx2)).cell))
        go_wp2
        go_meet
        have hC5 := (((HC4.out.up (Ext.trans ((Ext.refl _).drew) hx2)).slots hbs htb hmb 5 (.int .u8 rk)).slots hbs htb hmb 6 (.int .u64 (kOfA rk clock cap 0))).slots hbs htb hmb 7 (.int .u64 (kOfB rk clock))
        exact ⟨rfl, hC5⟩
      · go_wp2
        go_meet
        exact ⟨rfl, HC4.out⟩
    case rest =>
    obtain ⟨rfl, hC5⟩ := hcut
    have hko := kOf_u rk clock cap 0 hn0 hn1 hc0 (by omega) (by omega) (by omega)
    have hsk := pick_u (is := is) u7 u8 hr0 hr1
    have hsa := pick_u (is := is) u9 u10 hko.1 hko.2.1
    have hsb := pick_u (is := is) u11 u12 hko.2.2.1 hko.2.2.2
    generalize hxk : pickI is sk rk = xk at *
    generalize hxa : pickI is sa (kOfA rk clock cap 0) = xa at *
    generalize hxb : pickI is sb (kOfB rk clock) = xb at *
    have HXK := Lib.hid hxk
    have HXA := Lib.hid hxa
    have HXB := Lib.hid hxb
    obtain ⟨xk0, xk1⟩ := hsk
    obtain ⟨xa0, xa1⟩ := hsa
    obtain ⟨xb0, xb1⟩ := hsb
    have HC5 := Lib.hid hC5
    clear hxk hxa hxb hC5 HC4 hko
    have hmu := satMul_u n e hw0 he0
    generalize hmul : satMul n e = W at hmu
    have HM := Lib.hid hmul
    obtain ⟨hW0, hW1⟩ := hmu
    clear hmul
    have r1 : wc.cell? ⟨w.heap.size, 1, none⟩ = some (.int .u64 e) := HC5.out.rule.cell 1
    have hcr := HC5.out.rule.cell
    simp only [ruleBox] at hcr
    have hgl := HC5.out.rule.lt
    go_upto_region 17 with (go_at_call 105; (with_reducible refine (num_Mul n e _ hw0 hw1 he0 he1).mono ?_); rw [HM.out]; rintro x w6 ⟨rfl, hx6⟩)
    have hC6 := HC5.out.up hx6
    have HC6 := Lib.hid hC6
    clear hC6 r1 hcr
    have hcr := HC6.out.rule.cell
    simp only [ruleBox] at hcr
    have hgl6 := HC6.out.rule.lt
    have hbl6 := HC6.out.slot.lt
    go_upto_region 18 with fail
    have hC7 := HC6.out.up ((Ext.refl w6).alloc (.cells #[.int .u8 2, .int .u16 0, .int .u64 b, .int .u64 0, .int .u64 0, .int .u64 0, .int .u64 0, .bool false, .int .i64 0, .slice none 0 0] 66))
    have bA := Blk.new w6 #[.int .u8 2, .int .u16 0, .int .u64 b, .int .u64 0, .int .u64 0, .int .u64 0, .int .u64 0, .bool false, .int .i64 0, .slice none 0 0] 66
    generalize w6.alloc (.cells #[.int .u8 2, .int .u16 0, .int .u64 b, .int .u64 0, .int .u64 0, .int .u64 0, .int .u64 0, .bool false, .int .i64 0, .slice none 0 0] 66) = w7 at *
    generalize w6.heap.size = A at *
    have HC7 := Lib.hid hC7
    have HA7 := Lib.hid bA
    clear hC7 bA hcr HC6 hx6
    have hF := kFill_u xk xa xb clock cap xa0 xa1 xb0 hn0 hn1 hc0 (by omega)
    generalize hf : kFill xk xa xb clock cap = Fi at hF
    have HF := Lib.hid hf
    generalize hnn : kWait Fi cap W = nan
    have HNN := Lib.hid hnn
    generalize hrr : kRetry Fi cap W = ret
    have HRT := Lib.hid hrr
    obtain ⟨hF0, hF1⟩ := hF
    have hnb : 0 ≤ nan ∧ nan < 18446744073709551616 := by
      rw [← hnn]; unfold kWait; split
      · rename_i q; unfold kRetry at q; simp at q; omega
      · omega
    obtain ⟨hnb0, hnb1⟩ := hnb
    clear hf hnn hrr
    have s5 : w7.cell? ⟨bs, 5, none⟩ = some (.int .u8 xk) := HC7.out.slot.cell 5
    have s6 : w7.cell? ⟨bs, 6, none⟩ = some (.int .u64 xa) := HC7.out.slot.cell 6
    have s7 : w7.cell? ⟨bs, 7, none⟩ = some (.int .u64 xb) := HC7.out.slot.cell 7
    have t1 : w7.cell? ⟨t, 1, none⟩ = some (.int .u64 clock) := HC7.out.tab.blk.cell 1
    go_region_held3 (fun w' => w'.cell? ⟨bs, 5, none⟩ = some (.int .u8 xk) ∧ w'.cell? ⟨bs, 6, none⟩ = some (.int .u64 xa) ∧ w'.cell? ⟨bs, 7, none⟩ = some (.int .u64 xb) ∧ w'.cell? ⟨t, 1, none⟩ = some (.int .u64 clock) ∧ ExtB A w7 w')
      (((try go_split_ands); refine ⟨?_, ?_, ?_, ?_, ?_⟩ <;> first | with_reducible assumption | ((repeat (first | with_reducible exact ExtB.refl _ _ | with_reducible assumption | with_reducible refine ExtB.alloc ?_ _ | with_reducible refine ExtB.drew ?_ | with_reducible refine ExtB.setCell ?_ _ _ | with_reducible refine ExtB.trans ?_ (by with_reducible assumption) | with_reducible refine ExtB.trans ?_ (Ext.toB (by with_reducible assumption) _))); done) | (refine ExtB.keep (b := A) (w := w7) (by repeat (first | with_reducible exact ExtB.refl _ _ | with_reducible assumption | with_reducible refine ExtB.alloc ?_ _ | with_reducible refine ExtB.drew ?_ | with_reducible refine ExtB.setCell ?_ _ _ | with_reducible refine ExtB.trans ?_ (by with_reducible assumption) | with_reducible refine ExtB.trans ?_ (Ext.toB (by with_reducible assumption) _))) ?_ ?_ <;> first | with_reducible assumption | (dsimp only; omega))))
      (first
        | (go_at_call 106; (with_reducible refine (kernel_Wait xk xa xb clock cap W _ xa0 xa1 xb0 xb1 hn0 hn1 hc0 (by omega) hW0 hW1).mono ?_); rw [HF.out, HNN.out, HRT.out]; rintro x w8 ⟨rfl, hx8⟩; have hfs := (HA7.out.ext (Ext.trans ((Ext.refl _).drew) hx8)).free; have hcs := (HA7.out.ext (Ext.trans ((Ext.refl _).drew) hx8)).cell))
    have hx78 : Ext w7 w8 := Ext.trans ((Ext.refl _).drew) hx8
    have hC9 := ((HC7.out.up hx78).store hbs htb hmb hbl6 6 (.int .u64 nan)).store hbs htb hmb hbl6 7 (.bool ret)
    have bA9 : Blk _ A #[.int .u8 2, .int .u16 0, .int .u64 b, .int .u64 0, .int .u64 0, .int .u64 0, .int .u64 nan, .bool ret, .int .i64 0, .slice none 0 0] 66 := ((HA7.out.ext hx78).set 6 (.int .u64 nan)).set 7 (.bool ret)
    clear hfs hcs s5 s6 s7 t1 HC7 HA7
    generalize (w8.setCell ⟨A, 6, none⟩ (.int .u64 nan)).setCell ⟨A, 7, none⟩ (.bool ret) = w9 at *
    have HC9 := Lib.hid hC9
    have HA9 := Lib.hid bA9
    clear hC9 bA9 hx8 hx78
    have hcA := HA9.out.cell
    have hfA := HA9.out.free
    generalize hcc : ceilS nan 1000000000 = aft
    have HAFT := Lib.hid hcc
    clear hcc
    go_upto_region 20 with (go_at_call 107; (with_reducible refine (num_Ceil nan 1000000000 _ hnb0 hnb1 (by omega) (by omega)).mono ?_); rw [HAFT.out]; rintro x w10 ⟨rfl, rfl⟩)
    have hC10 := HC9.out.store hbs htb hmb hbl6 5 (.int .u64 aft)
    have bA10 : Blk _ A #[.int .u8 2, .int .u16 0, .int .u64 b, .int .u64 0, .int .u64 0, .int .u64 aft, .int .u64 nan, .bool ret, .int .i64 0, .slice none 0 0] 66 := HA9.out.set 5 (.int .u64 aft)
    clear hcA hfA HC9 HA9
    generalize w9.setCell ⟨A, 5, none⟩ (.int .u64 aft) = w10 at *
    have HC10 := Lib.hid hC10
    have HA10 := Lib.hid bA10
    clear hC10 bA10
    have s5 : w10.cell? ⟨bs, 5, none⟩ = some (.int .u8 xk) := HC10.out.slot.cell 5
    have s6 : w10.cell? ⟨bs, 6, none⟩ = some (.int .u64 xa) := HC10.out.slot.cell 6
    have s7 : w10.cell? ⟨bs, 7, none⟩ = some (.int .u64 xb) := HC10.out.slot.cell 7
    have t1 : w10.cell? ⟨t, 1, none⟩ = some (.int .u64 clock) := HC10.out.tab.blk.cell 1
    have hnx := kNext_u xk xa xb clock cap W xa0 xa1 xb0 xb1 hn0 hn1 hc0 (by omega) hW0 hW1
    generalize hna : kNextA xk xa xb clock cap W = na at hnx
    have HNA := Lib.hid hna
    generalize hnb : kNextB xk xa xb clock cap W = nb at hnx
    have HNB := Lib.hid hnb
    generalize hok0 : kOk xk xa xb clock cap W = ok
    have HOK := Lib.hid hok0
    obtain ⟨na0, na1, nb0, nb1⟩ := hnx
    clear hna hnb hok0
    go_cut [15, 16] from 17 to 153 (fun s15 s16 wx => ∃ g, A < g ∧ s15 = .pointer (some ⟨g, 0, none⟩) ∧ s16 = .bool ok ∧ Blk wx g #[.int .u8 xk, .int .u64 na, .int .u64 nb] 140 ∧ ChAt w wx t mb c most clock l2 p e b rk bs #[.string k', .string sp, .int .u64 se, .int .u64 sbu, .int .u8 srk, .int .u8 xk, .int .u64 xa, .int .u64 xb] ∧ Blk wx A #[.int .u8 2, .int .u16 0, .int .u64 b, .int .u64 0, .int .u64 0, .int .u64 aft, .int .u64 nan, .bool ret, .int .i64 0, .slice none 0 0] 66)
    case first =>
      have hAl := HA10.out.lt
      go_region_held3 (fun w' => w'.cell? ⟨bs, 5, none⟩ = some (.int .u8 xk) ∧ w'.cell? ⟨bs, 6, none⟩ = some (.int .u64 xa) ∧ w'.cell? ⟨bs, 7, none⟩ = some (.int .u64 xb) ∧ w'.cell? ⟨t, 1, none⟩ = some (.int .u64 clock) ∧ Ext w10 w')
        (((try go_split_ands); refine ⟨?_, ?_, ?_, ?_, ?_⟩ <;> first | with_reducible assumption | exact (Ext.refl _).drew | ((repeat (first | with_reducible exact Ext.refl _ | with_reducible assumption | with_reducible refine Ext.alloc ?_ _ | with_reducible refine Ext.drew ?_ | (with_reducible refine Ext.setCell ?_ (by first | exact Nat.le_refl _ | (dsimp only; omega) | (simp; done) | (simp; omega)) _) | with_reducible refine Ext.trans ?_ (by with_reducible assumption))); done) | (refine Ext.keep (w := w10) (by repeat (first | with_reducible exact Ext.refl _ | with_reducible assumption | with_reducible refine Ext.alloc ?_ _ | with_reducible refine Ext.drew ?_ | (with_reducible refine Ext.setCell ?_ (by first | exact Nat.le_refl _ | (dsimp only; omega) | (simp; done) | (simp; omega)) _) | with_reducible refine Ext.trans ?_ (by with_reducible assumption))) ?_; with_reducible assumption)))
        (first
          | (go_at_call 108; (with_reducible refine (kernel_DecideX xk xa xb clock cap W _ xa0 xa1 xb0 xb1 hn0 hn1 hc0 (by omega) hW0 hW1).mono ?_); rw [HNA.out, HNB.out, HOK.out]; rintro x w11 ⟨rfl, hx11⟩; have hxx : Ext w10 w11 := (by repeat (first | with_reducible exact Ext.refl _ | with_reducible assumption | with_reducible refine Ext.alloc ?_ _ | with_reducible refine Ext.drew ?_ | (with_reducible refine Ext.setCell ?_ (by first | exact Nat.le_refl _ | (dsimp only; omega) | (simp; done) | (simp; omega)) _) | with_reducible refine Ext.trans ?_ (by with_reducible assumption))); have hsz := hxx.sz; have bN := Blk.new w11 #[.int .u8 0, .int .u64 0, .int .u64 0] 140; have hfn := bN.free; have hcn := bN.cell; have hln := bN.lt; try ((first | (with_reducible have bM := (Blk.new _ _ 140).ext hx11) | (with_reducible have bM := ((Blk.new _ _ 140).drew).ext hx11)); have hfm := bM.free; have hcm := bM.cell; have hlm := bM.lt)))
      all_goals go_wp2
      all_goals go_meet
      · exact ⟨w11.heap.size, by omega, rfl, rfl, Blk.new w11 _ _, HC10.out.up (hxx.alloc _), (HA10.out.ext hxx).alloc _⟩
      · exact ⟨w10.heap.size, hAl, rfl, rfl, ((bM.set 0 _).set 1 _).set 2 _, (((HC10.out.up hxx).store hbs htb hmb (by omega) 0 _).store hbs htb hmb (by omega) 1 _).store hbs htb hmb (by omega) 2 _,
          (((HA10.out.ext hxx).other (by dsimp only; omega) _).other (by dsimp only; omega) _).other (by dsimp only; omega) _⟩
    case rest =>
    obtain ⟨g, hAg, rfl, rfl, bg, hC12, bA12⟩ := hcut
    have HC12 := Lib.hid hC12
    have HA12 := Lib.hid bA12
    have HG12 := Lib.hid bg
    clear hC12 bA12 bg HC10 HA10
    go_upto_if 123 with fail
    go_cut [15] from 17 to 153 (fun s15 wx => s15 = .pointer (some ⟨g, 0, none⟩) ∧ Blk wx g #[.int .u8 xk, .int .u64 na, .int .u64 nb] 140 ∧ ChAt w wx t mb (chC ok l2 ⟨k, p, e, b, rk, xk, na, nb⟩ c) most clock (chL ok l2 ⟨k, p, e, b, rk, xk, na, nb⟩ c) p e b rk bs #[.string k', .string sp, .int .u64 se, .int .u64 sbu, .int .u8 srk, .int .u8 xk, .int .u64 xa, .int .u64 xb] ∧ Blk wx A #[.int .u8 (chCode ok), .int .u16 0, .int .u64 b, .int .u64 (0), .int .u64 (0), .int .u64 aft, .int .u64 nan, .bool ret, .int .i64 0, .slice none 0 0] 66)
    case first =>
      cases ok
      · go_wp2
        go_meet
        exact ⟨rfl, HG12.out, HC12.out, HA12.out⟩
      · have hcA := HA12.out.cell
        have hfA := HA12.out.free
        go_upto_region 23 with fail
        have hC13 := HC12.out.store hbs htb hmb hbl6 0 (.int .u8 1)
        have bA13 : Blk _ A #[.int .u8 (1), .int .u16 0, .int .u64 b, .int .u64 (0), .int .u64 (0), .int .u64 aft, .int .u64 nan, .bool ret, .int .i64 0, .slice none 0 0] 66 := HA12.out.set 0 (.int .u8 1)
        have bg13 := HG12.out.other (a := ⟨A, 0, none⟩) (by dsimp only; omega) (.int .u8 1)
        clear hcA hfA
        generalize wc.setCell ⟨A, 0, none⟩ (.int .u8 1) = w13 at *
        have t2 : w13.cell? ⟨t, 2, none⟩ = some (.map (some mb)) := hC13.tab.blk.cell 2
        have r0 : w13.cell? ⟨w.heap.size, 0, none⟩ = some (.string p) := hC13.rule.cell 0
        have r1 : w13.cell? ⟨w.heap.size, 1, none⟩ = some (.int .u64 e) := hC13.rule.cell 1
        have r2 : w13.cell? ⟨w.heap.size, 2, none⟩ = some (.int .u64 b) := hC13.rule.cell 2
        have r3 : w13.cell? ⟨w.heap.size, 3, none⟩ = some (.int .u8 rk) := hC13.rule.cell 3
        have g0 : w13.cell? ⟨g, 0, none⟩ = some (.int .u8 xk) := bg13.cell 0
        have g1 : w13.cell? ⟨g, 1, none⟩ = some (.int .u64 na) := bg13.cell 1
        have g2 : w13.cell? ⟨g, 2, none⟩ = some (.int .u64 nb) := bg13.cell 2
        obtain ⟨w14, hput, hm14, hx14⟩ := run_sput (P := Tryz.prog) Tryz.underlying128 Tryz.underlying9 (hC13.tab.map.ext ((Ext.refl _).drew)) hC13.ok.keys ⟨k, p, e, b, rk, xk, na, nb⟩
        simp only [Slot.val, Slot.cells] at hput
        have htm : t ≠ mb := HT.out.ne
        have hxx : ExtB mb w13 w14 := ((ExtB.refl mb w13).drew).trans hx14
        have hso : SlotOk ⟨k, p, e, b, rk, xk, na, nb⟩ := ⟨hk, hp, he0, he1, hb0, hb1, hr0, hr1, xk0, xk1, na0, na1, nb0, nb1⟩
        have hC14 := hC13.swap hxx (hC13.tab.swap hxx hm14) (hC13.ok.put hso)
        have bA14 := bA13.extB hxx (hC13.tab.map.ne bA13).symm
        have bg14 := bg13.extB hxx (hC13.tab.map.ne bg13).symm
        have HC14 := Lib.hid hC14
        have HA14 := Lib.hid bA14
        have HG14 := Lib.hid bg14
        clear hC13 bA13 bg13 hC14 bA14 bg14 hm14 HC12 HA12 HG12
        go_region_held3 (fun w' => w'.cell? ⟨t, 2, none⟩ = some (.map (some mb)) ∧ w'.cell? ⟨w.heap.size, 0, none⟩ = some (.string p) ∧ w'.cell? ⟨w.heap.size, 1, none⟩ = some (.int .u64 e) ∧ w'.cell? ⟨w.heap.size, 2, none⟩ = some (.int .u64 b) ∧ w'.cell? ⟨w.heap.size, 3, none⟩ = some (.int .u8 rk) ∧ w'.cell? ⟨g, 0, none⟩ = some (.int .u8 xk) ∧ w'.cell? ⟨g, 1, none⟩ = some (.int .u64 na) ∧ w'.cell? ⟨g, 2, none⟩ = some (.int .u64 nb) ∧ ExtB mb w13 w')
          (first | exact ⟨t2, r0, r1, r2, r3, g0, g1, g2, (ExtB.refl mb w13).drew⟩ | exact ⟨hxx.keep t2 (by dsimp only; omega), hxx.keep r0 (by dsimp only; omega), hxx.keep r1 (by dsimp only; omega), hxx.keep r2 (by dsimp only; omega), hxx.keep r3 (by dsimp only; omega), hxx.keep g0 (by dsimp only; omega), hxx.keep g1 (by dsimp only; omega), hxx.keep g2 (by dsimp only; omega), hxx⟩)
          (fail)
        go_wp2
        go_meet
        exact ⟨rfl, HG14.out, HC14.out, HA14.out⟩
    case rest =>
    obtain ⟨rfl, bg15, hC15, bA15⟩ := hcut
    generalize hl3 : chL ok l2 ⟨k, p, e, b, rk, xk, na, nb⟩ c = l3 at hC15
    have HL3 := Lib.hid hl3
    generalize hc3 : chC ok l2 ⟨k, p, e, b, rk, xk, na, nb⟩ c = c3 at hC15
    have HC3' := Lib.hid hc3
    generalize hcd : chCode ok = code at bA15
    have HCD := Lib.hid hcd
    have HC15 := Lib.hid hC15
    have HA15 := Lib.hid bA15
    have HG15 := Lib.hid bg15
    clear hl3 hc3 hcd hC15 bA15 bg15 HC12 HA12 HG12
    have hG := kFill_u xk na nb clock cap na0 na1 nb0 hn0 hn1 hc0 (by omega)
    generalize hf : kFill xk na nb clock cap = Gi at hG
    have HGI := Lib.hid hf
    obtain ⟨hG0, hG1⟩ := hG
    generalize hle : divS (satSub cap Gi) e = lef
    have HLE := Lib.hid hle
    generalize hre : ceilS Gi 1000000000 = res
    have HRE := Lib.hid hre
    clear hf hle hre
    have t1 : wc.cell? ⟨t, 1, none⟩ = some (.int .u64 clock) := HC15.out.tab.blk.cell 1
    have r1 : wc.cell? ⟨w.heap.size, 1, none⟩ = some (.int .u64 e) := HC15.out.rule.cell 1
    have g0 : wc.cell? ⟨g, 0, none⟩ = some (.int .u8 xk) := HG15.out.cell 0
    have g1 : wc.cell? ⟨g, 1, none⟩ = some (.int .u64 na) := HG15.out.cell 1
    have g2 : wc.cell? ⟨g, 2, none⟩ = some (.int .u64 nb) := HG15.out.cell 2
    go_upto_region 24 with fail
    go_region_held3 (fun w' => w'.cell? ⟨g, 0, none⟩ = some (.int .u8 xk) ∧ w'.cell? ⟨g, 1, none⟩ = some (.int .u64 na) ∧ w'.cell? ⟨g, 2, none⟩ = some (.int .u64 nb) ∧ w'.cell? ⟨t, 1, none⟩ = some (.int .u64 clock) ∧ w'.cell? ⟨w.heap.size, 1, none⟩ = some (.int .u64 e) ∧ ExtB A wc w')
      (((try go_split_ands); refine ⟨?_, ?_, ?_, ?_, ?_, ?_⟩ <;> first | with_reducible assumption | ((repeat (first | with_reducible exact ExtB.refl _ _ | with_reducible assumption | with_reducible refine ExtB.alloc ?_ _ | with_reducible refine ExtB.drew ?_ | with_reducible refine ExtB.setCell ?_ _ _ | with_reducible refine ExtB.trans ?_ (by with_reducible assumption) | with_reducible refine ExtB.trans ?_ (Ext.toB (by with_reducible assumption) _))); done) | (refine ExtB.keep (b := A) (w := wc) (by repeat (first | with_reducible exact ExtB.refl _ _ | with_reducible assumption | with_reducible refine ExtB.alloc ?_ _ | with_reducible refine ExtB.drew ?_ | with_reducible refine ExtB.setCell ?_ _ _ | with_reducible refine ExtB.trans ?_ (by with_reducible assumption) | with_reducible refine ExtB.trans ?_ (Ext.toB (by with_reducible assumption) _))) ?_ ?_ <;> first | with_reducible assumption | (dsimp only; omega))))
      (first
        | (go_at_call 109; (with_reducible refine (kernel_Left xk na nb clock cap e _ na0 na1 nb0 nb1 hn0 hn1 hc0 (by omega) he0 he1).mono ?_); rw [HGI.out, HLE.out]; rintro x w16 ⟨rfl, hx16⟩; have hfs := (HA15.out.ext (Ext.trans ((Ext.refl _).drew) hx16)).free; have hcs := (HA15.out.ext (Ext.trans ((Ext.refl _).drew) hx16)).cell))
    have hxx : Ext wc w16 := Ext.trans ((Ext.refl _).drew) hx16
    have hC17 := (HC15.out.up hxx).store hbs htb hmb hbl6 3 (.int .u64 lef)
    have bA17 : Blk _ A #[.int .u8 (code), .int .u16 0, .int .u64 b, .int .u64 (lef), .int .u64 (0), .int .u64 aft, .int .u64 nan, .bool ret, .int .i64 0, .slice none 0 0] 66 := (HA15.out.ext hxx).set 3 (.int .u64 lef)
    have bg17 := (HG15.out.ext hxx).other (a := ⟨A, 3, none⟩) (by dsimp only; omega) (.int .u64 lef)
    clear hfs hcs g0 g1 g2 t1 r1 HC15 HA15 HG15
    generalize w16.setCell ⟨A, 3, none⟩ (.int .u64 lef) = w17 at *
    have HC17 := Lib.hid hC17
    have HA17 := Lib.hid bA17
    have HG17 := Lib.hid bg17
    clear hC17 bA17 bg17 hxx hx16
    have t1 : w17.cell? ⟨t, 1, none⟩ = some (.int .u64 clock) := HC17.out.tab.blk.cell 1
    have g0 : w17.cell? ⟨g, 0, none⟩ = some (.int .u8 xk) := HG17.out.cell 0
    have g1 : w17.cell? ⟨g, 1, none⟩ = some (.int .u64 na) := HG17.out.cell 1
    have g2 : w17.cell? ⟨g, 2, none⟩ = some (.int .u64 nb) := HG17.out.cell 2
    go_upto_region 25 with fail
    go_region_held3 (fun w' => w'.cell? ⟨g, 0, none⟩ = some (.int .u8 xk) ∧ w'.cell? ⟨g, 1, none⟩ = some (.int .u64 na) ∧ w'.cell? ⟨g, 2, none⟩ = some (.int .u64 nb) ∧ w'.cell? ⟨t, 1, none⟩ = some (.int .u64 clock) ∧ ExtB A w17 w')
      (((try go_split_ands); refine ⟨?_, ?_, ?_, ?_, ?_⟩ <;> first | with_reducible assumption | ((repeat (first | with_reducible exact ExtB.refl _ _ | with_reducible assumption | with_reducible refine ExtB.alloc ?_ _ | with_reducible refine ExtB.drew ?_ | with_reducible refine ExtB.setCell ?_ _ _ | with_reducible refine ExtB.trans ?_ (by with_reducible assumption) | with_reducible refine ExtB.trans ?_ (Ext.toB (by with_reducible assumption) _))); done) | (refine ExtB.keep (b := A) (w := w17) (by repeat (first | with_reducible exact ExtB.refl _ _ | with_reducible assumption | with_reducible refine ExtB.alloc ?_ _ | with_reducible refine ExtB.drew ?_ | with_reducible refine ExtB.setCell ?_ _ _ | with_reducible refine ExtB.trans ?_ (by with_reducible assumption) | with_reducible refine ExtB.trans ?_ (Ext.toB (by with_reducible assumption) _))) ?_ ?_ <;> first | with_reducible assumption | (dsimp only; omega))))
      (first
        | (go_at_call 110; (with_reducible refine (kernel_Fill xk na nb clock cap _ na0 na1 nb0 nb1 hn0 hn1 hc0 (by omega)).mono ?_); rw [HGI.out]; rintro x w18 ⟨rfl, hx18⟩; have hfs := (HA17.out.ext (Ext.trans ((Ext.refl _).drew) hx18)).free; have hcs := (HA17.out.ext (Ext.trans ((Ext.refl _).drew) hx18)).cell)
        | (go_at_call 107; (with_reducible refine (num_Ceil Gi 1000000000 _ hG0 hG1 (by omega) (by omega)).mono ?_); rw [HRE.out]; rintro x w19 ⟨rfl, rfl⟩))
    have hxx : Ext w17 w18 := Ext.trans ((Ext.refl _).drew) hx18
    have hC19 := (HC17.out.up hxx).store hbs htb hmb hbl6 4 (.int .u64 res)
    have bA19 : Blk _ A #[.int .u8 (code), .int .u16 0, .int .u64 b, .int .u64 (lef), .int .u64 (res), .int .u64 aft, .int .u64 nan, .bool ret, .int .i64 0, .slice none 0 0] 66 := (HA17.out.ext hxx).set 4 (.int .u64 res)
    clear hfs hcs g0 g1 g2 t1 HC17 HA17 HG17
    generalize w18.setCell ⟨A, 4, none⟩ (.int .u64 res) = w19 at *
    have HC19 := Lib.hid hC19
    have hcA := bA19.cell
    clear hC19 bA19 hxx hx18
    have hcz := HC19.out.res.cell
    have hfz := HC19.out.res.free
    simp only [ansC] at hcz
    go_wp2
    have hS := Blk.set10 HC19.out.res (.int .u8 code) (.int .u16 0) (.int .u64 b) (.int .u64 lef) (.int .u64 res) (.int .u64 aft) (.int .u64 nan) (.bool ret) (.int .i64 0) (.slice none 0 0)
    have hnf : ¬ chFull most clock l k e b = true := by
      unfold chFull full; rw [HI.out, HL.out, HL2.out, HG.out]; decide
    have hrm : chRoom most clock l k e b = l2 := by
      unfold chRoom; rw [HI.out, HL.out, HL2.out]
    have hec : e * b = cap := by rw [← HCAP.out]; unfold ruleCap; rw [if_pos HR.out]
    have hk3 : chK (slotHit l k e b clock) rk = xk ∧ chA (slotHit l k e b clock) rk clock (e * b) = xa ∧ chB (slotHit l k e b clock) rk clock = xb := by
      have q1 := HXK.out
      have q2 := HXA.out
      have q3 := HXB.out
      have q4 := HI.out
      cases hh : slotHit l k e b clock with
      | none =>
        rw [hh] at q4
        have q5 : is = false := q4.symm
        rw [q5] at q1 q2 q3
        rw [hec]
        exact ⟨q1, q2, q3⟩
      | some s =>
        rw [hh] at q4
        have q5 : is = true := q4.symm
        rw [q5] at q1 q2 q3
        have q6 := HS.out s hh
        rw [← q6]
        exact ⟨q1, q2, q3⟩
    obtain ⟨ek, ea, eb⟩ := hk3
    have hgo : chgOk clock (slotHit l k e b clock) e b rk n = ok := by unfold chgOk; rw [ek, ea, eb, hec, HM.out]; exact HOK.out
    have hgs : chgS clock (slotHit l k e b clock) k p e b rk n = ⟨k, p, e, b, rk, xk, na, nb⟩ := by unfold chgS chSlot; rw [ek, ea, eb, hec, HM.out, HNA.out, HNB.out]
    have hgv : chgV clock (slotHit l k e b clock) e b rk n = ansV code 0 b lef res aft nan ret := by
      unfold chgV chAns; rw [ek, ea, eb, hec, HM.out, HNA.out, HNB.out, HOK.out, HF.out, HGI.out, HLE.out, HRE.out, HNN.out, HAFT.out, HRT.out, HCD.out]
    have hcl : chargeL most clock l c k p e b rk n = l3 := by unfold chargeL; rw [if_neg hnf, hgo, hgs, hrm]; exact HL3.out
    have hcc : chargeC most clock l c k p e b rk n = c3 := by unfold chargeC; rw [if_neg hnf, hgo, hgs, hrm]; exact HC3'.out
    refine ret_cell Tryz.results54 rfl hS Tryz.underlying66 rfl (by kernel_rfl) ⟨?_, ?_, ?_, ?_⟩
    · unfold chargeV; rw [if_neg hnf, hgv]; rfl
    · rw [hcl, hcc]
      have n1 : t ≠ w.heap.size + 1 := by omega
      have n2 : mb ≠ w.heap.size + 1 := by omega
      exact ⟨HC19.out.tab.blk.oth10 n1 _ _ _ _ _ _ _ _ _ _, HC19.out.tab.map.oth10 n2 _ _ _ _ _ _ _ _ _ _⟩
    · rw [hcl, hcc]; exact HC19.out.ok
    · have n3 : w.heap.size ≤ w.heap.size + 1 := by omega
      exact HC19.out.ext.new10 n3 _ _ _ _ _ _ _ _ _ _
end Go.Proofs.YtknlojlcahgnoaaGreat
