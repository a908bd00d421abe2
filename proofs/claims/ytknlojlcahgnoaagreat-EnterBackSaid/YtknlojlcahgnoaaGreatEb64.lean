/- What a deed by a policy does, in one form; two tables of which what is active looks alike. Walk: tollerlaw17.EnterLate. -/
import Derived.KernelRfl
import Derived.Laws.AppendOwnNone
import Derived.Deep.CutBlock
import Derived.BigQuiet
import Derived.Test.YtknlojlcahgnoaaGreatEb63
import Derived.Test.YtknlojlcahgnoaaGreatEb42
import Derived.Test.YtknlojlcahgnoaaGreatEb60
import Derived.Test.YtknlojlcahgnoaaGreatEb57
import Derived.Test.YtknlojlcahgnoaaGreatEb45
import Derived.Test.YtknlojlcahgnoaaGreatEb49
import Derived.Test.YtknlojlcahgnoaaGreatEb43
import Derived.Test.YtknlojlcahgnoaaGreatEb7

namespace Go.Proofs.YtknlojlcahgnoaaGreat
open Go.RowKit
set_option linter.unusedVariables false
set_option linter.unusedSimpArgs false

def dV (most clock : Int) (l : SMap) (rs : List Rl) (d : Deed) : Value := if d.kind % 8 = 0 then ansZ else cgV most clock l (deedName d) (bestD rs (deedName d)).p (bestD rs (deedName d)).e (bestD rs (deedName d)).b (bestD rs (deedName d)).k (d.n % 6)
def dK (clock : Int) (d : Deed) : Int := if d.kind % 8 = 0 then clock + shrOf d.wait d.big else clock
def dL (most clock : Int) (l : SMap) (c : Nat) (rs : List Rl) (d : Deed) : SMap := if d.kind % 8 = 0 then l else cgL most clock l c (deedName d) (bestD rs (deedName d)).p (bestD rs (deedName d)).e (bestD rs (deedName d)).b (bestD rs (deedName d)).k (d.n % 6)
def dC (most clock : Int) (l : SMap) (c : Nat) (rs : List Rl) (d : Deed) : Nat := if d.kind % 8 = 0 then c else cgC most clock l c (deedName d) (bestD rs (deedName d)).p (bestD rs (deedName d)).e (bestD rs (deedName d)).b (bestD rs (deedName d)).k (d.n % 6)
theorem deed_do (t m c : Nat) (most clock : Int) (l : SMap) (pm : Int) (rv : Value) (rs : List Rl) (d : Deed) (w : World) (ht : TabAt w t m most clock l c) (hok : TabOk l c) (hn0 : 0 ≤ clock) (hn1 : clock < 4611686018427387904)
    (hr : RulesAt w rv rs) (hro : ∀ r ∈ rs, RlOk r) (hh : ∃ r0 r1, rs = r0 :: r1 ∧ r0.p = ⟨#[]⟩) (hlen : rs.length ≤ 1000) (hd : DeedOk w d) :
    Calls Tryz.prog 27 #[.pointer (some ⟨t, 0, none⟩), .agg #[.int .i64 pm, rv], .agg #[.int .u8 d.kind, .int .u32 d.wait, .int .u8 d.big, d.keyv, .int .u8 d.rule, .int .u16 d.n, .int .u8 d.to]] w fun x w' =>
      x = .returned (dV most clock l rs d) ∧ TabAt w' t m most (dK clock d) (dL most clock l c rs d) (dC most clock l c rs d) ∧ TabOk (dL most clock l c rs d) (dC most clock l c rs d) ∧ Ext2 t m w w' := by
  refine (law17_deed t m c most clock l pm rv rs d w ht hok hn0 hn1 hr hro hh hlen hd).mono ?_
  rintro x w' ⟨e, ⟨h1, h2, h3⟩ | ⟨h1, h2, h3, h4⟩⟩
  · unfold dV dK dL dC
    rw [if_pos h1, if_pos h1, if_pos h1, if_pos h1]
    exact ⟨h2, h3, hok, e⟩
  · unfold dV dK dL dC
    rw [if_neg h1, if_neg h1, if_neg h1, if_neg h1]
    exact ⟨h2, h3, h4, e⟩
theorem dV_form (most clock : Int) (l : SMap) (rs : List Rl) (d : Deed) : ∃ (code err lim left reset aft nan : Int) (ret : Bool), dV most clock l rs d = .agg #[.int .u8 code, .int .u16 err, .int .u64 lim, .int .u64 left, .int .u64 reset, .int .u64 aft, .int .u64 nan, .bool ret, .int .i64 0, .slice none 0 0] := by
  unfold dV
  split
  · exact ⟨0, 0, 0, 0, 0, 0, 0, false, rfl⟩
  · obtain ⟨code, err, lim, left, reset, aft, nan, ret, hV⟩ := cgV_form most clock l (deedName d) (bestD rs (deedName d)).p (bestD rs (deedName d)).e (bestD rs (deedName d)).b (bestD rs (deedName d)).k (d.n % 6)
    exact ⟨code, err, lim, left, reset, aft, nan, ret, hV⟩
theorem dK_b {clock : Int} {d : Deed} {w : World} (hd : DeedOk w d) : clock ≤ dK clock d ∧ dK clock d ≤ clock + 4294967296 := by
  have := shrOf_u d.wait d.big hd.w0
  have := hd.w1
  unfold dK
  split <;> omega
theorem dL_len {n : Nat} {clock : Int} {l : SMap} (c : Nat) (rs : List Rl) (d : Deed) (h : l.length ≤ n) : (dL n clock l c rs d).length ≤ n := by
  unfold dL
  split
  · exact h
  · exact cgL_most c _ _ _ _ _ _ h
theorem ByRs.deed {clock : Int} {rs : List Rl} {l : SMap} {w : World} (h : ByRs clock rs l) (hre : ∀ k, rErr (bestD rs k) = 0) (hn0 : 0 ≤ clock) (hn1 : clock < 4611686018427387904) (most : Int) (c : Nat) {d : Deed} (hd : DeedOk w d) : ByRs (dK clock d) rs (dL most clock l c rs d) := by
  have hk := dK_b (clock := clock) hd
  have h0 := hd.n0
  unfold dL
  unfold dK at *
  split
  · rename_i q
    rw [if_pos q] at hk
    exact h.later hk.1
  · exact h.charge hn0 (by omega) most c _ _ (by omega) rfl (hre _)
theorem AlS.deed {clock most : Int} {rs : List Rl} {l l' : SMap} {c c' : Nat} {w : World} (h : AlS clock l l') (hok : TabOk l c) (hok' : TabOk l' c') (hre : ∀ k, rErr (bestD rs k) = 0) (hn0 : 0 ≤ clock) (hn1 : clock < 4611686018427387904) {d : Deed} (hd : DeedOk w d)
    (h1 : TabOk (dL most clock l c rs d) (dC most clock l c rs d)) (h2 : TabOk (dL most clock l' c' rs d) (dC most clock l' c' rs d)) :
    dV most clock l rs d = dV most clock l' rs d ∧ AlS (dK clock d) (dL most clock l c rs d) (dL most clock l' c' rs d) := by
  have hk := dK_b (clock := clock) hd
  have h0 := hd.n0
  unfold dV dK dL dC at *
  by_cases q : d.kind % 8 = 0
  · simp only [if_pos q] at *
    exact ⟨trivial, h.later hok hok' hn0 hk.1 (by omega)⟩
  · simp only [if_neg q] at *
    have hr := hre (deedName d)
    obtain ⟨-, he, hb, hc, -⟩ := ruleErr_zero hr
    have := capOk_lt hc
    exact h.charge hok hok' hr hn0 (by omega) (by omega) h1 h2
theorem TabAt.ext2 {w w' : World} {t m t' m' c : Nat} {most clock : Int} {l : SMap} (h : TabAt w t m most clock l c) (e : Ext2 t' m' w w') (n1 : t ≠ t') (n2 : t ≠ m') (n3 : m ≠ t') (n4 : m ≠ m') : TabAt w' t m most clock l c :=
  ⟨h.blk.ext2 e n1 n2, (e.block m h.map.lt n3 n4).trans h.map⟩
/-- the best rule of a policy of choices is right -/
theorem best_right {rs : List Rl} {r0 : Rl} {r1 : List Rl} (h : rs = r0 :: r1) (hp : r0.p = ⟨#[]⟩) (he : ∀ r ∈ rs, rErr r = 0) (k : ByteArray) : rErr (bestD rs k) = 0 := by
  unfold bestD
  cases hb : bestR rs k.data.toList with
  | none =>
    have := (bestR_char k.data.toList rs).1 hb r0 (by rw [h]; simp)
    refine absurd ?_ this
    have hk : r0.key = [] := by unfold Rl.key; rw [hp]
    rw [hk]
    exact List.nil_prefix
  | some r => exact he r (firstAt_mem ((bestR_char _ rs).2 r hb).first).1
end Go.Proofs.YtknlojlcahgnoaaGreat

namespace Go.Proofs.YtknlojlcahgnoaaGreat
open Go.RowKit
set_option linter.unusedVariables false
set_option linter.unusedSimpArgs false

theorem ents_row {base : Nat} {w : World} {v : Value} {l : List Ent} (h : EntRow base w v l) : EntsAt w v l := by
  obtain ⟨a, c, hv⟩ := h.size
  refine ⟨a, c, hv, fun hl => ?_⟩
  obtain ⟨b, c', hv', -, -, -⟩ := RowOf.cells (enc := Ent.cells) (k := 2) Ent.size2 h 0 (List.length_pos_iff.2 hl)
  rw [hv] at hv'
  cases hv'
  refine ⟨b, 0, rfl, fun j hj i hi => ?_⟩
  obtain ⟨b', c', hv', -, -, hq⟩ := RowOf.cells (enc := Ent.cells) (k := 2) Ent.size2 h j hj
  rw [hv] at hv'
  cases hv'
  rw [Nat.zero_add]
  exact hq i hi
end Go.Proofs.YtknlojlcahgnoaaGreat
