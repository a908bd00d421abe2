/- Plain laws: a charge of a table that has few keys; all are drained later. Plain laws: tables that differ in the kernels of their slots alone: whoever goes over to whatever kernel, all is told the same. Plain laws: two tables that look alike, whose slots go over to whatever kernel. Walks: a table's Move and MoveAll to no kernel; what they do to a table that looks like another one. -/
import Derived.Test.YtknlojlcahgnoaaG38
import Derived.Test.YtknlojlcahgnoaaG36
import Derived.Test.YtknlojlcahgnoaaG40

/- Plain laws: a charge of a table that has few keys; all are drained later. -/
namespace Go.Proofs.Ytknlojlcahgnoaa
set_option linter.unusedVariables false
set_option linter.unusedSimpArgs false

theorem chRoom_sub {most clock : Int} {l : SMap} {k : ByteArray} {e b : Int} : (∀ x ∈ chRoom most clock l k e b, x ∈ l) ∧ (chRoom most clock l k e b).length ≤ l.length := by
  have h1 : ∀ x ∈ slotLeft l k e b clock, x ∈ l := by
    unfold slotLeft
    split
    · exact fun x hx => hx
    · exact fun x hx => (List.mem_filter.1 hx).1
  have h2 := slotLeft_len l k e b clock
  unfold chRoom roomed
  split
  · exact ⟨fun x hx => h1 x (List.mem_filter.1 hx).1, Nat.le_trans (List.length_filter_le _ _) h2⟩
  · exact ⟨h1, h2⟩
theorem slotHit_mem {l : SMap} {k : ByteArray} {e b clock : Int} {s : Slot} (h : slotHit l k e b clock = some s) : ∃ n, (s, n) ∈ l := look_mem (hit_look h).1
theorem put_mem {l : SMap} {s : Slot} {c : Nat} {x : Slot × Nat} (h : x ∈ l.put s c) : x ∈ l ∨ x.1 = s := by
  unfold SMap.put at h
  split at h
  · obtain ⟨y, hy, rfl⟩ := List.mem_map.1 h
    split
    · exact Or.inr rfl
    · exact Or.inl hy
  · rcases List.mem_append.1 h with h | h
    · exact Or.inl h
    · obtain rfl := List.mem_singleton.1 h; exact Or.inr rfl
/-- where there is room a put does not go beyond it -/
theorem room_put {n c : Nat} {clock : Int} {l : SMap} {k : ByteArray} {e b : Int} {s : Slot} (hl : l.length ≤ n) (hs : s.key = k) (hf : ¬ chFull n clock l k e b = true) : ((chRoom n clock l k e b).put s c).length ≤ n := by
  have hr := (chRoom_sub (most := n) (clock := clock) (l := l) (k := k) (e := e) (b := b)).2
  unfold SMap.put
  split
  · unfold SMap.rep; rw [List.length_map]; omega
  · rename_i hq
    rw [List.length_append]
    simp only [List.length_cons, List.length_nil]
    cases hh : slotHit l k e b clock with
    | some s' =>
      exfalso
      apply hq
      have : chRoom n clock l k e b = l := by unfold chRoom roomed slotLeft; rw [hh]; simp
      rw [this, hs, (hit_look hh).1]
      rfl
    | none =>
      have hf' : ¬ full clock (slotLeft l k e b clock) false n = true := by unfold chFull at hf; rw [hh] at hf; exact hf
      have hrm : chRoom n clock l k e b = roomed clock (slotLeft l k e b clock) false n := by unfold chRoom; rw [hh]; rfl
      rw [hrm]
      unfold full at hf'
      simp at hf'
      omega
theorem chState_sane {l : SMap} {c n : Nat} {clock : Int} (h : MostInv l c n clock) {k p : ByteArray} {e b rk w : Int} (hr : ruleErr p e b rk = 0) (hb : clock + e * b < 18446744073709551616) (hn0 : 0 ≤ clock) (hw : 0 ≤ w) :
    let S := chgS clock (slotHit l k e b clock) k p e b rk w
    Sane S.sk S.sa S.sb clock (S.e * S.b) := by
  obtain ⟨-, he, hbb, -, hrk⟩ := ruleErr_zero hr
  have hc : 0 ≤ e * b := Int.mul_nonneg (by omega) (by omega)
  have hk : rk = 1 ∨ rk = 2 ∨ rk = 3 := by unfold rightKind at hrk; simp at hrk; omega
  have hW := satMul_u w e hw (by omega)
  have hs : Sane (chK (slotHit l k e b clock) rk) (chA (slotHit l k e b clock) rk clock (e * b)) (chB (slotHit l k e b clock) rk clock) clock (e * b) := by
    cases hh : slotHit l k e b clock with
    | none => exact (Sane.of hk hc hn0 hb).1
    | some s =>
      obtain ⟨m, hm⟩ := slotHit_mem hh
      have := (h.all _ hm).2.2
      obtain ⟨-, h1, h2, -⟩ := hit_look hh
      rw [h1, h2] at this
      exact this
  exact (hs.next (W := satMul w e) hc hn0 hW.1 hb).1
/-- a charge keeps it -/
theorem most_charge {l : SMap} {c n : Nat} {clock : Int} (h : MostInv l c n clock) {k p : ByteArray} {e b rk w : Int} (hr : ruleErr p e b rk = 0) (hcap : e * b ≤ 2000) (hb : clock + e * b < 18446744073709551616) (hn0 : 0 ≤ clock) (hw : 0 ≤ w)
    (hok : TabOk (cgL n clock l c k p e b rk w) (cgC n clock l c k p e b rk w)) : MostInv (cgL n clock l c k p e b rk w) (cgC n clock l c k p e b rk w) n clock := by
  have hS := chState_sane h (k := k) (p := p) (w := w) hr hb hn0 hw
  have hkey : (chgS clock (slotHit l k e b clock) k p e b rk w).key = k := rfl
  have hal : ruleErr (chgS clock (slotHit l k e b clock) k p e b rk w).p (chgS clock (slotHit l k e b clock) k p e b rk w).e (chgS clock (slotHit l k e b clock) k p e b rk w).b (chgS clock (slotHit l k e b clock) k p e b rk w).rk = 0 := hr
  have hcp : (chgS clock (slotHit l k e b clock) k p e b rk w).e * (chgS clock (slotHit l k e b clock) k p e b rk w).b ≤ 2000 := hcap
  have hsub := chRoom_sub (most := n) (clock := clock) (l := l) (k := k) (e := e) (b := b)
  have hlen := h.len
  refine ⟨hok, ?_, ?_⟩
  · unfold cgL
    split
    · exact hlen
    · split
      · exact hlen
      · unfold chargeL
        split
        · omega
        · rename_i hnf
          unfold chL
          split
          · exact room_put hlen rfl hnf
          · omega
  · intro x hx
    unfold cgL at hx
    split at hx
    · exact h.all x hx
    · split at hx
      · exact h.all x hx
      · unfold chargeL at hx
        split at hx
        · exact h.all x (hsub.1 x hx)
        · unfold chL at hx
          split at hx
          · rcases put_mem hx with q | q
            · exact h.all x (hsub.1 x q)
            · rw [q]; exact ⟨hr, hcap, chState_sane h hr hb hn0 hw⟩
          · exact h.all x (hsub.1 x hx)
/-- all are drained a millisecond later -/
theorem most_drained {l : SMap} {c n : Nat} {clock : Int} (h : MostInv l c n clock) (hn0 : 0 ≤ clock) (hn1 : clock < 1000000) : slotsOf (clock + 1000000) l = [] := by
  have : actives (clock + 1000000) l = [] := by
    rw [List.eq_nil_iff_forall_not_mem]
    intro s hs
    obtain ⟨⟨m, hm⟩, hd⟩ := actives_iff.1 hs
    obtain ⟨hr, hc, hsn⟩ := h.all _ hm
    obtain ⟨-, he, hbb, -, -⟩ := ruleErr_zero hr
    have hc0 : 0 ≤ s.e * s.b := Int.mul_nonneg (by simp only at he; omega) (by simp only at hbb; omega)
    simp only at hr hc hsn
    have h1 := hsn.fill_later (now := clock + 1000000) hc0 (by omega) hn0 (by omega) (by omega)
    have h2 := hsn.fill_le hc0 hn0
    unfold drained Slot.fill Slot.cap ruleCap at hd
    rw [if_pos hr, h1] at hd
    have h3 : satSub (kFill s.sk s.sa s.sb clock (s.e * s.b)) (clock + 1000000 - clock) = 0 := by unfold satSub; split <;> omega
    rw [h3] at hd
    simp at hd
  rw [← List.length_eq_zero_iff, slotsOf_len, this]
  rfl
/-- what is told of a right key -/
theorem cgV_code {most clock : Int} {l : SMap} {k p : ByteArray} {e b rk w : Int} (hk : keyOk k = true) (hr : ruleErr p e b rk = 0) : ∃ (code err limit left reset aft nan : Int) (ret : Bool), cgV most clock l k p e b rk w = ansV code err limit left reset aft nan ret ∧
    code = if chFull most clock l k e b then 3 else chCode (chgOk clock (slotHit l k e b clock) e b rk w) := by
  unfold cgV
  rw [if_neg (by rw [hk]; decide), if_neg (fun q => q hr)]
  unfold chargeV
  split
  · exact ⟨_, _, _, _, _, _, _, _, rfl, rfl⟩
  · exact ⟨_, _, _, _, _, _, _, _, rfl, rfl⟩
/-- what is told of a key that came or not, by what was asked ahead -/
theorem most_told {l : SMap} {c n : Nat} {clock : Int} (h : MostInv l c n clock) {k p : ByteArray} {e b rk w : Int} (hk : keyOk k = true) (hr : ruleErr p e b rk = 0) : ∃ (code err limit left reset aft nan : Int) (ret : Bool), cgV n clock l k p e b rk w = ansV code err limit left reset aft nan ret ∧
    0 ≤ code ∧ code < 256 ∧ (code == 3) = (!wasIn (slotsOf clock l) k e b && decide ((n : Int) ≤ ((slotsOf clock l).length : Int)) && !holdsK (slotsOf clock l) k) := by
  obtain ⟨code, err, limit, left, reset, aft, nan, ret, hv, hc⟩ := cgV_code (most := n) (clock := clock) (l := l) (w := w) hk hr
  refine ⟨code, err, limit, left, reset, aft, nan, ret, hv, ?_⟩
  rw [← full_iff h k e b]
  cases hf : chFull n clock l k e b with
  | true => rw [hf] at hc; simp at hc; rw [hc]; decide
  | false =>
    rw [hf] at hc
    simp at hc
    unfold chCode at hc
    split at hc <;> rw [hc] <;> decide
/-- once all are drained a new one is admitted -/
theorem most_new {l : SMap} {c n : Nat} {clock : Int} (h : MostInv l c n clock) {k p : ByteArray} {e b rk : Int} (hk : keyOk k = true) (hr : ruleErr p e b rk = 0) (hd : slotsOf clock l = []) (hn : 1 ≤ n) (hn0 : 0 ≤ clock) (hb : clock + e * b < 18446744073709551616) :
    ∃ (err limit left reset aft nan : Int) (ret : Bool), cgV n clock l k p e b rk 1 = ansV 1 err limit left reset aft nan ret := by
  obtain ⟨-, he, hbb, -, hrk⟩ := ruleErr_zero hr
  have hc : e ≤ e * b := by
    have := Int.mul_le_mul_of_nonneg_left (show (1 : Int) ≤ b by omega) (show 0 ≤ e by omega)
    omega
  have hkk : rk = 1 ∨ rk = 2 ∨ rk = 3 := by unfold rightKind at hrk; simp at hrk; omega
  have hnh : slotHit l k e b clock = none := by
    cases hh : slotHit l k e b clock with
    | none => rfl
    | some s =>
      obtain ⟨m, hm⟩ := slotHit_mem hh
      have := slotsOf_mem.2 (actives_iff.2 ⟨⟨m, hm⟩, (hit_look hh).2.2.2⟩)
      rw [hd] at this
      cases this
  obtain ⟨code, err, limit, left, reset, aft, nan, ret, hv, hcd⟩ := cgV_code (most := n) (clock := clock) (l := l) (w := 1) hk hr
  have hnf : chFull n clock l k e b = false := by
    rw [full_iff h, hd]
    simp
    omega
  have hw1 : satMul 1 e = e := by unfold satMul; split <;> omega
  have hof := Sane.of hkk (cap := e * b) (by omega) hn0 hb
  have hgo : chgOk clock (slotHit l k e b clock) e b rk 1 = true := by
    rw [hnh]
    unfold chgOk
    rw [hw1]
    show kOk rk (kOfA rk clock (e * b) 0) (kOfB rk clock) clock (e * b) e = true
    rw [hof.1.ok (by omega) hn0 (by omega), hof.2]
    simp
    omega
  rw [hnf, hgo] at hcd
  simp [chCode] at hcd
  subst hcd
  exact ⟨err, limit, left, reset, aft, nan, ret, hv⟩
theorem rule_low {j : Int} (h : j = 0 ∨ j = 1) : ruleErr (rP j) (rE j) (rB j) (rK j) = 0 ∧ rE j * rB j ≤ 2000 := by
  rcases h with rfl | rfl <;> decide
theorem most_any {l : SMap} {c n : Nat} {clock : Int} (h : MostInv l c n clock) {k p : ByteArray} {e b rk w : Int} (hk : k = ⟨#[]⟩ ∨ keyOk k = true) (hr : ruleErr p e b rk = 0) : ∃ (code err limit left reset aft nan : Int) (ret : Bool), cgV n clock l k p e b rk w = .agg #[.int .u8 code, .int .u16 err, .int .u64 limit, .int .u64 left, .int .u64 reset, .int .u64 aft, .int .u64 nan, .bool ret, .int .i64 0, .slice none 0 0] ∧
    0 ≤ code ∧ code < 256 ∧ (k = ⟨#[]⟩ ∨ k ≠ ⟨#[]⟩ ∧ (code == 3) = (!wasIn (slotsOf clock l) k e b && decide ((n : Int) ≤ ((slotsOf clock l).length : Int)) && !holdsK (slotsOf clock l) k)) := by
  rcases hk with rfl | hk
  · unfold cgV
    rw [if_pos (by decide)]
    exact ⟨5, 12, 0, 0, 0, 0, 0, false, rfl, by decide, by decide, Or.inl rfl⟩
  · obtain ⟨code, err, limit, left, reset, aft, nan, ret, hv, h0, h1, h2⟩ := most_told h (w := w) hk hr
    exact ⟨code, err, limit, left, reset, aft, nan, ret, hv, h0, h1, Or.inr ⟨fun q => by rw [q] at hk; revert hk; decide, h2⟩⟩
end Go.Proofs.Ytknlojlcahgnoaa

/- Plain laws: tables that differ in the kernels of their slots alone: whoever goes over to whatever kernel, all is told the same. -/
namespace Go.Proofs.Ytknlojlcahgnoaa
set_option linter.unusedVariables false
set_option linter.unusedSimpArgs false

/-- what is seen of a slot -/
abbrev Sig := ByteArray × Int × Int × Int
def sg (clock : Int) (s : Slot) : Sig := (s.key, s.e, s.b, kFill s.sk s.sa s.sb clock (s.e * s.b))
def sgs (clock : Int) (l : SMap) : List Sig := l.map fun x => sg clock x.1
/-- a slot that came of a right rule -/
structure Good (clock : Int) (s : Slot) : Prop where
  rule : ruleErr s.p s.e s.b s.rk = 0
  sane : Sane s.sk s.sa s.sb clock (s.e * s.b)
theorem Good.cap {clock : Int} {s : Slot} (h : Good clock s) : s.cap = s.e * s.b ∧ 0 ≤ s.e * s.b ∧ s.e * s.b ≤ 4611686018427387904 := by
  obtain ⟨-, he, hb, hc, -⟩ := ruleErr_zero h.rule
  refine ⟨by unfold Slot.cap ruleCap; rw [if_pos h.rule], Int.mul_nonneg (by omega) (by omega), capOk_lt hc⟩
theorem Good.fill {clock : Int} {s : Slot} (h : Good clock s) : s.fill clock = (sg clock s).2.2.2 := by
  unfold Slot.fill sg; rw [h.cap.1]
theorem Good.drained {clock : Int} {s : Slot} (h : Good clock s) : drained clock s = ((sg clock s).2.2.2 == 0) := by
  unfold Go.Proofs.Ytknlojlcahgnoaa.drained; rw [h.fill]
theorem Good.later {clock now : Int} {s : Slot} (h : Good clock s) (hn : clock ≤ now) : Good now s := ⟨h.rule, h.sane.later hn⟩
def sgLater (d : Int) (y : Sig) : Sig := (y.1, y.2.1, y.2.2.1, satSub y.2.2.2 d)
theorem Good.sgl {clock now : Int} {s : Slot} (h : Good clock s) (hn0 : 0 ≤ clock) (hn : clock ≤ now) (hn1 : now < 18446744073709551616) : sg now s = sgLater (now - clock) (sg clock s) := by
  unfold sg sgLater
  rw [h.sane.fill_later h.cap.2.1 h.cap.2.2 hn0 hn hn1]
def Goods (clock : Int) (l : SMap) : Prop := ∀ x ∈ l, Good clock x.1
theorem Goods.later {clock now : Int} {l : SMap} (h : Goods clock l) (hn : clock ≤ now) : Goods now l := fun x hx => (h x hx).later hn
theorem Goods.sgs {clock now : Int} {l : SMap} (h : Goods clock l) (hn0 : 0 ≤ clock) (hn : clock ≤ now) (hn1 : now < 18446744073709551616) : sgs now l = (sgs clock l).map (sgLater (now - clock)) := by
  unfold Go.Proofs.Ytknlojlcahgnoaa.sgs
  rw [List.map_map]
  exact List.map_congr_left fun x hx => (h x hx).sgl hn0 hn hn1

theorem look_sg (clock : Int) (l : SMap) (k : ByteArray) : (l.look k).map (sg clock) = (sgs clock l).find? fun y => decide (y.1 = k) := by
  unfold SMap.look sgs
  rw [List.find?_map, Option.map_map]
  rfl
theorem del_sg (clock : Int) (l : SMap) (k : ByteArray) : sgs clock (l.del k) = (sgs clock l).filter fun y => decide (y.1 ≠ k) := by
  unfold SMap.del sgs
  rw [List.filter_map]
  rfl
theorem rep_sg (clock : Int) (l : SMap) (s : Slot) : sgs clock (l.rep s) = (sgs clock l).map fun y => if y.1 = s.key then sg clock s else y := by
  unfold SMap.rep sgs
  rw [List.map_map, List.map_map]
  refine List.map_congr_left fun x _ => ?_
  show sg clock (if x.1.key = s.key then (s, x.2) else x).1 = if x.1.key = s.key then sg clock s else sg clock x.1
  split <;> rfl
theorem put_sg (clock : Int) (l : SMap) (s : Slot) (c : Nat) : sgs clock (l.put s c) =
    if ((sgs clock l).find? fun y => decide (y.1 = s.key)).isSome then (sgs clock l).map fun y => if y.1 = s.key then sg clock s else y else sgs clock l ++ [sg clock s] := by
  rw [← look_sg]
  unfold SMap.put
  rw [Option.isSome_map]
  split
  · rw [rep_sg]
  · unfold sgs; rw [List.map_append]; rfl
theorem swept_sg {clock : Int} {l : SMap} (h : Goods clock l) : sgs clock (l.filter fun x => !drained clock x.1) = (sgs clock l).filter fun y => !(y.2.2.2 == 0) := by
  unfold sgs
  rw [List.filter_map]
  congr 1
  refine List.filter_congr fun x hx => ?_
  rw [(h x hx).drained]
  rfl
theorem sgs_len (clock : Int) (l : SMap) : (sgs clock l).length = l.length := by unfold sgs; rw [List.length_map]

/-- two tables that look alike -/
structure Al (clock : Int) (l l' : SMap) : Prop where
  sig : sgs clock l = sgs clock l'
  a : Goods clock l
  b : Goods clock l'
theorem Al.nil (clock : Int) : Al clock [] [] := ⟨rfl, fun x h => (by cases h), fun x h => (by cases h)⟩
theorem Al.later {clock now : Int} {l l' : SMap} (h : Al clock l l') (hn0 : 0 ≤ clock) (hn : clock ≤ now) (hn1 : now < 18446744073709551616) : Al now l l' :=
  ⟨by rw [h.a.sgs hn0 hn hn1, h.b.sgs hn0 hn hn1, h.sig], h.a.later hn, h.b.later hn⟩
theorem Al.len {clock : Int} {l l' : SMap} (h : Al clock l l') : l.length = l'.length := by rw [← sgs_len clock l, h.sig, sgs_len]

/-- of a slot that is hit -/
theorem hit_sg {clock : Int} {l : SMap} (h : Goods clock l) (k : ByteArray) (e b : Int) : (slotHit l k e b clock).map (sg clock) = ((sgs clock l).find? fun y => decide (y.1 = k)).filter fun y => y.2.1 == e && y.2.2.1 == b && !(y.2.2.2 == 0) := by
  rw [← look_sg]
  unfold slotHit
  cases hl : l.look k with
  | none => rfl
  | some s =>
    obtain ⟨n, hn⟩ := look_mem hl
    have hg := h _ hn
    have e1 : (s.e == e && s.b == b && !(s.fill clock == 0)) = ((sg clock s).2.1 == e && (sg clock s).2.2.1 == b && !((sg clock s).2.2.2 == 0)) := by
      rw [hg.fill]; rfl
    show Option.map (sg clock) (if (s.e == e && s.b == b && !(s.fill clock == 0)) = true then some s else none) = if ((sg clock s).2.1 == e && (sg clock s).2.2.1 == b && !((sg clock s).2.2.2 == 0)) = true then some (sg clock s) else none
    by_cases q : (s.e == e && s.b == b && !(s.fill clock == 0)) = true
    · rw [if_pos q, if_pos (e1.symm.trans q)]; rfl
    · rw [if_neg q, if_neg (fun r => q (e1.trans r))]; rfl
theorem Al.hit {clock : Int} {l l' : SMap} (h : Al clock l l') (k : ByteArray) (e b : Int) : (slotHit l k e b clock).map (sg clock) = (slotHit l' k e b clock).map (sg clock) := by
  rw [hit_sg h.a, hit_sg h.b, h.sig]
theorem Al.some {clock : Int} {l l' : SMap} (h : Al clock l l') (k : ByteArray) (e b : Int) : (slotHit l k e b clock).isSome = (slotHit l' k e b clock).isSome := by
  have := congrArg Option.isSome (h.hit k e b)
  rwa [Option.isSome_map, Option.isSome_map] at this
theorem Goods.sub {clock : Int} {l m : SMap} (h : Goods clock l) (hs : ∀ x ∈ m, x ∈ l) : Goods clock m := fun x hx => h x (hs x hx)
theorem slotLeft_sub (l : SMap) (k : ByteArray) (e b clock : Int) : ∀ x ∈ slotLeft l k e b clock, x ∈ l := by
  unfold slotLeft
  split
  · exact fun x hx => hx
  · exact fun x hx => (List.mem_filter.1 hx).1
theorem Al.left {clock : Int} {l l' : SMap} (h : Al clock l l') (k : ByteArray) (e b : Int) : Al clock (slotLeft l k e b clock) (slotLeft l' k e b clock) := by
  refine ⟨?_, h.a.sub (slotLeft_sub l k e b clock), h.b.sub (slotLeft_sub l' k e b clock)⟩
  unfold slotLeft
  rw [h.some k e b]
  split
  · exact h.sig
  · rw [del_sg, del_sg, h.sig]
theorem Al.roomed {clock : Int} {l l' : SMap} (h : Al clock l l') (is : Bool) (most : Int) : Al clock (roomed clock l is most) (roomed clock l' is most) := by
  unfold Go.Proofs.Ytknlojlcahgnoaa.roomed
  rw [h.len]
  split
  · exact ⟨by rw [swept_sg h.a, swept_sg h.b, h.sig], h.a.sub fun x hx => (List.mem_filter.1 hx).1, h.b.sub fun x hx => (List.mem_filter.1 hx).1⟩
  · exact h
theorem Al.room {clock : Int} {l l' : SMap} (h : Al clock l l') (most : Int) (k : ByteArray) (e b : Int) : Al clock (chRoom most clock l k e b) (chRoom most clock l' k e b) := by
  unfold chRoom
  rw [h.some k e b]
  exact (h.left k e b).roomed _ _
theorem Al.full {clock : Int} {l l' : SMap} (h : Al clock l l') (most : Int) (k : ByteArray) (e b : Int) : chFull most clock l k e b = chFull most clock l' k e b := by
  unfold chFull Go.Proofs.Ytknlojlcahgnoaa.full
  rw [h.some k e b, ((h.left k e b).roomed _ _).len]
theorem Al.put {clock : Int} {l l' : SMap} (h : Al clock l l') {s s' : Slot} (hs : sg clock s = sg clock s') (g : Good clock s) (g' : Good clock s') (c c' : Nat) : Al clock (l.put s c) (l'.put s' c') := by
  have hk : s.key = s'.key := congrArg (·.1) hs
  refine ⟨by rw [put_sg, put_sg, h.sig, hs, hk], fun x hx => ?_, fun x hx => ?_⟩
  · rcases put_mem hx with q | q
    · exact h.a x q
    · rw [q]; exact g
  · rcases put_mem hx with q | q
    · exact h.b x q
    · rw [q]; exact g'

/-- what is told of a state, by how full it is -/
def ansF (f cap W burst e : Int) : Value :=
  ansV (chCode (decide (f + W ≤ cap))) 0 burst (divS (satSub cap (if f + W ≤ cap then f + W else f)) e) (ceilS (if f + W ≤ cap then f + W else f) 1000000000) (ceilS (kWait f cap W) 1000000000) (kWait f cap W) (kRetry f cap W)
theorem ans_of {k a x clock cap W burst e : Int} (h : Sane k a x clock cap) (hc : 0 ≤ cap) (hn0 : 0 ≤ clock) (hW : 0 ≤ W) (hb : clock + cap < 18446744073709551616) : chAns k a x clock cap W burst e = ansF (kFill k a x clock cap) cap W burst e := by
  unfold chAns ansF
  rw [(h.next hc hn0 hW hb).2, h.ok hc hn0 hW]
  simp only [decide_eq_true_eq]
/-- how full a key is that is charged -/
def hitF (clock : Int) (h : Option Slot) : Int := match h with | some s => (sg clock s).2.2.2 | none => 0
theorem hit_sane {clock : Int} {l : SMap} (h : Goods clock l) {k p : ByteArray} {e b rk : Int} (hr : ruleErr p e b rk = 0) (hn0 : 0 ≤ clock) (hb : clock + e * b < 18446744073709551616) :
    let H := slotHit l k e b clock
    Sane (chK H rk) (chA H rk clock (e * b)) (chB H rk clock) clock (e * b) ∧ kFill (chK H rk) (chA H rk clock (e * b)) (chB H rk clock) clock (e * b) = hitF clock H := by
  obtain ⟨-, he, hbb, -, hrk⟩ := ruleErr_zero hr
  have hc : 0 ≤ e * b := Int.mul_nonneg (by omega) (by omega)
  have hk : rk = 1 ∨ rk = 2 ∨ rk = 3 := by unfold rightKind at hrk; simp at hrk; omega
  cases hh : slotHit l k e b clock with
  | none => exact Sane.of hk hc hn0 hb
  | some s =>
    obtain ⟨m, hm⟩ := slotHit_mem hh
    obtain ⟨-, h1, h2, -⟩ := hit_look hh
    have hs := (h _ hm).sane
    rw [h1, h2] at hs
    exact ⟨hs, by show _ = kFill s.sk s.sa s.sb clock (s.e * s.b); rw [h1, h2]; rfl⟩
theorem hitF_of {clock : Int} {x y : Option Slot} (h : x.map (sg clock) = y.map (sg clock)) : hitF clock x = hitF clock y := by
  cases x with
  | none =>
    cases y with
    | none => rfl
    | some _ => cases h
  | some s =>
    cases y with
    | none => cases h
    | some s' =>
      have : sg clock s = sg clock s' := by simpa using h
      show (sg clock s).2.2.2 = (sg clock s').2.2.2
      rw [this]
/-- a charge of two tables that look alike, by rules that differ in their kernel -/
theorem Al.charge {clock most : Int} {l l' : SMap} (h : Al clock l l') (c c' : Nat) {k p : ByteArray} {e b rk rk' n : Int} (hr : ruleErr p e b rk = 0) (hr' : ruleErr p e b rk' = 0) (hn0 : 0 ≤ clock) (hb : clock + e * b < 18446744073709551616) (hn : 0 ≤ n) :
    cgV most clock l k p e b rk n = cgV most clock l' k p e b rk' n ∧ Al clock (cgL most clock l c k p e b rk n) (cgL most clock l' c' k p e b rk' n) := by
  obtain ⟨-, he, hbb, -, -⟩ := ruleErr_zero hr
  have hc : 0 ≤ e * b := Int.mul_nonneg (by omega) (by omega)
  have hW := satMul_u n e hn (by omega)
  obtain ⟨hs, hf⟩ := hit_sane h.a (k := k) hr hn0 hb
  obtain ⟨hs', hf'⟩ := hit_sane h.b (k := k) hr' hn0 hb
  have hF := hitF_of (h.hit k e b)
  have hok : chgOk clock (slotHit l k e b clock) e b rk n = chgOk clock (slotHit l' k e b clock) e b rk' n := by
    unfold chgOk
    rw [hs.ok hc hn0 hW.1, hs'.ok hc hn0 hW.1, hf, hf', hF]
  unfold cgV cgL
  by_cases hk : keyOk k = false
  · rw [if_pos hk, if_pos hk, if_pos hk, if_pos hk]; exact ⟨rfl, h⟩
  · rw [if_neg hk, if_neg hk, if_neg hk, if_neg hk, if_neg (not_not_intro hr), if_neg (not_not_intro hr'), if_neg (not_not_intro hr), if_neg (not_not_intro hr')]
    unfold chargeV chargeL
    rw [h.full most k e b, hok]
    split
    · exact ⟨rfl, h.room most k e b⟩
    · constructor
      · unfold chgV
        rw [ans_of hs hc hn0 hW.1 hb, ans_of hs' hc hn0 hW.1 hb, hf, hf', hF]
      · unfold chL
        split
        · have hn1 := hs.next (W := satMul n e) hc hn0 hW.1 hb
          have hn2 := hs'.next (W := satMul n e) hc hn0 hW.1 hb
          have hok' : kOk (chK (slotHit l k e b clock) rk) (chA (slotHit l k e b clock) rk clock (e * b)) (chB (slotHit l k e b clock) rk clock) clock (e * b) (satMul n e) = kOk (chK (slotHit l' k e b clock) rk') (chA (slotHit l' k e b clock) rk' clock (e * b)) (chB (slotHit l' k e b clock) rk' clock) clock (e * b) (satMul n e) := hok
          refine (h.room most k e b).put ?_ ⟨hr, hn1.1⟩ ⟨hr', hn2.1⟩ c c'
          have e12 := (hn1.2.trans (by rw [hf, hF, hok', ← hf'])).trans hn2.2.symm
          exact congrArg (fun f : Int => ((k, e, b, f) : Sig)) e12
        · exact h.room most k e b

/-- a slot that goes over is as full as it was -/
theorem Sane.ofF {k clock cap F : Int} (hk : k = 1 ∨ k = 2 ∨ k = 3) (hF0 : 0 ≤ F) (hF : F ≤ cap) (hn0 : 0 ≤ clock) (hb : clock + cap < 18446744073709551616) : Sane k (kOfA k clock cap F) (kOfB k clock) clock cap ∧ kFill k (kOfA k clock cap F) (kOfB k clock) clock cap = F := by
  unfold Sane kFill kOfA kOfB satSub satAdd
  rcases hk with rfl | rfl | rfl
  · simp only [if_true]
    refine ⟨⟨?_, ?_, Or.inl ⟨trivial, ?_⟩⟩, ?_⟩ <;> repeat' split
    all_goals omega
  · simp only [show ¬ ((2 : Int) = 1) by decide, if_false, if_true]
    refine ⟨⟨?_, ?_, Or.inr ⟨Or.inl trivial, ?_, ?_⟩⟩, ?_⟩ <;> repeat' split
    all_goals omega
  · simp only [show ¬ ((3 : Int) = 1) by decide, show ¬ ((3 : Int) = 2) by decide, if_false, if_true]
    refine ⟨⟨?_, ?_, Or.inr ⟨Or.inr trivial, ?_, ?_⟩⟩, ?_⟩ <;> repeat' split
    all_goals omega
theorem moved_sg {clock kind : Int} {s : Slot} (g : Good clock s) (hk : rightKind kind = true) (hn0 : 0 ≤ clock) (hn1 : clock < 9223372036854775808) : sg clock (movedS clock s kind) = sg clock s ∧ Good clock (movedS clock s kind) := by
  obtain ⟨c1, c2, c3⟩ := g.cap
  have hf := g.sane.fill_le c2 hn0
  have hfe : s.fill clock = kFill s.sk s.sa s.sb clock (s.e * s.b) := g.fill
  have hkk : kind = 1 ∨ kind = 2 ∨ kind = 3 := by unfold rightKind at hk; simp at hk; omega
  have := Sane.ofF (clock := clock) hkk hf.1 hf.2 hn0 (by omega)
  refine ⟨?_, g.rule, ?_⟩
  · unfold sg movedS
    simp only
    rw [c1, hfe, this.2]
  · show Sane kind (kOfA kind clock s.cap (s.fill clock)) (kOfB kind clock) clock (s.e * s.b)
    rw [c1, hfe]
    exact this.1
theorem put_same {clock : Int} {l : SMap} (hk : l.keys.Nodup) {s : Slot} (hm : sg clock s ∈ sgs clock l) (c : Nat) : sgs clock (l.put s c) = sgs clock l := by
  obtain ⟨⟨y, m⟩, hy, hys⟩ := List.mem_map.1 hm
  have hyk : y.key = s.key := congrArg (·.1) hys
  have hl : (l.look s.key).isSome = true := by rw [← hyk, mem_look hk hy]; rfl
  unfold SMap.put
  rw [if_pos hl, rep_sg]
  unfold sgs
  rw [List.map_map]
  refine List.map_congr_left fun x hx => ?_
  show (if x.1.key = s.key then sg clock s else sg clock x.1) = sg clock x.1
  split
  · rename_i h
    have := key_eq hk (show (x.1, x.2) ∈ l from hx) hy (h.trans hyk.symm)
    have e1 : x.1 = y := congrArg (·.1) this
    rw [e1]
    exact hys.symm
  · rfl
theorem Al.moved {clock kind : Int} {l l' : SMap} (h : Al clock l l') (hk : l.keys.Nodup) {s : Slot} (hm : sg clock s ∈ sgs clock l) (g : Good clock s) (hq : rightKind kind = true) (hn0 : 0 ≤ clock) (hn1 : clock < 9223372036854775808) (c : Nat) : Al clock (l.put (movedS clock s kind) c) l' := by
  have hmv := moved_sg g hq hn0 hn1
  refine ⟨by rw [put_same hk (by rw [hmv.1]; exact hm), h.sig], fun x hx => ?_, h.b⟩
  rcases put_mem hx with q | q
  · exact h.a x q
  · rw [q]; exact hmv.2

/-- what is told of who is active -/
def entSig (clock : Int) (y : Sig) : Ent := ⟨y.1, kUntil y.2.2.2 clock⟩
theorem ents_sg {clock : Int} {l : SMap} (h : Goods clock l) : entsOf clock l = (((sgs clock l).filter fun y => !(y.2.2.2 == 0)).mergeSort fun x y => decide (x.1.toList ≤ y.1.toList)).map (entSig clock) := by
  have h1 : (actives clock l).map (sg clock) = (sgs clock l).filter fun y => !(y.2.2.2 == 0) := by
    rw [← swept_sg h]
    unfold actives sgs
    rw [List.map_map]
    rfl
  rw [← h1]
  have h2 : ((actives clock l).mergeSort fun x y => decide (x.key.toList ≤ y.key.toList)).map (sg clock) = ((actives clock l).map (sg clock)).mergeSort fun x y => decide (x.1.toList ≤ y.1.toList) :=
    List.map_mergeSort fun a _ b _ => rfl
  rw [← h2, List.map_map]
  unfold entsOf slotsOf
  refine List.map_congr_left fun x hx => ?_
  have hm : x ∈ actives clock l := (List.mergeSort_perm _ _).mem_iff.1 hx
  obtain ⟨n, hn⟩ := actives_mem hm
  unfold entOf
  show _ = entSig clock (sg clock x)
  unfold entSig
  rw [(h _ hn).fill]
  rfl
theorem Al.ents {clock : Int} {l l' : SMap} (h : Al clock l l') : entsOf clock l = entsOf clock l' := by rw [ents_sg h.a, ents_sg h.b, h.sig]
end Go.Proofs.Ytknlojlcahgnoaa

/- Plain laws: two tables that look alike, whose slots go over to whatever kernel. -/
namespace Go.Proofs.Ytknlojlcahgnoaa
set_option linter.unusedVariables false
set_option linter.unusedSimpArgs false

theorem cgL_most {n : Nat} {clock : Int} {l : SMap} (c : Nat) (k p : ByteArray) (e b rk w : Int) (hlen : l.length ≤ n) : (cgL n clock l c k p e b rk w).length ≤ n := by
  have hsub := chRoom_sub (most := n) (clock := clock) (l := l) (k := k) (e := e) (b := b)
  unfold cgL
  split
  · exact hlen
  · split
    · exact hlen
    · unfold chargeL
      split
      · omega
      · rename_i hnf
        unfold chL
        split
        · exact room_put hlen rfl hnf
        · omega
theorem moved_ok {clock kind : Int} {s : Slot} (hso : SlotOk s) (hg : Good clock s) (hq : rightKind kind = true) (hn0 : 0 ≤ clock) (hn1 : clock < 9223372036854775808) : SlotOk (movedS clock s kind) := by
  have hkind : 0 ≤ kind ∧ kind < 256 := by unfold rightKind at hq; simp at hq; omega
  have hcap := hg.cap
  have hfl := hg.sane.fill_le hcap.2.1 hn0
  have hfe : s.fill clock = kFill s.sk s.sa s.sb clock (s.e * s.b) := hg.fill
  have hnum := kOf_u kind clock s.cap (s.fill clock) hn0 (by omega) (by rw [hcap.1]; omega) (by rw [hcap.1]; omega) (by rw [hfe]; omega) (by rw [hfe]; omega)
  exact ⟨hso.key, hso.p, hso.e0, hso.e1, hso.b0, hso.b1, hso.rk0, hso.rk1, hkind.1, hkind.2, hnum.1, hnum.2.1, hnum.2.2.1, hnum.2.2.2⟩
theorem Al.movedOne {clock kind : Int} {l l' : SMap} {c : Nat} (h : Al clock l l') (hok : TabOk l c) {s : Slot} (hs : s ∈ actives clock l) (hq : rightKind kind = true) (hn0 : 0 ≤ clock) (hn1 : clock < 9223372036854775808) :
    TabOk (l.put (movedS clock s kind) c) (l.putC (movedS clock s kind) c) ∧ Al clock (l.put (movedS clock s kind) c) l' := by
  obtain ⟨n, hn⟩ := actives_mem hs
  have hg : Good clock s := h.a _ hn
  exact ⟨hok.put (moved_ok (hok.ok _ hn) hg hq hn0 hn1), h.moved hok.keys (List.mem_map.2 ⟨_, hn, rfl⟩) hg hq hn0 hn1 c⟩
theorem ruleErr_kind {p : ByteArray} {e b rk rk' : Int} (h : ruleErr p e b rk = 0) (hk : rightKind rk' = true) : ruleErr p e b rk' = 0 := by
  have hz := ruleErr_zero h
  unfold ruleErr at h ⊢
  rw [hk]
  rw [hz.2.2.2.2] at h
  exact h
/-- slots that go over look as they did -/
theorem Al.movedAll {clock kind : Int} {l l' : SMap} {c : Nat} (h : Al clock l l') (hok : TabOk l c) (hq : rightKind kind = true) (hn0 : 0 ≤ clock) (hn1 : clock < 9223372036854775808) :
    ∀ k, k ≤ (slotsOf clock l).length → TabOk (mvTo clock kind l c k).1 (mvTo clock kind l c k).2 ∧ Al clock (mvTo clock kind l c k).1 l' := by
  intro k
  induction k with
  | zero => intro _; exact ⟨hok, h⟩
  | succ k ih =>
    intro hk
    obtain ⟨i1, i2⟩ := ih (by omega)
    rw [mvTo_succ clock kind l c k (by omega)]
    have hm : (slotsOf clock l)[k] ∈ slotsOf clock l := List.getElem_mem _
    generalize (slotsOf clock l)[k] = s at *
    obtain ⟨n, hn⟩ := actives_mem ((slotsOf_perm clock l).mem_iff.1 hm)
    have hg : Good clock s := h.a _ hn
    have hso : SlotOk s := hok.ok _ hn
    have hso' := moved_ok hso hg hq hn0 hn1
    unfold mvStep
    refine ⟨i1.put hso', i2.moved i1.keys ?_ hg hq hn0 hn1 _⟩
    rw [i2.sig, ← h.sig]
    exact List.mem_map.2 ⟨_, hn, rfl⟩
end Go.Proofs.Ytknlojlcahgnoaa

/- Walks: a table's Move and MoveAll to no kernel; what they do to a table that looks like another one. -/
namespace Go.Proofs.Ytknlojlcahgnoaa
open Go.RowKit
set_option linter.unusedVariables false
set_option linter.unusedSimpArgs false

end Go.Proofs.Ytknlojlcahgnoaa
