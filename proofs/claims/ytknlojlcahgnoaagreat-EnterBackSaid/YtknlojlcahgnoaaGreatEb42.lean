/- Plain laws: a charge of a table that has few keys; all are drained later. Plain laws: tables that differ in the kernels of their slots alone: whoever goes over to whatever kernel, all is told the same. Plain laws: two tables that look alike, whose slots go over to whatever kernel. -/
import Derived.Test.YtknlojlcahgnoaaGreatEb40
import Derived.Test.YtknlojlcahgnoaaGreatEb35
import Derived.Test.YtknlojlcahgnoaaGreatEb41

namespace Go.Proofs.YtknlojlcahgnoaaGreat
set_option linter.unusedVariables false
set_option linter.unusedSimpArgs false

theorem chRoom_sub {most clock : Int} {l : SMap} {k : ByteArray} {e b : Int} : (∀ x ∈ chRoom most clock l k e b, x ∈ l) ∧ (chRoom most clock l k e b).length ≤ l.length := by
  have h1 : ∀ x ∈ slotLeft l k e b clock, x ∈ l := by
    unfold slotLeft
    split
    · exact fun x hx => hx
    · exact fun x hx => (List.mem_filter.1 hx).1
  have h2 := slotLeft_len l k e b clock
  unfold chRoom roomed
  split
  · exact ⟨fun x hx => h1 x (List.mem_filter.1 hx).1, Nat.le_trans (List.length_filter_le _ _) h2⟩
  · exact ⟨h1, h2⟩
theorem slotHit_mem {l : SMap} {k : ByteArray} {e b clock : Int} {s : Slot} (h : slotHit l k e b clock = some s) : ∃ n, (s, n) ∈ l := look_mem (hit_look h).1
theorem put_mem {l : SMap} {s : Slot} {c : Nat} {x : Slot × Nat} (h : x ∈ l.put s c) : x ∈ l ∨ x.1 = s := by
  unfold SMap.put at h
  split at h
  · obtain ⟨y, hy, rfl⟩ := List.mem_map.1 h
    split
    · exact Or.inr rfl
    · exact Or.inl hy
  · rcases List.mem_append.1 h with h | h
    · exact Or.inl h
    · obtain rfl := List.mem_singleton.1 h; exact Or.inr rfl
/-- where there is room a put does not go beyond it -/
theorem room_put {n c : Nat} {clock : Int} {l : SMap} {k : ByteArray} {e b : Int} {s : Slot} (hl : l.length ≤ n) (hs : s.key = k) (hf : ¬ chFull n clock l k e b = true) : ((chRoom n clock l k e b).put s c).length ≤ n := by
  have hr := (chRoom_sub (most := n) (clock := clock) (l := l) (k := k) (e := e) (b := b)).2
  unfold SMap.put
  split
  · unfold SMap.rep; rw [List.length_map]; omega
  · rename_i hq
    rw [List.length_append]
    simp only [List.length_cons, List.length_nil]
    cases hh : slotHit l k e b clock with
    | some s' =>
      exfalso
      apply hq
      have : chRoom n clock l k e b = l := by unfold chRoom roomed slotLeft; rw [hh]; simp
      rw [this, hs, (hit_look hh).1]
      rfl
    | none =>
      have hf' : ¬ full clock (slotLeft l k e b clock) false n = true := by unfold chFull at hf; rw [hh] at hf; exact hf
      have hrm : chRoom n clock l k e b = roomed clock (slotLeft l k e b clock) false n := by unfold chRoom; rw [hh]; rfl
      rw [hrm]
      unfold full at hf'
      simp at hf'
      omega
end Go.Proofs.YtknlojlcahgnoaaGreat

namespace Go.Proofs.YtknlojlcahgnoaaGreat
set_option linter.unusedVariables false
set_option linter.unusedSimpArgs false

/-- what is seen of a slot -/
abbrev Sig := ByteArray × Int × Int × Int
def sg (clock : Int) (s : Slot) : Sig := (s.key, s.e, s.b, kFill s.sk s.sa s.sb clock (s.e * s.b))
def sgs (clock : Int) (l : SMap) : List Sig := l.map fun x => sg clock x.1
/-- a slot that came of a right rule -/
structure Good (clock : Int) (s : Slot) : Prop where
  rule : ruleErr s.p s.e s.b s.rk = 0
  sane : Sane s.sk s.sa s.sb clock (s.e * s.b)
theorem Good.cap {clock : Int} {s : Slot} (h : Good clock s) : s.cap = s.e * s.b ∧ 0 ≤ s.e * s.b ∧ s.e * s.b ≤ 4611686018427387904 := by
  obtain ⟨-, he, hb, hc, -⟩ := ruleErr_zero h.rule
  refine ⟨by unfold Slot.cap ruleCap; rw [if_pos h.rule], Int.mul_nonneg (by omega) (by omega), capOk_lt hc⟩
theorem Good.fill {clock : Int} {s : Slot} (h : Good clock s) : s.fill clock = (sg clock s).2.2.2 := by
  unfold Slot.fill sg; rw [h.cap.1]
theorem Good.drained {clock : Int} {s : Slot} (h : Good clock s) : drained clock s = ((sg clock s).2.2.2 == 0) := by
  unfold Go.Proofs.YtknlojlcahgnoaaGreat.drained; rw [h.fill]
theorem Good.later {clock now : Int} {s : Slot} (h : Good clock s) (hn : clock ≤ now) : Good now s := ⟨h.rule, h.sane.later hn⟩
def sgLater (d : Int) (y : Sig) : Sig := (y.1, y.2.1, y.2.2.1, satSub y.2.2.2 d)
theorem Good.sgl {clock now : Int} {s : Slot} (h : Good clock s) (hn0 : 0 ≤ clock) (hn : clock ≤ now) (hn1 : now < 18446744073709551616) : sg now s = sgLater (now - clock) (sg clock s) := by
  unfold sg sgLater
  rw [h.sane.fill_later h.cap.2.1 h.cap.2.2 hn0 hn hn1]
def Goods (clock : Int) (l : SMap) : Prop := ∀ x ∈ l, Good clock x.1
theorem Goods.later {clock now : Int} {l : SMap} (h : Goods clock l) (hn : clock ≤ now) : Goods now l := fun x hx => (h x hx).later hn
theorem Goods.sgs {clock now : Int} {l : SMap} (h : Goods clock l) (hn0 : 0 ≤ clock) (hn : clock ≤ now) (hn1 : now < 18446744073709551616) : sgs now l = (sgs clock l).map (sgLater (now - clock)) := by
  unfold Go.Proofs.YtknlojlcahgnoaaGreat.sgs
  rw [List.map_map]
  exact List.map_congr_left fun x hx => (h x hx).sgl hn0 hn hn1

theorem look_sg (clock : Int) (l : SMap) (k : ByteArray) : (l.look k).map (sg clock) = (sgs clock l).find? fun y => decide (y.1 = k) := by
  unfold SMap.look sgs
  rw [List.find?_map, Option.map_map]
  rfl
theorem del_sg (clock : Int) (l : SMap) (k : ByteArray) : sgs clock (l.del k) = (sgs clock l).filter fun y => decide (y.1 ≠ k) := by
  unfold SMap.del sgs
  rw [List.filter_map]
  rfl
theorem rep_sg (clock : Int) (l : SMap) (s : Slot) : sgs clock (l.rep s) = (sgs clock l).map fun y => if y.1 = s.key then sg clock s else y := by
  unfold SMap.rep sgs
  rw [List.map_map, List.map_map]
  refine List.map_congr_left fun x _ => ?_
  show sg clock (if x.1.key = s.key then (s, x.2) else x).1 = if x.1.key = s.key then sg clock s else sg clock x.1
  split <;> rfl
theorem put_sg (clock : Int) (l : SMap) (s : Slot) (c : Nat) : sgs clock (l.put s c) =
    if ((sgs clock l).find? fun y => decide (y.1 = s.key)).isSome then (sgs clock l).map fun y => if y.1 = s.key then sg clock s else y else sgs clock l ++ [sg clock s] := by
  rw [← look_sg]
  unfold SMap.put
  rw [Option.isSome_map]
  split
  · rw [rep_sg]
  · unfold sgs; rw [List.map_append]; rfl
theorem swept_sg {clock : Int} {l : SMap} (h : Goods clock l) : sgs clock (l.filter fun x => !drained clock x.1) = (sgs clock l).filter fun y => !(y.2.2.2 == 0) := by
  unfold sgs
  rw [List.filter_map]
  congr 1
  refine List.filter_congr fun x hx => ?_
  rw [(h x hx).drained]
  rfl
theorem sgs_len (clock : Int) (l : SMap) : (sgs clock l).length = l.length := by unfold sgs; rw [List.length_map]

/-- two tables that look alike -/
structure Al (clock : Int) (l l' : SMap) : Prop where
  sig : sgs clock l = sgs clock l'
  a : Goods clock l
  b : Goods clock l'
theorem Al.nil (clock : Int) : Al clock [] [] := ⟨rfl, fun x h => (by cases h), fun x h => (by cases h)⟩
theorem Al.later {clock now : Int} {l l' : SMap} (h : Al clock l l') (hn0 : 0 ≤ clock) (hn : clock ≤ now) (hn1 : now < 18446744073709551616) : Al now l l' :=
  ⟨by rw [h.a.sgs hn0 hn hn1, h.b.sgs hn0 hn hn1, h.sig], h.a.later hn, h.b.later hn⟩
theorem Al.len {clock : Int} {l l' : SMap} (h : Al clock l l') : l.length = l'.length := by rw [← sgs_len clock l, h.sig, sgs_len]

/-- of a slot that is hit -/
theorem hit_sg {clock : Int} {l : SMap} (h : Goods clock l) (k : ByteArray) (e b : Int) : (slotHit l k e b clock).map (sg clock) = ((sgs clock l).find? fun y => decide (y.1 = k)).filter fun y => y.2.1 == e && y.2.2.1 == b && !(y.2.2.2 == 0) := by
  rw [← look_sg]
  unfold slotHit
  cases hl : l.look k with
  | none => rfl
  | some s =>
    obtain ⟨n, hn⟩ := look_mem hl
    have hg := h _ hn
    have e1 : (s.e == e && s.b == b && !(s.fill clock == 0)) = ((sg clock s).2.1 == e && (sg clock s).2.2.1 == b && !((sg clock s).2.2.2 == 0)) := by
      rw [hg.fill]; rfl
    show Option.map (sg clock) (if (s.e == e && s.b == b && !(s.fill clock == 0)) = true then some s else none) = if ((sg clock s).2.1 == e && (sg clock s).2.2.1 == b && !((sg clock s).2.2.2 == 0)) = true then some (sg clock s) else none
    by_cases q : (s.e == e && s.b == b && !(s.fill clock == 0)) = true
    · rw [if_pos q, if_pos (e1.symm.trans q)]; rfl
    · rw [if_neg q, if_neg (fun r => q (e1.trans r))]; rfl
theorem Al.hit {clock : Int} {l l' : SMap} (h : Al clock l l') (k : ByteArray) (e b : Int) : (slotHit l k e b clock).map (sg clock) = (slotHit l' k e b clock).map (sg clock) := by
  rw [hit_sg h.a, hit_sg h.b, h.sig]
theorem Al.some {clock : Int} {l l' : SMap} (h : Al clock l l') (k : ByteArray) (e b : Int) : (slotHit l k e b clock).isSome = (slotHit l' k e b clock).isSome := by
  have := congrArg Option.isSome (h.hit k e b)
  rwa [Option.isSome_map, Option.isSome_map] at this
theorem Goods.sub {clock : Int} {l m : SMap} (h : Goods clock l) (hs : ∀ x ∈ m, x ∈ l) : Goods clock m := fun x hx => h x (hs x hx)
theorem slotLeft_sub (l : SMap) (k : ByteArray) (e b clock : Int) : ∀ x ∈ slotLeft l k e b clock, x ∈ l := by
  unfold slotLeft
  split
  · exact fun x hx => hx
  · exact fun x hx => (List.mem_filter.1 hx).1
theorem Al.left {clock : Int} {l l' : SMap} (h : Al clock l l') (k : ByteArray) (e b : Int) : Al clock (slotLeft l k e b clock) (slotLeft l' k e b clock) := by
  refine ⟨?_, h.a.sub (slotLeft_sub l k e b clock), h.b.sub (slotLeft_sub l' k e b clock)⟩
  unfold slotLeft
  rw [h.some k e b]
  split
  · exact h.sig
  · rw [del_sg, del_sg, h.sig]
theorem Al.roomed {clock : Int} {l l' : SMap} (h : Al clock l l') (is : Bool) (most : Int) : Al clock (roomed clock l is most) (roomed clock l' is most) := by
  unfold Go.Proofs.YtknlojlcahgnoaaGreat.roomed
  rw [h.len]
  split
  · exact ⟨by rw [swept_sg h.a, swept_sg h.b, h.sig], h.a.sub fun x hx => (List.mem_filter.1 hx).1, h.b.sub fun x hx => (List.mem_filter.1 hx).1⟩
  · exact h
theorem Al.room {clock : Int} {l l' : SMap} (h : Al clock l l') (most : Int) (k : ByteArray) (e b : Int) : Al clock (chRoom most clock l k e b) (chRoom most clock l' k e b) := by
  unfold chRoom
  rw [h.some k e b]
  exact (h.left k e b).roomed _ _
theorem Al.full {clock : Int} {l l' : SMap} (h : Al clock l l') (most : Int) (k : ByteArray) (e b : Int) : chFull most clock l k e b = chFull most clock l' k e b := by
  unfold chFull Go.Proofs.YtknlojlcahgnoaaGreat.full
  rw [h.some k e b, ((h.left k e b).roomed _ _).len]
theorem Al.put {clock : Int} {l l' : SMap} (h : Al clock l l') {s s' : Slot} (hs : sg clock s = sg clock s') (g : Good clock s) (g' : Good clock s') (c c' : Nat) : Al clock (l.put s c) (l'.put s' c') := by
  have hk : s.key = s'.key := congrArg (·.1) hs
  refine ⟨by rw [put_sg, put_sg, h.sig, hs, hk], fun x hx => ?_, fun x hx => ?_⟩
  · rcases put_mem hx with q | q
    · exact h.a x q
    · rw [q]; exact g
  · rcases put_mem hx with q | q
    · exact h.b x q
    · rw [q]; exact g'

/-- what is told of a state, by how full it is -/
def ansF (f cap W burst e : Int) : Value :=
  ansV (chCode (decide (f + W ≤ cap))) 0 burst (divS (satSub cap (if f + W ≤ cap then f + W else f)) e) (ceilS (if f + W ≤ cap then f + W else f) 1000000000) (ceilS (kWait f cap W) 1000000000) (kWait f cap W) (kRetry f cap W)
theorem ans_of {k a x clock cap W burst e : Int} (h : Sane k a x clock cap) (hc : 0 ≤ cap) (hn0 : 0 ≤ clock) (hW : 0 ≤ W) (hb : clock + cap < 18446744073709551616) : chAns k a x clock cap W burst e = ansF (kFill k a x clock cap) cap W burst e := by
  unfold chAns ansF
  rw [(h.next hc hn0 hW hb).2, h.ok hc hn0 hW]
  simp only [decide_eq_true_eq]
/-- how full a key is that is charged -/
def hitF (clock : Int) (h : Option Slot) : Int := match h with | some s => (sg clock s).2.2.2 | none => 0
theorem hit_sane {clock : Int} {l : SMap} (h : Goods clock l) {k p : ByteArray} {e b rk : Int} (hr : ruleErr p e b rk = 0) (hn0 : 0 ≤ clock) (hb : clock + e * b < 18446744073709551616) :
    let H := slotHit l k e b clock
    Sane (chK H rk) (chA H rk clock (e * b)) (chB H rk clock) clock (e * b) ∧ kFill (chK H rk) (chA H rk clock (e * b)) (chB H rk clock) clock (e * b) = hitF clock H := by
  obtain ⟨-, he, hbb, -, hrk⟩ := ruleErr_zero hr
  have hc : 0 ≤ e * b := Int.mul_nonneg (by omega) (by omega)
  have hk : rk = 1 ∨ rk = 2 ∨ rk = 3 := by unfold rightKind at hrk; simp at hrk; omega
  cases hh : slotHit l k e b clock with
  | none => exact Sane.of hk hc hn0 hb
  | some s =>
    obtain ⟨m, hm⟩ := slotHit_mem hh
    obtain ⟨-, h1, h2, -⟩ := hit_look hh
    have hs := (h _ hm).sane
    rw [h1, h2] at hs
    exact ⟨hs, by show _ = kFill s.sk s.sa s.sb clock (s.e * s.b); rw [h1, h2]; rfl⟩
theorem hitF_of {clock : Int} {x y : Option Slot} (h : x.map (sg clock) = y.map (sg clock)) : hitF clock x = hitF clock y := by
  cases x with
  | none =>
    cases y with
    | none => rfl
    | some _ => cases h
  | some s =>
    cases y with
    | none => cases h
    | some s' =>
      have : sg clock s = sg clock s' := by simpa using h
      show (sg clock s).2.2.2 = (sg clock s').2.2.2
      rw [this]
/-- a charge of two tables that look alike, by rules that differ in their kernel -/
theorem Al.charge {clock most : Int} {l l' : SMap} (h : Al clock l l') (c c' : Nat) {k p : ByteArray} {e b rk rk' n : Int} (hr : ruleErr p e b rk = 0) (hr' : ruleErr p e b rk' = 0) (hn0 : 0 ≤ clock) (hb : clock + e * b < 18446744073709551616) (hn : 0 ≤ n) :
    cgV most clock l k p e b rk n = cgV most clock l' k p e b rk' n ∧ Al clock (cgL most clock l c k p e b rk n) (cgL most clock l' c' k p e b rk' n) := by
  obtain ⟨-, he, hbb, -, -⟩ := ruleErr_zero hr
  have hc : 0 ≤ e * b := Int.mul_nonneg (by omega) (by omega)
  have hW := satMul_u n e hn (by omega)
  obtain ⟨hs, hf⟩ := hit_sane h.a (k := k) hr hn0 hb
  obtain ⟨hs', hf'⟩ := hit_sane h.b (k := k) hr' hn0 hb
  have hF := hitF_of (h.hit k e b)
  have hok : chgOk clock (slotHit l k e b clock) e b rk n = chgOk clock (slotHit l' k e b clock) e b rk' n := by
    unfold chgOk
    rw [hs.ok hc hn0 hW.1, hs'.ok hc hn0 hW.1, hf, hf', hF]
  unfold cgV cgL
  by_cases hk : keyOk k = false
  · rw [if_pos hk, if_pos hk, if_pos hk, if_pos hk]; exact ⟨rfl, h⟩
  · rw [if_neg hk, if_neg hk, if_neg hk, if_neg hk, if_neg (not_not_intro hr), if_neg (not_not_intro hr'), if_neg (not_not_intro hr), if_neg (not_not_intro hr')]
    unfold chargeV chargeL
    rw [h.full most k e b, hok]
    split
    · exact ⟨rfl, h.room most k e b⟩
    · constructor
      · unfold chgV
        rw [ans_of hs hc hn0 hW.1 hb, ans_of hs' hc hn0 hW.1 hb, hf, hf', hF]
      · unfold chL
        split
        · have hn1 := hs.next (W := satMul n e) hc hn0 hW.1 hb
          have hn2 := hs'.next (W := satMul n e) hc hn0 hW.1 hb
          have hok' : kOk (chK (slotHit l k e b clock) rk) (chA (slotHit l k e b clock) rk clock (e * b)) (chB (slotHit l k e b clock) rk clock) clock (e * b) (satMul n e) = kOk (chK (slotHit l' k e b clock) rk') (chA (slotHit l' k e b clock) rk' clock (e * b)) (chB (slotHit l' k e b clock) rk' clock) clock (e * b) (satMul n e) := hok
          refine (h.room most k e b).put ?_ ⟨hr, hn1.1⟩ ⟨hr', hn2.1⟩ c c'
          have e12 := (hn1.2.trans (by rw [hf, hF, hok', ← hf'])).trans hn2.2.symm
          exact congrArg (fun f : Int => ((k, e, b, f) : Sig)) e12
        · exact h.room most k e b

/-- a slot that goes over is as full as it was -/
theorem Sane.ofF {k clock cap F : Int} (hk : k = 1 ∨ k = 2 ∨ k = 3) (hF0 : 0 ≤ F) (hF : F ≤ cap) (hn0 : 0 ≤ clock) (hb : clock + cap < 18446744073709551616) : Sane k (kOfA k clock cap F) (kOfB k clock) clock cap ∧ kFill k (kOfA k clock cap F) (kOfB k clock) clock cap = F := by
  unfold Sane kFill kOfA kOfB satSub satAdd
  rcases hk with rfl | rfl | rfl
  · simp only [if_true]
    refine ⟨⟨?_, ?_, Or.inl ⟨trivial, ?_⟩⟩, ?_⟩ <;> repeat' split
    all_goals omega
  · simp only [show ¬ ((2 : Int) = 1) by decide, if_false, if_true]
    refine ⟨⟨?_, ?_, Or.inr ⟨Or.inl trivial, ?_, ?_⟩⟩, ?_⟩ <;> repeat' split
    all_goals omega
  · simp only [show ¬ ((3 : Int) = 1) by decide, show ¬ ((3 : Int) = 2) by decide, if_false, if_true]
    refine ⟨⟨?_, ?_, Or.inr ⟨Or.inr trivial, ?_, ?_⟩⟩, ?_⟩ <;> repeat' split
    all_goals omega
/-- what is told of who is active -/
def entSig (clock : Int) (y : Sig) : Ent := ⟨y.1, kUntil y.2.2.2 clock⟩
theorem ents_sg {clock : Int} {l : SMap} (h : Goods clock l) : entsOf clock l = (((sgs clock l).filter fun y => !(y.2.2.2 == 0)).mergeSort fun x y => decide (x.1.toList ≤ y.1.toList)).map (entSig clock) := by
  have h1 : (actives clock l).map (sg clock) = (sgs clock l).filter fun y => !(y.2.2.2 == 0) := by
    rw [← swept_sg h]
    unfold actives sgs
    rw [List.map_map]
    rfl
  rw [← h1]
  have h2 : ((actives clock l).mergeSort fun x y => decide (x.key.toList ≤ y.key.toList)).map (sg clock) = ((actives clock l).map (sg clock)).mergeSort fun x y => decide (x.1.toList ≤ y.1.toList) :=
    List.map_mergeSort fun a _ b _ => rfl
  rw [← h2, List.map_map]
  unfold entsOf slotsOf
  refine List.map_congr_left fun x hx => ?_
  have hm : x ∈ actives clock l := (List.mergeSort_perm _ _).mem_iff.1 hx
  obtain ⟨n, hn⟩ := actives_mem hm
  unfold entOf
  show _ = entSig clock (sg clock x)
  unfold entSig
  rw [(h _ hn).fill]
  rfl
theorem Al.ents {clock : Int} {l l' : SMap} (h : Al clock l l') : entsOf clock l = entsOf clock l' := by rw [ents_sg h.a, ents_sg h.b, h.sig]
end Go.Proofs.YtknlojlcahgnoaaGreat

namespace Go.Proofs.YtknlojlcahgnoaaGreat
set_option linter.unusedVariables false
set_option linter.unusedSimpArgs false

theorem cgL_most {n : Nat} {clock : Int} {l : SMap} (c : Nat) (k p : ByteArray) (e b rk w : Int) (hlen : l.length ≤ n) : (cgL n clock l c k p e b rk w).length ≤ n := by
  have hsub := chRoom_sub (most := n) (clock := clock) (l := l) (k := k) (e := e) (b := b)
  unfold cgL
  split
  · exact hlen
  · split
    · exact hlen
    · unfold chargeL
      split
      · omega
      · rename_i hnf
        unfold chL
        split
        · exact room_put hlen rfl hnf
        · omega
end Go.Proofs.YtknlojlcahgnoaaGreat
