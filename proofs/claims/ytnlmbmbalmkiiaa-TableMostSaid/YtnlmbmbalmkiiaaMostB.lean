/- Plain laws: a charge of a table that has few keys; all are drained later. -/
import Derived.Test.YtnlmbmbalmkiiaaMost
import Derived.Test.YtnlmbmbalmkiiaaKeyOk
namespace Go.Proofs.Ytnlmbmbalmkiiaa
set_option linter.unusedVariables false
set_option linter.unusedSimpArgs false

theorem chRoom_sub {most clock : Int} {l : SMap} {k : ByteArray} {e b : Int} : (∀ x ∈ chRoom most clock l k e b, x ∈ l) ∧ (chRoom most clock l k e b).length ≤ l.length := by
  have h1 : ∀ x ∈ slotLeft l k e b clock, x ∈ l := by
    unfold slotLeft
    split
    · exact fun x hx => hx
    · exact fun x hx => (List.mem_filter.1 hx).1
  have h2 := slotLeft_len l k e b clock
  unfold chRoom roomed
  split
  · exact ⟨fun x hx => h1 x (List.mem_filter.1 hx).1, Nat.le_trans (List.length_filter_le _ _) h2⟩
  · exact ⟨h1, h2⟩
theorem slotHit_mem {l : SMap} {k : ByteArray} {e b clock : Int} {s : Slot} (h : slotHit l k e b clock = some s) : ∃ n, (s, n) ∈ l := look_mem (hit_look h).1
theorem put_mem {l : SMap} {s : Slot} {c : Nat} {x : Slot × Nat} (h : x ∈ l.put s c) : x ∈ l ∨ x.1 = s := by
  unfold SMap.put at h
  split at h
  · obtain ⟨y, hy, rfl⟩ := List.mem_map.1 h
    split
    · exact Or.inr rfl
    · exact Or.inl hy
  · rcases List.mem_append.1 h with h | h
    · exact Or.inl h
    · obtain rfl := List.mem_singleton.1 h; exact Or.inr rfl
/-- where there is room a put does not go beyond it -/
theorem room_put {n c : Nat} {clock : Int} {l : SMap} {k : ByteArray} {e b : Int} {s : Slot} (hl : l.length ≤ n) (hs : s.key = k) (hf : ¬ chFull n clock l k e b = true) : ((chRoom n clock l k e b).put s c).length ≤ n := by
  have hr := (chRoom_sub (most := n) (clock := clock) (l := l) (k := k) (e := e) (b := b)).2
  unfold SMap.put
  split
  · unfold SMap.rep; rw [List.length_map]; omega
  · rename_i hq
    rw [List.length_append]
    simp only [List.length_cons, List.length_nil]
    cases hh : slotHit l k e b clock with
    | some s' =>
      exfalso
      apply hq
      have : chRoom n clock l k e b = l := by unfold chRoom roomed slotLeft; rw [hh]; simp
      rw [this, hs, (hit_look hh).1]
      rfl
    | none =>
      have hf' : ¬ full clock (slotLeft l k e b clock) false n = true := by unfold chFull at hf; rw [hh] at hf; exact hf
      have hrm : chRoom n clock l k e b = roomed clock (slotLeft l k e b clock) false n := by unfold chRoom; rw [hh]; rfl
      rw [hrm]
      unfold full at hf'
      simp at hf'
      omega
theorem chState_sane {l : SMap} {c n : Nat} {clock : Int} (h : MostInv l c n clock) {k p : ByteArray} {e b rk w : Int} (hr : ruleErr p e b rk = 0) (hb : clock + e * b < 18446744073709551616) (hn0 : 0 ≤ clock) (hw : 0 ≤ w) :
    let S := chgS clock (slotHit l k e b clock) k p e b rk w
    Sane S.sk S.sa S.sb clock (S.e * S.b) := by
  obtain ⟨-, he, hbb, -, hrk⟩ := ruleErr_zero hr
  have hc : 0 ≤ e * b := Int.mul_nonneg (by omega) (by omega)
  have hk : rk = 1 ∨ rk = 2 ∨ rk = 3 := by unfold rightKind at hrk; simp at hrk; omega
  have hW := satMul_u w e hw (by omega)
  have hs : Sane (chK (slotHit l k e b clock) rk) (chA (slotHit l k e b clock) rk clock (e * b)) (chB (slotHit l k e b clock) rk clock) clock (e * b) := by
    cases hh : slotHit l k e b clock with
    | none => exact (Sane.of hk hc hn0 hb).1
    | some s =>
      obtain ⟨m, hm⟩ := slotHit_mem hh
      have := (h.all _ hm).2.2
      obtain ⟨-, h1, h2, -⟩ := hit_look hh
      rw [h1, h2] at this
      exact this
  exact (hs.next (W := satMul w e) hc hn0 hW.1 hb).1
/-- a charge keeps it -/
theorem most_charge {l : SMap} {c n : Nat} {clock : Int} (h : MostInv l c n clock) {k p : ByteArray} {e b rk w : Int} (hr : ruleErr p e b rk = 0) (hcap : e * b ≤ 2000) (hb : clock + e * b < 18446744073709551616) (hn0 : 0 ≤ clock) (hw : 0 ≤ w)
    (hok : TabOk (cgL n clock l c k p e b rk w) (cgC n clock l c k p e b rk w)) : MostInv (cgL n clock l c k p e b rk w) (cgC n clock l c k p e b rk w) n clock := by
  have hS := chState_sane h (k := k) (p := p) (w := w) hr hb hn0 hw
  have hkey : (chgS clock (slotHit l k e b clock) k p e b rk w).key = k := rfl
  have hal : ruleErr (chgS clock (slotHit l k e b clock) k p e b rk w).p (chgS clock (slotHit l k e b clock) k p e b rk w).e (chgS clock (slotHit l k e b clock) k p e b rk w).b (chgS clock (slotHit l k e b clock) k p e b rk w).rk = 0 := hr
  have hcp : (chgS clock (slotHit l k e b clock) k p e b rk w).e * (chgS clock (slotHit l k e b clock) k p e b rk w).b ≤ 2000 := hcap
  have hsub := chRoom_sub (most := n) (clock := clock) (l := l) (k := k) (e := e) (b := b)
  have hlen := h.len
  refine ⟨hok, ?_, ?_⟩
  · unfold cgL
    split
    · exact hlen
    · split
      · exact hlen
      · unfold chargeL
        split
        · omega
        · rename_i hnf
          unfold chL
          split
          · exact room_put hlen rfl hnf
          · omega
  · intro x hx
    unfold cgL at hx
    split at hx
    · exact h.all x hx
    · split at hx
      · exact h.all x hx
      · unfold chargeL at hx
        split at hx
        · exact h.all x (hsub.1 x hx)
        · unfold chL at hx
          split at hx
          · rcases put_mem hx with q | q
            · exact h.all x (hsub.1 x q)
            · rw [q]; exact ⟨hr, hcap, chState_sane h hr hb hn0 hw⟩
          · exact h.all x (hsub.1 x hx)
/-- all are drained a millisecond later -/
theorem most_drained {l : SMap} {c n : Nat} {clock : Int} (h : MostInv l c n clock) (hn0 : 0 ≤ clock) (hn1 : clock < 1000000) : slotsOf (clock + 1000000) l = [] := by
  have : actives (clock + 1000000) l = [] := by
    rw [List.eq_nil_iff_forall_not_mem]
    intro s hs
    obtain ⟨⟨m, hm⟩, hd⟩ := actives_iff.1 hs
    obtain ⟨hr, hc, hsn⟩ := h.all _ hm
    obtain ⟨-, he, hbb, -, -⟩ := ruleErr_zero hr
    have hc0 : 0 ≤ s.e * s.b := Int.mul_nonneg (by simp only at he; omega) (by simp only at hbb; omega)
    simp only at hr hc hsn
    have h1 := hsn.fill_later (now := clock + 1000000) hc0 (by omega) hn0 (by omega) (by omega)
    have h2 := hsn.fill_le hc0 hn0
    unfold drained Slot.fill Slot.cap ruleCap at hd
    rw [if_pos hr, h1] at hd
    have h3 : satSub (kFill s.sk s.sa s.sb clock (s.e * s.b)) (clock + 1000000 - clock) = 0 := by unfold satSub; split <;> omega
    rw [h3] at hd
    simp at hd
  rw [← List.length_eq_zero_iff, slotsOf_len, this]
  rfl
/-- what is told of a right key -/
theorem cgV_code {most clock : Int} {l : SMap} {k p : ByteArray} {e b rk w : Int} (hk : keyOk k = true) (hr : ruleErr p e b rk = 0) : ∃ (code err limit left reset aft nan : Int) (ret : Bool), cgV most clock l k p e b rk w = ansV code err limit left reset aft nan ret ∧
    code = if chFull most clock l k e b then 3 else chCode (chgOk clock (slotHit l k e b clock) e b rk w) := by
  unfold cgV
  rw [if_neg (by rw [hk]; decide), if_neg (fun q => q hr)]
  unfold chargeV
  split
  · exact ⟨_, _, _, _, _, _, _, _, rfl, rfl⟩
  · exact ⟨_, _, _, _, _, _, _, _, rfl, rfl⟩
/-- what is told of a key that came or not, by what was asked ahead -/
theorem most_told {l : SMap} {c n : Nat} {clock : Int} (h : MostInv l c n clock) {k p : ByteArray} {e b rk w : Int} (hk : keyOk k = true) (hr : ruleErr p e b rk = 0) : ∃ (code err limit left reset aft nan : Int) (ret : Bool), cgV n clock l k p e b rk w = ansV code err limit left reset aft nan ret ∧
    0 ≤ code ∧ code < 256 ∧ (code == 3) = (!wasIn (slotsOf clock l) k e b && decide ((n : Int) ≤ ((slotsOf clock l).length : Int)) && !holdsK (slotsOf clock l) k) := by
  obtain ⟨code, err, limit, left, reset, aft, nan, ret, hv, hc⟩ := cgV_code (most := n) (clock := clock) (l := l) (w := w) hk hr
  refine ⟨code, err, limit, left, reset, aft, nan, ret, hv, ?_⟩
  rw [← full_iff h k e b]
  cases hf : chFull n clock l k e b with
  | true => rw [hf] at hc; simp at hc; rw [hc]; decide
  | false =>
    rw [hf] at hc
    simp at hc
    unfold chCode at hc
    split at hc <;> rw [hc] <;> decide
/-- once all are drained a new one is admitted -/
theorem most_new {l : SMap} {c n : Nat} {clock : Int} (h : MostInv l c n clock) {k p : ByteArray} {e b rk : Int} (hk : keyOk k = true) (hr : ruleErr p e b rk = 0) (hd : slotsOf clock l = []) (hn : 1 ≤ n) (hn0 : 0 ≤ clock) (hb : clock + e * b < 18446744073709551616) :
    ∃ (err limit left reset aft nan : Int) (ret : Bool), cgV n clock l k p e b rk 1 = ansV 1 err limit left reset aft nan ret := by
  obtain ⟨-, he, hbb, -, hrk⟩ := ruleErr_zero hr
  have hc : e ≤ e * b := by
    have := Int.mul_le_mul_of_nonneg_left (show (1 : Int) ≤ b by omega) (show 0 ≤ e by omega)
    omega
  have hkk : rk = 1 ∨ rk = 2 ∨ rk = 3 := by unfold rightKind at hrk; simp at hrk; omega
  have hnh : slotHit l k e b clock = none := by
    cases hh : slotHit l k e b clock with
    | none => rfl
    | some s =>
      obtain ⟨m, hm⟩ := slotHit_mem hh
      have := slotsOf_mem.2 (actives_iff.2 ⟨⟨m, hm⟩, (hit_look hh).2.2.2⟩)
      rw [hd] at this
      cases this
  obtain ⟨code, err, limit, left, reset, aft, nan, ret, hv, hcd⟩ := cgV_code (most := n) (clock := clock) (l := l) (w := 1) hk hr
  have hnf : chFull n clock l k e b = false := by
    rw [full_iff h, hd]
    simp
    omega
  have hw1 : satMul 1 e = e := by unfold satMul; split <;> omega
  have hof := Sane.of hkk (cap := e * b) (by omega) hn0 hb
  have hgo : chgOk clock (slotHit l k e b clock) e b rk 1 = true := by
    rw [hnh]
    unfold chgOk
    rw [hw1]
    show kOk rk (kOfA rk clock (e * b) 0) (kOfB rk clock) clock (e * b) e = true
    rw [hof.1.ok (by omega) hn0 (by omega), hof.2]
    simp
    omega
  rw [hnf, hgo] at hcd
  simp [chCode] at hcd
  subst hcd
  exact ⟨err, limit, left, reset, aft, nan, ret, hv⟩
theorem rule_low {j : Int} (h : j = 0 ∨ j = 1) : ruleErr (rP j) (rE j) (rB j) (rK j) = 0 ∧ rE j * rB j ≤ 2000 := by
  rcases h with rfl | rfl <;> decide
theorem most_any {l : SMap} {c n : Nat} {clock : Int} (h : MostInv l c n clock) {k p : ByteArray} {e b rk w : Int} (hk : k = ⟨#[]⟩ ∨ keyOk k = true) (hr : ruleErr p e b rk = 0) : ∃ (code err limit left reset aft nan : Int) (ret : Bool), cgV n clock l k p e b rk w = .agg #[.int .u8 code, .int .u16 err, .int .u64 limit, .int .u64 left, .int .u64 reset, .int .u64 aft, .int .u64 nan, .bool ret, .int .i64 0, .slice none 0 0] ∧
    0 ≤ code ∧ code < 256 ∧ (k = ⟨#[]⟩ ∨ k ≠ ⟨#[]⟩ ∧ (code == 3) = (!wasIn (slotsOf clock l) k e b && decide ((n : Int) ≤ ((slotsOf clock l).length : Int)) && !holdsK (slotsOf clock l) k)) := by
  rcases hk with rfl | hk
  · unfold cgV
    rw [if_pos (by decide)]
    exact ⟨5, 12, 0, 0, 0, 0, 0, false, rfl, by decide, by decide, Or.inl rfl⟩
  · obtain ⟨code, err, limit, left, reset, aft, nan, ret, hv, h0, h1, h2⟩ := most_told h (w := w) hk hr
    exact ⟨code, err, limit, left, reset, aft, nan, ret, hv, h0, h1, Or.inr ⟨fun q => by rw [q] at hk; revert hk; decide, h2⟩⟩
end Go.Proofs.Ytnlmbmbalmkiiaa
