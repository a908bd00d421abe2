/- A table's slots, plainly; table.slot by one contract. -/
import Derived.Test.YtnlmbmbalmkiiaaGreatSweep
namespace Go.Proofs.YtnlmbmbalmkiiaaGreat
open Go.RowKit
set_option linter.unusedVariables false
set_option linter.unusedSimpArgs false

/-- what a table's map is at any time -/
structure TabOk (l : SMap) (c : Nat) : Prop where
  old : ∀ x ∈ l, x.2 < c
  born : (l.map (·.2)).Nodup
  keys : l.keys.Nodup
  ok : ∀ x ∈ l, SlotOk x.1
theorem TabOk.nil (c : Nat) : TabOk [] c := ⟨fun x h => (by cases h), List.nodup_nil, List.nodup_nil, fun x h => (by cases h)⟩
theorem TabOk.filter {l : SMap} {c : Nat} (h : TabOk l c) (p : Slot × Nat → Bool) : TabOk (l.filter p) c :=
  ⟨fun x hx => h.old x (List.mem_filter.1 hx).1, h.born.sublist (List.filter_sublist.map _), h.keys.sublist (List.filter_sublist.map _), fun x hx => h.ok x (List.mem_filter.1 hx).1⟩
theorem TabOk.del {l : SMap} {c : Nat} (h : TabOk l c) (k : ByteArray) : TabOk (l.del k) c := h.filter _
theorem rep_keys (l : SMap) (s : Slot) : (l.rep s).keys = l.keys := by
  unfold SMap.rep SMap.keys
  rw [List.map_map]
  refine List.map_congr_left fun x _ => ?_
  simp only [Function.comp]
  split
  · rename_i h; exact h.symm
  · rfl
theorem rep_born (l : SMap) (s : Slot) : (l.rep s).map (·.2) = l.map (·.2) := by
  unfold SMap.rep
  rw [List.map_map]
  refine List.map_congr_left fun x _ => ?_
  simp only [Function.comp]
  split <;> rfl
theorem TabOk.put {l : SMap} {c : Nat} (h : TabOk l c) {s : Slot} (hs : SlotOk s) : TabOk (l.put s c) (l.putC s c) := by
  unfold SMap.put SMap.putC
  split
  · refine ⟨?_, by rw [rep_born]; exact h.born, by rw [rep_keys]; exact h.keys, ?_⟩
    · intro x hx
      obtain ⟨y, hy, rfl⟩ := List.mem_map.1 hx
      have := h.old y hy
      split <;> exact this
    · intro x hx
      obtain ⟨y, hy, rfl⟩ := List.mem_map.1 hx
      have := h.ok y hy
      split
      · exact hs
      · exact this
  · rename_i hl
    have hn : l.look s.key = none := by
      cases e : l.look s.key with
      | none => rfl
      | some _ => rw [e] at hl; exact absurd rfl hl
    have hnk := look_none.1 hn
    refine ⟨?_, ?_, ?_, ?_⟩
    · intro x hx
      rcases List.mem_append.1 hx with hx | hx
      · have := h.old x hx; omega
      · obtain rfl := List.mem_singleton.1 hx; exact Nat.lt_succ_self _
    · rw [List.map_append, List.nodup_append]
      refine ⟨h.born, by simp, ?_⟩
      intro a ha b hb
      obtain ⟨y, hy, rfl⟩ := List.mem_map.1 ha
      have := h.old y hy
      simp at hb
      omega
    · unfold SMap.keys
      rw [List.map_append, List.nodup_append]
      refine ⟨h.keys, by simp, ?_⟩
      intro a ha b hb
      obtain ⟨y, hy, rfl⟩ := List.mem_map.1 ha
      have := hnk y hy
      simp at hb
      subst hb
      exact this
    · intro x hx
      rcases List.mem_append.1 hx with hx | hx
      · exact h.ok x hx
      · obtain rfl := List.mem_singleton.1 hx; exact hs

/-- the slot of a key, if it is active by these numbers -/
def slotHit (l : SMap) (k : ByteArray) (e b clock : Int) : Option Slot := (l.look k).filter fun s => s.e == e && s.b == b && !(s.fill clock == 0)
/-- what is left then -/
def slotLeft (l : SMap) (k : ByteArray) (e b clock : Int) : SMap := if (slotHit l k e b clock).isSome then l else l.del k

theorem look_ok {l : SMap} {c : Nat} {k : ByteArray} {s : Slot} (h : TabOk l c) (hl : l.look k = some s) : SlotOk s := by
  obtain ⟨n, hn⟩ := look_mem hl
  exact h.ok _ hn

theorem table_slot (t mb c : Nat) (k p : ByteArray) (most clock e b rk : Int) (l : SMap) (w : World) (h : TabAt w t mb most clock l c) (hok : TabOk l c) (hn0 : 0 ≤ clock) (hn1 : clock < 18446744073709551616) :
    Calls Tryz.prog 29 #[.pointer (some ⟨t, 0, none⟩), .string k, .agg #[.string p, .int .u64 e, .int .u64 b, .int .u8 rk]] w fun x w' =>
      ∃ s0 : Slot, SlotOk s0 ∧ x = .returned (.tuple #[s0.val, .bool (slotHit l k e b clock).isSome]) ∧ (∀ s, slotHit l k e b clock = some s → s0 = s) ∧ TabAt w' t mb most clock (slotLeft l k e b clock) c ∧ ExtB mb w w' := by
  cases hl : l.look k with
  | none =>
    have hh : slotHit l k e b clock = none := by unfold slotHit; rw [hl]; rfl
    have hd : slotLeft l k e b clock = l := by unfold slotLeft; rw [hh]; exact del_none (look_none.1 hl)
    refine (table_slot_none t mb c k p most clock e b rk l w h hl).mono ?_
    rintro x w' ⟨rfl, hx⟩
    refine ⟨slot0, ?_, by rw [hh]; rfl, fun s hs => (by rw [hh] at hs; cases hs), by rw [hd]; exact h.ext hx, hx.toB mb⟩
    constructor <;> simp [slot0, maxLen] <;> decide
  | some s =>
    have hs := look_ok hok hl
    have hkk := look_key hl
    obtain ⟨k', sp, se, sbu, srk, sk, sa, sb⟩ := s
    simp only at hkk
    subst hkk
    have hs' := hs
    obtain ⟨m1, m2, u1, u2, u3, u4, u5, u6, u7, u8, u9, u10, u11, u12⟩ := hs
    simp only at m1 m2 u1 u2 u3 u4 u5 u6 u7 u8 u9 u10 u11 u12
    have gone : ((se == e && sbu == b && !(Slot.fill ⟨k', sp, se, sbu, srk, sk, sa, sb⟩ clock == 0)) = false) → slotHit l k' e b clock = none ∧ slotLeft l k' e b clock = l.del k' := fun q => by
      have hh : slotHit l k' e b clock = none := by unfold slotHit; rw [hl]; exact if_neg (fun qq => Bool.noConfusion (q.symm.trans qq))
      exact ⟨hh, by unfold slotLeft; rw [hh]; rfl⟩
    by_cases h1 : se = e
    · by_cases h2 : sbu = b
      · subst h1; subst h2
        by_cases h3 : Slot.fill ⟨k', sp, se, sbu, srk, sk, sa, sb⟩ clock = 0
        · obtain ⟨hh, hd⟩ := gone (by rw [h3]; simp)
          refine (table_slot_drained t mb c k' sp p se sbu srk sk sa sb most clock rk l w h m1 m2 u1 u2 u3 u4 u5 u6 u7 u8 u9 u10 u11 u12 hn0 hn1 hl hok.keys _ h3 (by decide)).mono ?_
          rintro x w' ⟨rfl, ht, hx⟩
          exact ⟨_, hs', by rw [hh]; rfl, fun s hs => (by rw [hh] at hs; cases hs), by rw [hd]; exact ht, hx⟩
        · have hh : slotHit l k' se sbu clock = some ⟨k', sp, se, sbu, srk, sk, sa, sb⟩ := by
            unfold slotHit; rw [hl]; simp [Option.filter, h3]
          have hd : slotLeft l k' se sbu clock = l := by unfold slotLeft; rw [hh]; rfl
          refine (table_slot_yes t mb c k' sp p se sbu srk sk sa sb most clock rk l w h m1 m2 u1 u2 u3 u4 u5 u6 u7 u8 u9 u10 u11 u12 hn0 hn1 hl _ rfl (by simpa using h3)).mono ?_
          rintro x w' ⟨rfl, hx⟩
          exact ⟨_, hs', by rw [hh]; rfl, fun s hs => (by rw [hh] at hs; cases hs; rfl), by rw [hd]; exact h.ext hx, hx.toB mb⟩
      · obtain ⟨hh, hd⟩ := gone (by rw [beq_eq_false_iff_ne.2 h2]; simp)
        refine (table_slot_burst t mb c k' sp p se sbu srk sk sa sb most clock e b rk l w h m1 m2 u1 u2 u3 u4 u5 u6 u7 u8 u9 u10 u11 u12 hn0 hn1 hl hok.keys (by simpa using h1) (by simpa using h2)).mono ?_
        rintro x w' ⟨rfl, ht, hx⟩
        exact ⟨_, hs', by rw [hh]; rfl, fun s hs => (by rw [hh] at hs; cases hs), by rw [hd]; exact ht, hx⟩
    · obtain ⟨hh, hd⟩ := gone (by rw [beq_eq_false_iff_ne.2 h1]; simp)
      refine (table_slot_every t mb c k' sp p se sbu srk sk sa sb most clock e b rk l w h m1 m2 u1 u2 u3 u4 u5 u6 u7 u8 u9 u10 u11 u12 hn0 hn1 hl hok.keys (by simpa using h1)).mono ?_
      rintro x w' ⟨rfl, ht, hx⟩
      exact ⟨_, hs', by rw [hh]; rfl, fun s hs => (by rw [hh] at hs; cases hs), by rw [hd]; exact ht, hx⟩

/-! ## bounds -/
theorem kOf_u (k now cap fill : Int) (hn0 : 0 ≤ now) (hn1 : now < 18446744073709551616) (hc0 : 0 ≤ cap) (hc1 : cap < 18446744073709551616) (hf0 : 0 ≤ fill) (hf1 : fill < 18446744073709551616) :
    0 ≤ kOfA k now cap fill ∧ kOfA k now cap fill < 18446744073709551616 ∧ 0 ≤ kOfB k now ∧ kOfB k now < 18446744073709551616 := by
  have h1 := satAdd_u now fill hn0 hf0
  have h2 := satSub_u cap fill hc0 hc1 hf0
  unfold kOfA kOfB
  refine ⟨?_, ?_, ?_, ?_⟩ <;> repeat' split
  all_goals omega
theorem kNext_u (k a b now cap x : Int) (ha0 : 0 ≤ a) (ha1 : a < 18446744073709551616) (hb0 : 0 ≤ b) (hb1 : b < 18446744073709551616) (hn0 : 0 ≤ now) (hn1 : now < 18446744073709551616) (hc0 : 0 ≤ cap) (hc1 : cap < 18446744073709551616) (hx0 : 0 ≤ x) (hx1 : x < 18446744073709551616) :
    0 ≤ kNextA k a b now cap x ∧ kNextA k a b now cap x < 18446744073709551616 ∧ 0 ≤ kNextB k a b now cap x ∧ kNextB k a b now cap x < 18446744073709551616 := by
  have h2 := satSub_u now b hn0 hn1 hb0
  have h1 := satAdd_u (max a now) x (by omega) hx0
  have h3 := satAdd_u a (satSub now b) ha0 h2.1
  have h4 := satSub_u a (satSub now b) ha0 ha1 h2.1
  unfold kNextA kNextB kOk fitsB
  refine ⟨?_, ?_, ?_, ?_⟩ <;> repeat' split
  all_goals first
    | omega
    | (rename_i q; simp at q; omega)
    | (rename_i q _; simp at q; omega)
    | (rename_i q _ _; simp at q; omega)
    | (rename_i q _ _ _; simp at q; omega)
theorem satMul_u (a b : Int) (ha : 0 ≤ a) (hb : 0 ≤ b) : 0 ≤ satMul a b ∧ satMul a b < 18446744073709551616 := by
  have := Int.mul_nonneg ha hb
  unfold satMul; split <;> omega
end Go.Proofs.YtnlmbmbalmkiiaaGreat
