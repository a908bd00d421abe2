/- Walks: tollerref11.Strings at rows that are alike. -/
import Derived.Test.YtphbhinobdkidaaOwn2
import Derived.Deep.QuietTactic
import Derived.BigQuiet
namespace Go.Proofs.Ytphbhinobdkidaa
open Go.RowKit
set_option linter.unusedVariables false
set_option linter.unusedSimpArgs false

theorem len_big {n : Nat} (h : n ≤ maxLen) : (n : Int) ≤ 9223372036854775807 := by
  have : maxLen ≤ 9223372036854775807 := by decide
  have h2 : n ≤ 9223372036854775807 := Nat.le_trans h this
  exact Int.ofNat_le.2 h2

set_option maxHeartbeats 1000000 in
set_option maxRecDepth 100000 in
theorem ref11_Strings_yes (v1 v2 : Value) (l : List ByteArray) (w : World) (h1 : StrSlice w v1 l) (h2 : StrSlice w v2 l) :
    Calls Try.prog 24 #[v1, v2] w fun x w' => x = .returned (.bool true) ∧ Ext w w' := by
  obtain ⟨⟨a1, c1, rfl, hl1⟩, hlen, -⟩ := h1
  obtain ⟨⟨a2, c2, rfl, hl2⟩, -, -⟩ := h2
  have hbig := len_big hlen
  have HL1 := Lib.hid hl1
  have HL2 := Lib.hid hl2
  clear hl1 hl2 hlen
  go_enter Try.func24, Try.ntmps24
  go_wp2
  go_loopw [5] (fun i wr => ∃ k : Nat, k ≤ l.length ∧ i = .int .i64 k ∧ Ext w wr) (fun i _ => l.length - (intOf i).toNat)
  case atStart => exact ⟨0, by omega, rfl, Ext.refl _⟩
  case round =>
    obtain ⟨k, hk, rfl, hx⟩ := hrel
    by_cases hlt : k < l.length
    · obtain ⟨b1, o1, rfl, hc1⟩ := HL1.out (by intro e; rw [e] at hlt; simp at hlt)
      obtain ⟨b2, o2, rfl, hc2⟩ := HL2.out (by intro e; rw [e] at hlt; simp at hlt)
      have d1 := hx.keep (hc1 k hlt)
      have d2 := hx.keep (hc2 k hlt)
      generalize l[k] = q at d1 d2
      clear hc1 hc2
      go_wp2_with fail
      go_quiet (fail)
      go_wp2
      go_roundw
      case rel => exact ⟨k + 1, by omega, by go_num, hx.trans (Ext.drewN _ _)⟩
      case measure => simp [intOf]; omega
    · go_wp2
      go_ret
      exact ⟨rfl, (by repeat (first | with_reducible exact Ext.refl _ | with_reducible assumption | with_reducible refine Ext.alloc ?_ _ | with_reducible refine Ext.drew ?_ | with_reducible refine Ext.trans ?_ (by with_reducible assumption)))⟩
end Go.Proofs.Ytphbhinobdkidaa
