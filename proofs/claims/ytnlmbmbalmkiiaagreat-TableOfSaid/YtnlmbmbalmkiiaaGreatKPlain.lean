/- Plain sums that stop at their ends, and the three kernels, as functions on integers: no program in sight. -/
import Derived.Test.YtnlmbmbalmkiiaaGreatPlain
namespace Go.Proofs.YtnlmbmbalmkiiaaGreat

def satAdd (a b : Int) : Int := if a + b < 18446744073709551616 then a + b else 18446744073709551615
def satSub (a b : Int) : Int := if b ≤ a then a - b else 0
def fitsB (a b c : Int) : Bool := decide (a + b ≤ c)
def divS (a b : Int) : Int := if b = 0 then 18446744073709551615 else a / b
def ceilS (a b : Int) : Int := if b = 0 then 18446744073709551615 else if a % b = 0 then a / b else a / b + 1

theorem satAdd_lt {a b : Int} (h : a + b < 18446744073709551616) : satAdd a b = a + b := if_pos h
theorem satAdd_ge {a b : Int} (h : ¬ a + b < 18446744073709551616) : satAdd a b = 18446744073709551615 := if_neg h
theorem satAdd_u (a b : Int) (ha : 0 ≤ a) (hb : 0 ≤ b) : 0 ≤ satAdd a b ∧ satAdd a b < 18446744073709551616 := by unfold satAdd; split <;> omega
theorem satSub_le {a b : Int} (h : b ≤ a) : satSub a b = a - b := if_pos h
theorem satSub_gt {a b : Int} (h : ¬ b ≤ a) : satSub a b = 0 := if_neg h
theorem satSub_u (a b : Int) (ha : 0 ≤ a) (ha1 : a < 18446744073709551616) (hb : 0 ≤ b) : 0 ≤ satSub a b ∧ satSub a b ≤ a := by unfold satSub; split <;> omega
theorem divS_u (a b : Int) (ha : 0 ≤ a) (ha1 : a < 18446744073709551616) (hb : 0 ≤ b) : 0 ≤ divS a b ∧ divS a b < 18446744073709551616 := by
  unfold divS
  split
  · omega
  · have h1 := Int.ediv_nonneg ha hb
    have h2 := Int.ediv_le_self b ha
    omega
theorem ceilS_u (a b : Int) (ha : 0 ≤ a) (ha1 : a < 18446744073709551616) (hb : 0 ≤ b) : 0 ≤ ceilS a b ∧ ceilS a b < 18446744073709551616 := by
  unfold ceilS
  split
  · omega
  · have h1 := Int.ediv_nonneg ha hb
    have h2 := Int.ediv_le_self b ha
    split
    · omega
    · rename_i h3 h4
      have h5 : a / b < a ∨ a = 0 ∨ b = 1 := by
        by_cases h6 : a = 0
        · exact Or.inr (Or.inl h6)
        by_cases h7 : b = 1
        · exact Or.inr (Or.inr h7)
        left
        exact Int.ediv_lt_self_of_pos_of_ne_one (by omega) (by omega)
      rcases h5 with h | h | h
      · omega
      · subst h; simp at h4
      · subst h; simp at h4

/-- how full a state is -/
def kFill (k a b now cap : Int) : Int :=
  if k = 1 then satSub a now else if k = 2 then cap - min (satAdd a (satSub now b)) cap else if k = 3 then satSub a (satSub now b) else 0
/-- a state that is so full: its two numbers -/
def kOfA (k now cap fill : Int) : Int := if k = 1 then satAdd now fill else if k = 2 then satSub cap fill else if k = 3 then fill else 0
def kOfB (k now : Int) : Int := if k = 1 then 0 else if k = 2 then now else if k = 3 then now else 0
/-- may it come in -/
def kOk (k a b now cap x : Int) : Bool :=
  if k = 1 then fitsB (max a now - now) x cap else if k = 2 then decide (x ≤ min (satAdd a (satSub now b)) cap) else if k = 3 then fitsB (satSub a (satSub now b)) x cap else false
/-- what is kept then -/
def kNextA (k a b now cap x : Int) : Int :=
  if kOk k a b now cap x then (if k = 1 then satAdd (max a now) x else if k = 2 then min (satAdd a (satSub now b)) cap - x else if k = 3 then satSub a (satSub now b) + x else a) else a
def kNextB (k a b now cap x : Int) : Int :=
  if kOk k a b now cap x then (if k = 1 then 0 else if k = 2 then now else if k = 3 then now else b) else b
/-- how much later -/
def kRetry (f cap x : Int) : Bool := decide (x ≤ cap) && decide (cap < f + x)
def kWait (f cap x : Int) : Int := if kRetry f cap x then f - (cap - x) else 0

theorem kFill_u (k a b now cap : Int) (ha0 : 0 ≤ a) (ha1 : a < 18446744073709551616) (hb0 : 0 ≤ b) (hn0 : 0 ≤ now) (hn1 : now < 18446744073709551616) (hc0 : 0 ≤ cap) (hc1 : cap < 18446744073709551616) :
    0 ≤ kFill k a b now cap ∧ kFill k a b now cap < 18446744073709551616 := by
  have h1 := satSub_u a now ha0 ha1 hn0
  have h2 := satSub_u now b hn0 hn1 hb0
  have h3 := satAdd_u a (satSub now b) ha0 h2.1
  have h4 := satSub_u a (satSub now b) ha0 ha1 h2.1
  unfold kFill
  repeat' split
  all_goals omega
end Go.Proofs.YtnlmbmbalmkiiaaGreat
