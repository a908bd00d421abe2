/- Walks: Charge. -/
import Derived.Deep.DeepCutAuto
import Derived.Deep.CutRange
import Derived.Test.YtknlojlcahgnoaaG23

/- Walks: Charge. -/
namespace Go.Proofs.Ytknlojlcahgnoaa
open Go.RowKit
set_option linter.unusedVariables false
set_option linter.unusedSimpArgs false

theorem run_slen {P : Program} {t k e : TypeId} (ht : P.underlying t = some (.map k e)) {w : World} {b c : Nat} {l : SMap} (h : MapIs w b l c) (ty : TypeId) :
    (Builtin.len_ #[t] ty #[.map (some b)]).run P w = .ok (.int .i64 (l.length : Int)) w := by
  have hb : w.heap[b]? = some (.map (ents l) c) := h
  simp [Builtin.len_, run_underlying ht, MapKept.run_getObj_map hb, Result.andThen]
  simp [goInt, ents]

/-- what is left behind the first sweep -/
def roomed (clock : Int) (l : SMap) (is : Bool) (most : Int) : SMap := if is = false ∧ most ≤ l.length then l.filter (fun x => !drained clock x.1) else l

def full (clock : Int) (l : SMap) (is : Bool) (most : Int) : Bool := !is && decide (most ≤ ((roomed clock l is most).length : Int))
def pickI (is : Bool) (a b : Int) : Int := if is then a else b
def chCode (ok : Bool) : Int := if ok then 1 else 2
def chL (ok : Bool) (l : SMap) (s : Slot) (c : Nat) : SMap := if ok then l.put s c else l
def chC (ok : Bool) (l : SMap) (s : Slot) (c : Nat) : Nat := if ok then l.putC s c else c
def chK (h : Option Slot) (rk : Int) : Int := match h with | some s => s.sk | none => rk
def chA (h : Option Slot) (rk clock cap : Int) : Int := match h with | some s => s.sa | none => kOfA rk clock cap 0
def chB (h : Option Slot) (rk clock : Int) : Int := match h with | some s => s.sb | none => kOfB rk clock
/-- what is told of a state that is asked for W -/
def chAns (k a x clock cap W burst e : Int) : Value :=
  ansV (chCode (kOk k a x clock cap W)) 0 burst (divS (satSub cap (kFill k (kNextA k a x clock cap W) (kNextB k a x clock cap W) clock cap)) e)
    (ceilS (kFill k (kNextA k a x clock cap W) (kNextB k a x clock cap W) clock cap) 1000000000) (ceilS (kWait (kFill k a x clock cap) cap W) 1000000000) (kWait (kFill k a x clock cap) cap W) (kRetry (kFill k a x clock cap) cap W)
def chSlot (k p : ByteArray) (e b rk xk xa xb clock cap W : Int) : Slot := ⟨k, p, e, b, rk, xk, kNextA xk xa xb clock cap W, kNextB xk xa xb clock cap W⟩
/-- is there no room -/
def chFull (most clock : Int) (l : SMap) (k : ByteArray) (e b : Int) : Bool := full clock (slotLeft l k e b clock) (slotHit l k e b clock).isSome most
def chRoom (most clock : Int) (l : SMap) (k : ByteArray) (e b : Int) : SMap := roomed clock (slotLeft l k e b clock) (slotHit l k e b clock).isSome most
def chgV (clock : Int) (h : Option Slot) (e b rk n : Int) : Value := chAns (chK h rk) (chA h rk clock (e * b)) (chB h rk clock) clock (e * b) (satMul n e) b e
def chgOk (clock : Int) (h : Option Slot) (e b rk n : Int) : Bool := kOk (chK h rk) (chA h rk clock (e * b)) (chB h rk clock) clock (e * b) (satMul n e)
def chgS (clock : Int) (h : Option Slot) (k p : ByteArray) (e b rk n : Int) : Slot := chSlot k p e b rk (chK h rk) (chA h rk clock (e * b)) (chB h rk clock) clock (e * b) (satMul n e)
/-- what Charge tells, and what it leaves, of a right key and a right rule -/
def chargeV (most clock : Int) (l : SMap) (k : ByteArray) (e b rk n : Int) : Value :=
  if chFull most clock l k e b then ansV 3 0 b 0 0 0 0 false else chgV clock (slotHit l k e b clock) e b rk n
def chargeL (most clock : Int) (l : SMap) (c : Nat) (k p : ByteArray) (e b rk n : Int) : SMap :=
  if chFull most clock l k e b then chRoom most clock l k e b else chL (chgOk clock (slotHit l k e b clock) e b rk n) (chRoom most clock l k e b) (chgS clock (slotHit l k e b clock) k p e b rk n) c
def chargeC (most clock : Int) (l : SMap) (c : Nat) (k p : ByteArray) (e b rk n : Int) : Nat :=
  if chFull most clock l k e b then c else chC (chgOk clock (slotHit l k e b clock) e b rk n) (chRoom most clock l k e b) (chgS clock (slotHit l k e b clock) k p e b rk n) c

theorem pick_u {is : Bool} {a b m : Int} (ha : 0 ≤ a) (ha1 : a < m) (hb : 0 ≤ b) (hb1 : b < m) : 0 ≤ pickI is a b ∧ pickI is a b < m := by
  unfold pickI; split <;> omega
end Go.Proofs.Ytknlojlcahgnoaa
