/- Plain: a slot that has gone over to a kernel. -/
import Derived.Test.YtnlmbmbalmkiiaaGreatTabW
namespace Go.Proofs.YtnlmbmbalmkiiaaGreat

def movedS (clock : Int) (s : Slot) (kind : Int) : Slot := ⟨s.key, s.p, s.e, s.b, s.rk, kind, kOfA kind clock s.cap (s.fill clock), kOfB kind clock⟩
end Go.Proofs.YtnlmbmbalmkiiaaGreat
