/- SectorNew: the law's answer. -/
import Derived.Test.YtpchobikpamfcaaSk15
namespace Go.Proofs.Ytpchobikpamfcaa.Sk
open Go Go.RowKit Go.Proofs.YtpchobikpamfcaaW.PrintWords
set_option linter.unusedVariables false

def cantonlaw03_SectorNew.f (a0 : Int) : Option Bool := some true
theorem cantonlaw03_SectorNew.calls (a0 : Int) (r : Bool) (w : World) (h : cantonlaw03_SectorNew.f a0 = some r) :
    Calls Try.prog 5 #[.int .i64 a0] w fun e w' => e = .returned (.bool r) ∧ Below w.heap.size w w' := by
  cases h
  exact newLaw_calls a0 w
end Go.Proofs.Ytpchobikpamfcaa.Sk
