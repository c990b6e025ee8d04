/- ViewsFew: the law's answer, wherever its arguments are of their kinds. -/
import Derived.Test.YtndnjmgmdkkifaaVw25
namespace Go.Proofs.Ytndnjmgmdkkifaa.Vw1
open Go Go.RowKit Go.Proofs.Ytndnjmgmdkkifaa.Vw Go.Proofs.Ytndnjmgmdkkifaa.Q Go.Proofs.YtndnjmgmdkkifaaW.PrintWords
set_option linter.unusedVariables false

def cantonlaw16_ViewsFew.f (a0 : Int) (l1 : List Int) (a2 : Int) : Option Bool :=
  if (0 ≤ a0 ∧ a0 ≤ 255 ∧ 0 ≤ a2 ∧ a2 ≤ 255) ∧ l1.length ≤ 1000000000000000 ∧ ∀ y ∈ l1, 0 ≤ y ∧ y ≤ 255 then some true else none
theorem cantonlaw16_ViewsFew.calls (a0 : Int) (A1 : Option Addr) (c1 : Nat) (l1 : List Int) (a2 : Int) (r : Bool) (w : World) (hr1 : Kd.C (Kd.int .u8) w A1 l1.length l1) (h : cantonlaw16_ViewsFew.f a0 l1 a2 = some r) :
    Calls Try.prog 9 #[.int .u8 a0, .slice A1 l1.length c1, .int .u8 a2] w fun e w' => e = .returned (.bool r) ∧ Below w.heap.size w w' := by
  unfold cantonlaw16_ViewsFew.f at h
  split at h
  · next hx =>
    cases h
    exact few_walk a0 A1 c1 l1 a2 hr1 hx.1.1 hx.1.2.1 hx.1.2.2.1 hx.1.2.2.2 hx.2.1 hx.2.2
  · cases h
end Go.Proofs.Ytndnjmgmdkkifaa.Vw1
