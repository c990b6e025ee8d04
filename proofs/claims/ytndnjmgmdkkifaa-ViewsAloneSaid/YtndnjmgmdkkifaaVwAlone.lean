/- ViewsAlone: the law's answer, wherever its arguments are of their kinds. -/
import Derived.Test.YtndnjmgmdkkifaaVw27
namespace Go.Proofs.Ytndnjmgmdkkifaa.Vw1
open Go Go.RowKit Go.Proofs.Ytndnjmgmdkkifaa.Vw Go.Proofs.Ytndnjmgmdkkifaa.Q Go.Proofs.YtndnjmgmdkkifaaW.PrintWords
set_option linter.unusedVariables false

def cantonlaw16_ViewsAlone.f (l0 : List ByteArray) (l1 : List Int) : Option Bool :=
  if (l0.length ≤ 1000000000000000 ∧ ∀ y ∈ l0, y.size ≤ 140737488355328) ∧ l1.length ≤ 1000000000000000 ∧ ∀ y ∈ l1, 0 ≤ y ∧ y ≤ 255 then some true else none
theorem cantonlaw16_ViewsAlone.calls (A0 : Option Addr) (c0 : Nat) (l0 : List ByteArray) (A1 : Option Addr) (c1 : Nat) (l1 : List Int) (r : Bool) (w : World) (hr0 : Kd.C Kd.string w A0 l0.length l0) (hr1 : Kd.C (Kd.int .u8) w A1 l1.length l1) (h : cantonlaw16_ViewsAlone.f l0 l1 = some r) :
    Calls Try.prog 7 #[.slice A0 l0.length c0, .slice A1 l1.length c1] w fun e w' => e = .returned (.bool r) ∧ Below w.heap.size w w' := by
  unfold cantonlaw16_ViewsAlone.f at h
  split at h
  · next hx =>
    cases h
    exact alone_walk A0 c0 l0 A1 c1 l1 hr0 hr1 hx.1.1 hx.2.1 hx.2.2 hx.1.2
  · cases h
end Go.Proofs.Ytndnjmgmdkkifaa.Vw1
