/- ViewsSaved: the law's answer, wherever its arguments are of their kinds. -/
import Derived.Test.YtndnjmgmdkkifaaVw23
namespace Go.Proofs.Ytndnjmgmdkkifaa.Vw1
open Go Go.RowKit Go.Proofs.Ytndnjmgmdkkifaa.Vw Go.Proofs.Ytndnjmgmdkkifaa.Q Go.Proofs.YtndnjmgmdkkifaaW.PrintWords
set_option linter.unusedVariables false

def cantonlaw16_ViewsSaved.f (a0 a1 a2_0 a2_1 : Int) (l2_2 : List ByteArray) (l3 : List S35) : Option Bool :=
  if l2_2.length ≤ 100000000000000 ∧ l3.length ≤ 100000000000000 ∧ ∀ o ∈ l3, o.f3.f5.length ≤ 100000000000000 ∧ o.f1.size ≤ 140737488351232 then some true else none
theorem cantonlaw16_ViewsSaved.calls (a0 : Int) (a1 : Int) (a2_0 : Int) (a2_1 : Int) (A2_2 : Option Addr) (c2_2 : Nat) (l2_2 : List ByteArray) (A3 : Option Addr) (c3 : Nat) (l3 : List S35) (r : Bool) (w : World) (hr2_2 : Kd.C Kd.string w A2_2 l2_2.length l2_2) (hr3 : Kd.C k35 w A3 l3.length l3) (h : cantonlaw16_ViewsSaved.f a0 a1 a2_0 a2_1 l2_2 l3 = some r) :
    Calls Try.prog 6 #[.int .i64 a0, .int .i64 a1, .agg #[.int .i64 a2_0, .int .i64 a2_1, .slice A2_2 l2_2.length c2_2], .slice A3 l3.length c3] w fun e w' => e = .returned (.bool r) ∧ Below w.heap.size w w' := by
  unfold cantonlaw16_ViewsSaved.f at h
  split at h
  · next hx =>
    cases h
    exact saved_walk a0 a1 a2_0 a2_1 A2_2 c2_2 l2_2 A3 c3 l3 hr2_2 hr3 hx.1 hx.2.1 hx.2.2
  · cases h
end Go.Proofs.Ytndnjmgmdkkifaa.Vw1
