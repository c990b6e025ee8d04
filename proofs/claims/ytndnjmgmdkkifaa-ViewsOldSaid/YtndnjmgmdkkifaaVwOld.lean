/- ViewsOld: the law's answer, wherever its arguments are of their kinds. -/
import Derived.Test.YtndnjmgmdkkifaaVw21
namespace Go.Proofs.Ytndnjmgmdkkifaa.Vw1
open Go Go.RowKit Go.Proofs.Ytndnjmgmdkkifaa.Vw Go.Proofs.YtndnjmgmdkkifaaW.PrintWords
set_option linter.unusedVariables false

def cantonlaw16_ViewsOld.f (a0 a1 a2_0 a2_1 : Int) (l2_2 : List ByteArray) (a3 a4_0 a4_1 a4_2 a4_3 a4_4 : Int) (l4_5 : List ByteArray) (a4_6 : Int) (a4_7 : ByteArray) : Option Bool :=
  if l2_2.length ≤ 100000000000000 ∧ l4_5.length ≤ 100000000000000 then some true else none
theorem cantonlaw16_ViewsOld.calls (a0 : Int) (a1 : Int) (a2_0 : Int) (a2_1 : Int) (A2_2 : Option Addr) (c2_2 : Nat) (l2_2 : List ByteArray) (a3 : Int) (a4_0 : Int) (a4_1 : Int) (a4_2 : Int) (a4_3 : Int) (a4_4 : Int) (A4_5 : Option Addr) (c4_5 : Nat) (l4_5 : List ByteArray) (a4_6 : Int) (a4_7 : ByteArray) (r : Bool) (w : World) (hr2_2 : Kd.C Kd.string w A2_2 l2_2.length l2_2) (hr4_5 : Kd.C Kd.string w A4_5 l4_5.length l4_5) (h : cantonlaw16_ViewsOld.f a0 a1 a2_0 a2_1 l2_2 a3 a4_0 a4_1 a4_2 a4_3 a4_4 l4_5 a4_6 a4_7 = some r) :
    Calls Try.prog 8 #[.int .i64 a0, .int .i64 a1, .agg #[.int .i64 a2_0, .int .i64 a2_1, .slice A2_2 l2_2.length c2_2], .int .i64 a3, .agg #[.int .i64 a4_0, .int .i64 a4_1, .int .i64 a4_2, .int .i64 a4_3, .int .i64 a4_4, .slice A4_5 l4_5.length c4_5, .int .i64 a4_6, .string a4_7]] w fun e w' => e = .returned (.bool r) ∧ Below w.heap.size w w' := by
  unfold cantonlaw16_ViewsOld.f at h
  split at h
  · next hx =>
    cases h
    exact old_walk a0 a1 a2_0 a2_1 A2_2 c2_2 l2_2 a3 ⟨a4_0, a4_1, a4_2, l4_5, a4_3, a4_4, a4_6, a4_7⟩ A4_5 c4_5 hr2_2 hr4_5 hx.1 hx.2
  · cases h
end Go.Proofs.Ytndnjmgmdkkifaa.Vw1
