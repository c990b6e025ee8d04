/- WalRoom: the law's answer. -/
import Derived.Test.YtnobhjpobnmiaaaDoorWl19
namespace Go.Proofs.YtnobhjpobnmiaaaDoor.Q
/-- nothing stands here: the rows open this name -/
theorem nothing : True := trivial
end Go.Proofs.YtnobhjpobnmiaaaDoor.Q
namespace Go.Proofs.YtnobhjpobnmiaaaDoor.Wl
open Go Go.RowKit Go.Proofs.YtnobhjpobnmiaaaDoorW.PrintWords
set_option linter.unusedVariables false

def cantonlaw05_WalRoom.f (a0 a1 : Int) : Option Bool := if 0 ≤ a0 ∧ a0 ≤ 65535 ∧ 0 ≤ a1 ∧ a1 ≤ 65535 then some true else none
theorem cantonlaw05_WalRoom.calls (a0 : Int) (a1 : Int) (r : Bool) (w : World) (h : cantonlaw05_WalRoom.f a0 a1 = some r) :
    Calls Tryd.prog 4 #[.int .u16 a0, .int .u16 a1] w fun e w' => e = .returned (.bool r) ∧ Below w.heap.size w w' := by
  unfold cantonlaw05_WalRoom.f at h
  split at h
  · next hx =>
    cases h
    exact walRoom_walk a0 a1 hx.1 hx.2.1 hx.2.2.1 hx.2.2.2 w
  · cases h
end Go.Proofs.YtnobhjpobnmiaaaDoor.Wl
