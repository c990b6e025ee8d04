/- SectorFuse: the law's answer, wherever its arguments are of their kinds. -/
import Derived.Test.YtpchobikpamfcaaSk20
namespace Go.Proofs.Ytpchobikpamfcaa.Sk
open Go Go.RowKit Go.Proofs.Ytpchobikpamfcaa.Q Go.Proofs.YtpchobikpamfcaaW.PrintWords
set_option linter.unusedVariables false

open Classical in
noncomputable def cantonlaw03_SectorFuse.f (l0 : List Int) (a1 : Int) (l2 : List S30) : Option Bool := if (l0.length ≤ 140737488355328 ∧ ∀ y ∈ l0, 0 ≤ y ∧ y ≤ 255) ∧ OkOps l2 ∧ 0 ≤ a1 ∧ a1 ≤ 255 then some true else none
theorem cantonlaw03_SectorFuse.calls (A0 : Option Addr) (c0 : Nat) (l0 : List Int) (a1 : Int) (A2 : Option Addr) (c2 : Nat) (l2 : List S30) (r : Bool) (w : World) (hr0 : Kd.C (Kd.int .u8) w A0 l0.length l0) (hc0 : l0.length ≤ c0) (hr2 : Kd.C k30 w A2 l2.length l2) (h : cantonlaw03_SectorFuse.f l0 a1 l2 = some r) :
    Calls Try.prog 7 #[.slice A0 l0.length c0, .int .u8 a1, .slice A2 l2.length c2] w fun e w' => e = .returned (.bool r) ∧ Below w.heap.size w w' := by
  unfold cantonlaw03_SectorFuse.f at h
  split at h
  · next hx =>
    cases h
    exact sectorFuse_walk A0 c0 l0 hr0 hc0 hx.1.2 hx.1.1 A2 c2 l2 hr2 hx.2.1 a1 hx.2.2.1 hx.2.2.2
  · cases h
end Go.Proofs.Ytpchobikpamfcaa.Sk
