/- SectorPlays: the law's answer, wherever its arguments are of their kinds. -/
import Derived.Test.YtpchobikpamfcaaSk26
namespace Go.Proofs.Ytpchobikpamfcaa.Sk
open Go Go.RowKit Go.Proofs.Ytpchobikpamfcaa.Q Go.Proofs.YtpchobikpamfcaaW.PrintWords
set_option linter.unusedVariables false

open Classical in
noncomputable def cantonlaw03_SectorPlays.f (l0 : List Int) (l1 : List S30) : Option Bool := if (l0.length ≤ 140737488355328 ∧ ∀ y ∈ l0, 0 ≤ y ∧ y ≤ 255) ∧ OkOps l1 then some true else none
theorem cantonlaw03_SectorPlays.calls (A0 : Option Addr) (c0 : Nat) (l0 : List Int) (A1 : Option Addr) (c1 : Nat) (l1 : List S30) (r : Bool) (w : World) (hr0 : Kd.C (Kd.int .u8) w A0 l0.length l0) (hc0 : l0.length ≤ c0) (hr1 : Kd.C k30 w A1 l1.length l1) (h : cantonlaw03_SectorPlays.f l0 l1 = some r) :
    Calls Try.prog 8 #[.slice A0 l0.length c0, .slice A1 l1.length c1] w fun e w' => e = .returned (.bool r) ∧ Below w.heap.size w w' := by
  unfold cantonlaw03_SectorPlays.f at h
  split at h
  · next hx =>
    cases h
    exact plays_walk A0 c0 l0 hr0 hc0 hx.1.2 hx.1.1 A1 c1 l1 hr1 hx.2
  · cases h
end Go.Proofs.Ytpchobikpamfcaa.Sk
