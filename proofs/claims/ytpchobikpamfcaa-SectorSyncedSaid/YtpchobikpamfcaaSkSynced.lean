/- SectorSynced: the law's answer, wherever its arguments are of their kinds. -/
import Derived.Test.YtpchobikpamfcaaSk18
namespace Go.Proofs.Ytpchobikpamfcaa.Sk
open Go Go.RowKit Go.Proofs.Ytpchobikpamfcaa.Q Go.Proofs.YtpchobikpamfcaaW.PrintWords
set_option linter.unusedVariables false

open Classical in
noncomputable def cantonlaw03_SectorSynced.f (l0 : List Int) (l1 : List S30) (l2 : List Bool) (a3 : Int) (l4 : List Int) : Option Bool := if (l0.length ≤ 140737488355328 ∧ ∀ y ∈ l0, 0 ≤ y ∧ y ≤ 255) ∧ OkOps l1 then some true else none
theorem cantonlaw03_SectorSynced.calls (A0 : Option Addr) (c0 : Nat) (l0 : List Int) (A1 : Option Addr) (c1 : Nat) (l1 : List S30) (A2 : Option Addr) (c2 : Nat) (l2 : List Bool) (a3 : Int) (A4 : Option Addr) (c4 : Nat) (l4 : List Int) (r : Bool) (w : World) (hr0 : Kd.C (Kd.int .u8) w A0 l0.length l0) (hc0 : l0.length ≤ c0) (hr1 : Kd.C k30 w A1 l1.length l1) (hr2 : Kd.C Kd.bool w A2 l2.length l2) (hr4 : Kd.C (Kd.int .u8) w A4 l4.length l4) (h : cantonlaw03_SectorSynced.f l0 l1 l2 a3 l4 = some r) :
    Calls Try.prog 6 #[.slice A0 l0.length c0, .slice A1 l1.length c1, .slice A2 l2.length c2, .int .i64 a3, .slice A4 l4.length c4] w fun e w' => e = .returned (.bool r) ∧ Below w.heap.size w w' := by
  unfold cantonlaw03_SectorSynced.f at h
  split at h
  · next hx =>
    cases h
    exact sectorSynced_walk A0 c0 l0 hr0 hc0 hx.1.2 hx.1.1 A1 c1 l1 hr1 hx.2 A2 c2 l2 hr2 a3 A4 c4 l4 hr4
  · cases h
end Go.Proofs.Ytpchobikpamfcaa.Sk
