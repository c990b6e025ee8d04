/- What the law SectorReads asks, without memory; how its arguments open. -/
import Derived.Test.YtpchobikpamfcaaSkReads
import Derived.Test.YtpchobikpamfcaaOpens
namespace Go.Proofs.Ytpchobikpamfcaa.OpensSectorReads
open Go Go.RowKit Go.Proofs.Ytpchobikpamfcaa.Opens Go.Proofs.Ytpchobikpamfcaa.Q Go.Proofs.YtpchobikpamfcaaW.PrintWords Go.Proofs.Ytpchobikpamfcaa.Sk
theorem opArg0 : Opens.Op Try.prog 22 (Kd.slice 5 (Kd.int .u8)) (fun x => x.length ≤ 9223372036854775807 ∧ x.length * 1 ≤ 140737488351232 ∧ ∀ y ∈ x, (Lit.int .u8 y).wf = true) := (op_slice 5 Try.underlying22 (by kernel_rfl) (by kernel_rfl) (op_int Try.underlying5))
theorem opArg2 : Opens.Op Try.prog 22 (Kd.slice 5 (Kd.int .u8)) (fun x => x.length ≤ 9223372036854775807 ∧ x.length * 1 ≤ 140737488351232 ∧ ∀ y ∈ x, (Lit.int .u8 y).wf = true) := (op_slice 5 Try.underlying22 (by kernel_rfl) (by kernel_rfl) (op_int Try.underlying5))
/-- THE ONE PURE STATEMENT. -/
def Pure : Prop := ∀ (l0 : (List Int)) (a1 : Int) (l2 : (List Int)), (l0.length ≤ 9223372036854775807 ∧ l0.length * 1 ≤ 140737488351232 ∧ ∀ y ∈ l0, (Lit.int .u8 y).wf = true) → ((Lit.int .u16 a1).wf = true) → (l2.length ≤ 9223372036854775807 ∧ l2.length * 1 ≤ 140737488351232 ∧ ∀ y ∈ l2, (Lit.int .u8 y).wf = true) → cantonlaw03_SectorReads.f l0 a1 l2 = some true
end Go.Proofs.Ytpchobikpamfcaa.OpensSectorReads
