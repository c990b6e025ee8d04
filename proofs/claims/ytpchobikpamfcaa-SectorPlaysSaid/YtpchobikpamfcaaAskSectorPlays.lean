/- What the law SectorPlays asks, without memory; how its arguments open. -/
import Derived.Test.YtpchobikpamfcaaSkPlays
import Derived.Test.YtpchobikpamfcaaOpens
namespace Go.Proofs.Ytpchobikpamfcaa.OpensSectorPlays
open Go Go.RowKit Go.Proofs.Ytpchobikpamfcaa.Opens Go.Proofs.Ytpchobikpamfcaa.Q Go.Proofs.YtpchobikpamfcaaW.PrintWords Go.Proofs.Ytpchobikpamfcaa.Sk
def wf30 (x : S30) : Prop := ((Lit.int .i64 x.f0).wf = true) ∧ ((Lit.int .i64 x.f1).wf = true) ∧ (x.f2.length ≤ 9223372036854775807 ∧ x.f2.length * 1 ≤ 140737488351232 ∧ ∀ y ∈ x.f2, (Lit.int .u8 y).wf = true) ∧ ((Lit.int .i64 x.f3).wf = true) ∧ (x.f4.length ≤ 9223372036854775807 ∧ x.f4.length * 1 ≤ 140737488351232 ∧ ∀ y ∈ x.f4, True)
theorem op30 : Opens.Op Try.prog 30 k30 wf30 := op_imp (op_iso (fun x : S30 => (x.f0, x.f1, x.f2, x.f3, x.f4)) (fun p => ⟨p.1, p.2.1, p.2.2.1, p.2.2.2.1, p.2.2.2.2⟩) (fun _ => rfl) (op_struct Try.underlying30 (by kernel_rfl) (opF_cons rfl (by kernel_rfl) (op_int Try.underlying3) (opF_cons rfl (by kernel_rfl) (op_int Try.underlying3) (opF_cons rfl (by kernel_rfl) (op_slice 5 Try.underlying22 (by kernel_rfl) (by kernel_rfl) (op_int Try.underlying5)) (opF_cons rfl (by kernel_rfl) (op_int Try.underlying3) (opF_one rfl (by kernel_rfl) (op_slice 4 Try.underlying24 (by kernel_rfl) (by kernel_rfl) (op_bool Try.underlying4))))))))) (fun _ h => h)
theorem opArg0 : Opens.Op Try.prog 22 (Kd.slice 5 (Kd.int .u8)) (fun x => x.length ≤ 9223372036854775807 ∧ x.length * 1 ≤ 140737488351232 ∧ ∀ y ∈ x, (Lit.int .u8 y).wf = true) := (op_slice 5 Try.underlying22 (by kernel_rfl) (by kernel_rfl) (op_int Try.underlying5))
theorem opArg1 : Opens.Op Try.prog 23 (Kd.slice 30 k30) (fun x => x.length ≤ 9223372036854775807 ∧ x.length * 72 ≤ 140737488351232 ∧ ∀ y ∈ x, wf30 y) := (op_slice 30 Try.underlying23 (by kernel_rfl) (by kernel_rfl) op30)
/-- THE ONE PURE STATEMENT. -/
def Pure : Prop := ∀ (l0 : (List Int)) (l1 : (List S30)), (l0.length ≤ 9223372036854775807 ∧ l0.length * 1 ≤ 140737488351232 ∧ ∀ y ∈ l0, (Lit.int .u8 y).wf = true) → (l1.length ≤ 9223372036854775807 ∧ l1.length * 72 ≤ 140737488351232 ∧ ∀ y ∈ l1, wf30 y) → cantonlaw03_SectorPlays.f l0 l1 = some true
end Go.Proofs.Ytpchobikpamfcaa.OpensSectorPlays
