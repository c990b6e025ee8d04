/- What the law MountsMove asks, without memory; how its arguments open. -/
import Derived.Test.YtpkaedpgpncgpaaMMove
import Derived.Test.YtpkaedpgpncgpaaOpens
namespace Go.Proofs.Ytpkaedpgpncgpaa.OpensMountsMove
open Go Go.RowKit Go.Proofs.Ytpkaedpgpncgpaa.Opens Go.Proofs.Ytpkaedpgpncgpaa.Q Go.Proofs.YtpkaedpgpncgpaaW.PrintWords Go.Proofs.Ytpkaedpgpncgpaa.MMove
def wf27 (x : S27) : Prop := (x.f0.size ≤ 140737488351232) ∧ ((Lit.int .i64 x.f1).wf = true) ∧ ((Lit.int .i64 x.f2).wf = true) ∧ ((Lit.int .i64 x.f3).wf = true)
theorem op27 : Opens.Op Try.prog 27 k27 wf27 := op_imp (op_iso (fun x : S27 => (x.f0, x.f1, x.f2, x.f3)) (fun p => ⟨p.1, p.2.1, p.2.2.1, p.2.2.2⟩) (fun _ => rfl) (op_struct Try.underlying27 (by kernel_rfl) (opF_cons rfl (by kernel_rfl) (op_string Try.underlying9) (opF_cons rfl (by kernel_rfl) (op_int Try.underlying3) (opF_cons rfl (by kernel_rfl) (op_int Try.underlying2) (opF_one rfl (by kernel_rfl) (op_int Try.underlying3))))))) (fun _ h => h)
theorem opArg0 : Opens.Op Try.prog 22 (Kd.slice 27 k27) (fun x => x.length ≤ 9223372036854775807 ∧ x.length * 40 ≤ 140737488351232 ∧ ∀ y ∈ x, wf27 y) := (op_slice 27 Try.underlying22 (by kernel_rfl) (by kernel_rfl) op27)
theorem opArg2 : Opens.Op Try.prog 35 (Kd.slice 5 (Kd.int .u8)) (fun x => x.length ≤ 9223372036854775807 ∧ x.length * 1 ≤ 140737488351232 ∧ ∀ y ∈ x, (Lit.int .u8 y).wf = true) := (op_slice 5 Try.underlying35 (by kernel_rfl) (by kernel_rfl) (op_int Try.underlying5))
/-- THE ONE PURE STATEMENT. -/
def Pure : Prop := ∀ (l0 : (List S27)) (a1 : ByteArray) (l2 : (List Int)), (l0.length ≤ 9223372036854775807 ∧ l0.length * 40 ≤ 140737488351232 ∧ ∀ y ∈ l0, wf27 y) → (a1.size ≤ 140737488351232) → (l2.length ≤ 9223372036854775807 ∧ l2.length * 1 ≤ 140737488351232 ∧ ∀ y ∈ l2, (Lit.int .u8 y).wf = true) → cantonlaw14_MountsMove.f l0 a1 l2 = some true
end Go.Proofs.Ytpkaedpgpncgpaa.OpensMountsMove
