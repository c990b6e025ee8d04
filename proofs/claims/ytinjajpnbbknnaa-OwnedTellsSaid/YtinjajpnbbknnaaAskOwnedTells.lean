/- What the law OwnedTells asks, without memory; how its arguments open. -/
import Derived.Test.YtinjajpnbbknnaaQx14
import Derived.Test.YtinjajpnbbknnaaOpens
namespace Go.Proofs.Ytinjajpnbbknnaa.OpensOwnedTells
open Go Go.RowKit Go.Proofs.Ytinjajpnbbknnaa.Opens Go.Proofs.Ytinjajpnbbknnaa.Q Go.Proofs.YtinjajpnbbknnaaW.PrintWords
def wf45 (x : S45) : Prop := (x.f0.size ≤ 140737488351232) ∧ ((Lit.int .i64 x.f1).wf = true) ∧ ((Lit.int .i64 x.f2).wf = true)
theorem op45 : Opens.Op Try.prog 45 k45 wf45 := op_imp (op_iso (fun x : S45 => (x.f0, x.f1, x.f2)) (fun p => ⟨p.1, p.2.1, p.2.2⟩) (fun _ => rfl) (op_struct Try.underlying45 (by kernel_rfl) (opF_cons rfl (by kernel_rfl) (op_string Try.underlying9) (opF_cons rfl (by kernel_rfl) (op_int Try.underlying2) (opF_one rfl (by kernel_rfl) (op_int Try.underlying3)))))) (fun _ h => h)
theorem opArg0 : Opens.Op Try.prog 22 (Kd.slice 45 k45) (fun x => x.length ≤ 9223372036854775807 ∧ x.length * 32 ≤ 140737488351232 ∧ ∀ y ∈ x, wf45 y) := (op_slice 45 Try.underlying22 (by kernel_rfl) (by kernel_rfl) op45)
/-- THE ONE PURE STATEMENT. -/
def Pure : Prop := ∀ (l0 : (List S45)) (a1 : ByteArray) (a2 : Int), (l0.length ≤ 9223372036854775807 ∧ l0.length * 32 ≤ 140737488351232 ∧ ∀ y ∈ l0, wf45 y) → (a1.size ≤ 140737488351232) → ((Lit.int .i64 a2).wf = true) → ∃ k, cantonlaw11_OwnedTells.f k l0 a1 a2 = some true
end Go.Proofs.Ytinjajpnbbknnaa.OpensOwnedTells
