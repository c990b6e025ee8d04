/- What the law ViewsAlone asks, without memory; how its arguments open. -/
import Derived.Test.YtndnjmgmdkkifaaVwAlone
import Derived.Test.YtndnjmgmdkkifaaOpens
namespace Go.Proofs.Ytndnjmgmdkkifaa.OpensViewsAlone
open Go Go.RowKit Go.Proofs.Ytndnjmgmdkkifaa.Opens Go.Proofs.Ytndnjmgmdkkifaa.Q Go.Proofs.YtndnjmgmdkkifaaW.PrintWords Go.Proofs.Ytndnjmgmdkkifaa.Vw1
theorem opArg0 : Opens.Op Try.prog 22 (Kd.slice 9 Kd.string) (fun x => x.length ≤ 9223372036854775807 ∧ x.length * 16 ≤ 140737488351232 ∧ ∀ y ∈ x, y.size ≤ 140737488351232) := (op_slice 9 Try.underlying22 (by kernel_rfl) (by kernel_rfl) (op_string Try.underlying9))
theorem opArg1 : Opens.Op Try.prog 66 (Kd.slice 5 (Kd.int .u8)) (fun x => x.length ≤ 9223372036854775807 ∧ x.length * 1 ≤ 140737488351232 ∧ ∀ y ∈ x, (Lit.int .u8 y).wf = true) := (op_slice 5 Try.underlying66 (by kernel_rfl) (by kernel_rfl) (op_int Try.underlying5))
/-- THE ONE PURE STATEMENT. -/
def Pure : Prop := ∀ (l0 : (List ByteArray)) (l1 : (List Int)), (l0.length ≤ 9223372036854775807 ∧ l0.length * 16 ≤ 140737488351232 ∧ ∀ y ∈ l0, y.size ≤ 140737488351232) → (l1.length ≤ 9223372036854775807 ∧ l1.length * 1 ≤ 140737488351232 ∧ ∀ y ∈ l1, (Lit.int .u8 y).wf = true) → cantonlaw16_ViewsAlone.f l0 l1 = some true
end Go.Proofs.Ytndnjmgmdkkifaa.OpensViewsAlone
