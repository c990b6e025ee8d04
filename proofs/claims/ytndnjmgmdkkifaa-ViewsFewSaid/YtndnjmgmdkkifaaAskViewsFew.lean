/- What the law ViewsFew asks, without memory; how its arguments open. -/
import Derived.Test.YtndnjmgmdkkifaaVwFew
import Derived.Test.YtndnjmgmdkkifaaOpens
namespace Go.Proofs.Ytndnjmgmdkkifaa.OpensViewsFew
open Go Go.RowKit Go.Proofs.Ytndnjmgmdkkifaa.Opens Go.Proofs.Ytndnjmgmdkkifaa.Q Go.Proofs.YtndnjmgmdkkifaaW.PrintWords Go.Proofs.Ytndnjmgmdkkifaa.Vw1
theorem opArg1 : Opens.Op Try.prog 66 (Kd.slice 5 (Kd.int .u8)) (fun x => x.length ≤ 9223372036854775807 ∧ x.length * 1 ≤ 140737488351232 ∧ ∀ y ∈ x, (Lit.int .u8 y).wf = true) := (op_slice 5 Try.underlying66 (by kernel_rfl) (by kernel_rfl) (op_int Try.underlying5))
/-- THE ONE PURE STATEMENT. -/
def Pure : Prop := ∀ (a0 : Int) (l1 : (List Int)) (a2 : Int), ((Lit.int .u8 a0).wf = true) → (l1.length ≤ 9223372036854775807 ∧ l1.length * 1 ≤ 140737488351232 ∧ ∀ y ∈ l1, (Lit.int .u8 y).wf = true) → ((Lit.int .u8 a2).wf = true) → cantonlaw16_ViewsFew.f a0 l1 a2 = some true
end Go.Proofs.Ytndnjmgmdkkifaa.OpensViewsFew
