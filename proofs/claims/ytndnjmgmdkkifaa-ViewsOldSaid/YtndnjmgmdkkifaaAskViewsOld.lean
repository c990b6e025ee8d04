/- What the law ViewsOld asks, without memory; how its arguments open. -/
import Derived.Test.YtndnjmgmdkkifaaVwOld
import Derived.Test.YtndnjmgmdkkifaaOpens
namespace Go.Proofs.Ytndnjmgmdkkifaa.OpensViewsOld
open Go Go.RowKit Go.Proofs.Ytndnjmgmdkkifaa.Opens Go.Proofs.Ytndnjmgmdkkifaa.Q Go.Proofs.YtndnjmgmdkkifaaW.PrintWords Go.Proofs.Ytndnjmgmdkkifaa.Vw1
def wf24 (x : S24) : Prop := ((Lit.int .i64 x.f0).wf = true) ∧ ((Lit.int .i64 x.f1).wf = true) ∧ (x.f2.length ≤ 9223372036854775807 ∧ x.f2.length * 16 ≤ 140737488351232 ∧ ∀ y ∈ x.f2, y.size ≤ 140737488351232)
theorem op24 : Opens.Op Try.prog 24 k24 wf24 := op_imp (op_iso (fun x : S24 => (x.f0, x.f1, x.f2)) (fun p => ⟨p.1, p.2.1, p.2.2⟩) (fun _ => rfl) (op_struct Try.underlying24 (by kernel_rfl) (opF_cons rfl (by kernel_rfl) (op_int Try.underlying2) (opF_cons rfl (by kernel_rfl) (op_int Try.underlying2) (opF_one rfl (by kernel_rfl) (op_slice 9 Try.underlying22 (by kernel_rfl) (by kernel_rfl) (op_string Try.underlying9))))))) (fun _ h => h)
def wf33 (x : S33) : Prop := ((Lit.int .i64 x.f0).wf = true) ∧ ((Lit.int .i64 x.f1).wf = true) ∧ ((Lit.int .i64 x.f2).wf = true) ∧ ((Lit.int .i64 x.f3).wf = true) ∧ ((Lit.int .i64 x.f4).wf = true) ∧ (x.f5.length ≤ 9223372036854775807 ∧ x.f5.length * 16 ≤ 140737488351232 ∧ ∀ y ∈ x.f5, y.size ≤ 140737488351232) ∧ ((Lit.int .i64 x.f6).wf = true) ∧ (x.f7.size ≤ 140737488351232)
theorem op33 : Opens.Op Try.prog 33 k33 wf33 := op_imp (op_iso (fun x : S33 => (x.f0, x.f1, x.f2, x.f3, x.f4, x.f5, x.f6, x.f7)) (fun p => ⟨p.1, p.2.1, p.2.2.1, p.2.2.2.1, p.2.2.2.2.1, p.2.2.2.2.2.1, p.2.2.2.2.2.2.1, p.2.2.2.2.2.2.2⟩) (fun _ => rfl) (op_struct Try.underlying33 (by kernel_rfl) (opF_cons rfl (by kernel_rfl) (op_int Try.underlying3) (opF_cons rfl (by kernel_rfl) (op_int Try.underlying2) (opF_cons rfl (by kernel_rfl) (op_int Try.underlying2) (opF_cons rfl (by kernel_rfl) (op_int Try.underlying3) (opF_cons rfl (by kernel_rfl) (op_int Try.underlying3) (opF_cons rfl (by kernel_rfl) (op_slice 9 Try.underlying22 (by kernel_rfl) (by kernel_rfl) (op_string Try.underlying9)) (opF_cons rfl (by kernel_rfl) (op_int Try.underlying2) (opF_one rfl (by kernel_rfl) (op_string Try.underlying9))))))))))) (fun _ h => h)
theorem opArg2 : Opens.Op Try.prog 24 k24 (fun x => wf24 x) := op24
theorem opArg4 : Opens.Op Try.prog 33 k33 (fun x => wf33 x) := op33
/-- THE ONE PURE STATEMENT. -/
def Pure : Prop := ∀ (a0 : Int) (a1 : Int) (a2 : S24) (a3 : Int) (a4 : S33), ((Lit.int .i64 a0).wf = true) → ((Lit.int .i64 a1).wf = true) → (wf24 a2) → ((Lit.int .i64 a3).wf = true) → (wf33 a4) → cantonlaw16_ViewsOld.f a0 a1 a2.f0 a2.f1 a2.f2 a3 a4.f0 a4.f1 a4.f2 a4.f3 a4.f4 a4.f5 a4.f6 a4.f7 = some true
end Go.Proofs.Ytndnjmgmdkkifaa.OpensViewsOld
