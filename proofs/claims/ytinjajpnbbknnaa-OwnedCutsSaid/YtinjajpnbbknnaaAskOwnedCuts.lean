/- What the law OwnedCuts asks, without memory; how its arguments open. -/
import Derived.Test.YtinjajpnbbknnaaQx20
import Derived.Test.YtinjajpnbbknnaaOpens
namespace Go.Proofs.Ytinjajpnbbknnaa.OpensOwnedCuts
open Go Go.RowKit Go.Proofs.Ytinjajpnbbknnaa.Opens Go.Proofs.Ytinjajpnbbknnaa.Q Go.Proofs.YtinjajpnbbknnaaW.PrintWords
def wf40 (x : S40) : Prop := (x.f0.size ≤ 140737488351232) ∧ (x.f1.size ≤ 140737488351232) ∧ ((Lit.int .i64 x.f2).wf = true) ∧ ((Lit.int .i64 x.f3).wf = true) ∧ ((Lit.int .i64 x.f4).wf = true)
theorem op40 : Opens.Op Try.prog 40 k40 wf40 := op_imp (op_iso (fun x : S40 => (x.f0, x.f1, x.f2, x.f3, x.f4)) (fun p => ⟨p.1, p.2.1, p.2.2.1, p.2.2.2.1, p.2.2.2.2⟩) (fun _ => rfl) (op_struct Try.underlying40 (by kernel_rfl) (opF_cons rfl (by kernel_rfl) (op_string Try.underlying9) (opF_cons rfl (by kernel_rfl) (op_string Try.underlying9) (opF_cons rfl (by kernel_rfl) (op_int Try.underlying2) (opF_cons rfl (by kernel_rfl) (op_int Try.underlying2) (opF_one rfl (by kernel_rfl) (op_int Try.underlying2)))))))) (fun _ h => h)
def wf59 (x : S59) : Prop := (x.f0.size ≤ 140737488351232) ∧ ((Lit.int .i64 x.f1).wf = true)
theorem op59 : Opens.Op Try.prog 59 k59 wf59 := op_imp (op_iso (fun x : S59 => (x.f0, x.f1)) (fun p => ⟨p.1, p.2⟩) (fun _ => rfl) (op_struct Try.underlying59 (by kernel_rfl) (opF_cons rfl (by kernel_rfl) (op_string Try.underlying9) (opF_one rfl (by kernel_rfl) (op_int Try.underlying2))))) (fun _ h => h)
structure S34 where
  f0 : (List S40)
  f1 : (List S59)
def k34 : Kd S34 := Kd.iso (Kd.pair (Kd.slice 40 k40) (Kd.slice 59 k59)) (fun x : S34 => (x.f0, x.f1))
theorem k34_open {w : World} {x : S34} {cs : List Value} (h : k34.K w x cs) : ∃ (A0 : Option Addr) (c0 : Nat), ∃ (A1 : Option Addr) (c1 : Nat), cs = [.slice A0 x.f0.length c0, .slice A1 x.f1.length c1] ∧ x.f0.length ≤ c0 ∧ Kd.C k40 w A0 x.f0.length x.f0 ∧ x.f1.length ≤ c1 ∧ Kd.C k59 w A1 x.f1.length x.f1 := by
  simp only [k34, Kd.iso, Kd.pair] at h
  obtain ⟨e0, r0, rfl, g0, h0⟩ := h
  obtain ⟨A0, c0, rfl, hc0, hr0⟩ := g0
  obtain ⟨A1, c1, rfl, hc1, hr1⟩ := h0
  exact ⟨A0, c0, A1, c1, rfl, hc0, hr0, hc1, hr1⟩
def wf34 (x : S34) : Prop := (x.f0.length ≤ 9223372036854775807 ∧ x.f0.length * 56 ≤ 140737488351232 ∧ ∀ y ∈ x.f0, wf40 y) ∧ (x.f1.length ≤ 9223372036854775807 ∧ x.f1.length * 24 ≤ 140737488351232 ∧ ∀ y ∈ x.f1, wf59 y)
theorem op34 : Opens.Op Try.prog 34 k34 wf34 := op_imp (op_iso (fun x : S34 => (x.f0, x.f1)) (fun p => ⟨p.1, p.2⟩) (fun _ => rfl) (op_struct Try.underlying34 (by kernel_rfl) (opF_cons rfl (by kernel_rfl) (op_slice 40 Try.underlying31 (by kernel_rfl) (by kernel_rfl) op40) (opF_one rfl (by kernel_rfl) (op_slice 59 Try.underlying32 (by kernel_rfl) (by kernel_rfl) op59))))) (fun _ h => h)
def wf45 (x : S45) : Prop := (x.f0.size ≤ 140737488351232) ∧ ((Lit.int .i64 x.f1).wf = true) ∧ ((Lit.int .i64 x.f2).wf = true)
theorem op45 : Opens.Op Try.prog 45 k45 wf45 := op_imp (op_iso (fun x : S45 => (x.f0, x.f1, x.f2)) (fun p => ⟨p.1, p.2.1, p.2.2⟩) (fun _ => rfl) (op_struct Try.underlying45 (by kernel_rfl) (opF_cons rfl (by kernel_rfl) (op_string Try.underlying9) (opF_cons rfl (by kernel_rfl) (op_int Try.underlying2) (opF_one rfl (by kernel_rfl) (op_int Try.underlying3)))))) (fun _ h => h)
theorem opArg0 : Opens.Op Try.prog 34 k34 (fun x => wf34 x) := op34
theorem opArg1 : Opens.Op Try.prog 22 (Kd.slice 45 k45) (fun x => x.length ≤ 9223372036854775807 ∧ x.length * 32 ≤ 140737488351232 ∧ ∀ y ∈ x, wf45 y) := (op_slice 45 Try.underlying22 (by kernel_rfl) (by kernel_rfl) op45)
/-- THE ONE PURE STATEMENT. -/
def Pure : Prop := ∀ (a0 : S34) (l1 : (List S45)) (a2 : ByteArray), (wf34 a0) → (l1.length ≤ 9223372036854775807 ∧ l1.length * 32 ≤ 140737488351232 ∧ ∀ y ∈ l1, wf45 y) → (a2.size ≤ 140737488351232) → ∃ k, cantonlaw11_OwnedCuts.f k a0.f0 a0.f1 l1 a2 = some true
end Go.Proofs.Ytinjajpnbbknnaa.OpensOwnedCuts
