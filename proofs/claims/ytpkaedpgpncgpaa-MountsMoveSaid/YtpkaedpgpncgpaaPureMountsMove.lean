/- MountsMove, without memory: the walk shows it true wherever its arguments are of their kinds. -/
import Derived.Test.YtpkaedpgpncgpaaAskMountsMove
namespace Go.Proofs.Ytpkaedpgpncgpaa.Pure
open Go Go.RowKit Go.Proofs.Ytpkaedpgpncgpaa.Q Go.Proofs.Ytpkaedpgpncgpaa.MMove Go.Proofs.Ytpkaedpgpncgpaa.OpensMountsMove

theorem MountsMove : OpensMountsMove.Pure := by
  intro l p ways hl _ hw
  obtain ⟨_, hl40, hlw⟩ := hl
  obtain ⟨_, _, hww⟩ := hw
  have h1 : ∀ x ∈ ways, 0 ≤ x ∧ x ≤ 255 := fun x hx => by
    have h : IntKind.u8.min ≤ x ∧ x ≤ IntKind.u8.max := by simpa [Lit.wf] using hww x hx
    exact h
  unfold cantonlaw14_MountsMove.f
  rw [if_pos ⟨h1, fun y hy => (hlw y hy).1, by omega⟩]
end Go.Proofs.Ytpkaedpgpncgpaa.Pure
