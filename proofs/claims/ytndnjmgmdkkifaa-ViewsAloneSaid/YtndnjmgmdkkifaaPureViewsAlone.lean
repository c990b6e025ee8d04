/- ViewsAlone, without memory: the walk shows it true wherever its arguments are of their kinds. -/
import Derived.Test.YtndnjmgmdkkifaaAskViewsAlone
namespace Go.Proofs.Ytndnjmgmdkkifaa.Pure
open Go Go.RowKit Go.Proofs.Ytndnjmgmdkkifaa.Vw1 Go.Proofs.Ytndnjmgmdkkifaa.Q Go.Proofs.Ytndnjmgmdkkifaa.OpensViewsAlone

theorem u8_range {y : Int} (h : (Lit.int .u8 y).wf = true) : 0 ≤ y ∧ y ≤ 255 := by
  simp only [Lit.wf, Bool.and_eq_true, decide_eq_true_eq] at h
  exact ⟨h.1, h.2⟩
theorem ViewsAlone : OpensViewsAlone.Pure := by
  intro l0 l1 h0 h1
  obtain ⟨_, hz0, hw0⟩ := h0
  obtain ⟨_, hz1, hw1⟩ := h1
  unfold cantonlaw16_ViewsAlone.f
  rw [if_pos ⟨⟨by omega, fun y hy => by have := hw0 y hy; omega⟩, by omega, fun y hy => u8_range (hw1 y hy)⟩]
end Go.Proofs.Ytndnjmgmdkkifaa.Pure
