/- ViewsFew, without memory: the walk shows it true wherever its arguments are of their kinds. -/
import Derived.Test.YtndnjmgmdkkifaaAskViewsFew
namespace Go.Proofs.Ytndnjmgmdkkifaa.Pure
open Go Go.RowKit Go.Proofs.Ytndnjmgmdkkifaa.Vw1 Go.Proofs.Ytndnjmgmdkkifaa.Q Go.Proofs.Ytndnjmgmdkkifaa.OpensViewsFew

theorem u8_range {y : Int} (h : (Lit.int .u8 y).wf = true) : 0 ≤ y ∧ y ≤ 255 := by
  simp only [Lit.wf, Bool.and_eq_true, decide_eq_true_eq] at h
  exact ⟨h.1, h.2⟩
theorem ViewsFew : OpensViewsFew.Pure := by
  intro a0 l1 a2 h0 h1 h2
  obtain ⟨_, hz1, hw⟩ := h1
  unfold cantonlaw16_ViewsFew.f
  rw [if_pos ⟨⟨(u8_range h0).1, (u8_range h0).2, (u8_range h2).1, (u8_range h2).2⟩, by omega, fun y hy => u8_range (hw y hy)⟩]
end Go.Proofs.Ytndnjmgmdkkifaa.Pure
