/- ViewsOld, without memory: the walk shows it true wherever its arguments are of their kinds. -/
import Derived.Test.YtndnjmgmdkkifaaAskViewsOld
namespace Go.Proofs.Ytndnjmgmdkkifaa.Pure
open Go Go.RowKit Go.Proofs.Ytndnjmgmdkkifaa.Vw1 Go.Proofs.Ytndnjmgmdkkifaa.OpensViewsOld

theorem ViewsOld : OpensViewsOld.Pure := by
  intro a0 a1 a2 a3 a4 h0 h1 h2 h3 h4
  obtain ⟨_, _, _, hz2, _⟩ := h2
  obtain ⟨_, _, _, _, _, ⟨_, hz4, _⟩, _, _⟩ := h4
  unfold cantonlaw16_ViewsOld.f
  rw [if_pos ⟨by omega, by omega⟩]
end Go.Proofs.Ytndnjmgmdkkifaa.Pure
