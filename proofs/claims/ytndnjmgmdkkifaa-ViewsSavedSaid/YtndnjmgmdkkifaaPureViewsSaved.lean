/- ViewsSaved, without memory: the walk shows it true wherever its arguments are of their kinds. -/
import Derived.Test.YtndnjmgmdkkifaaAskViewsSaved
namespace Go.Proofs.Ytndnjmgmdkkifaa.Pure
open Go Go.RowKit Go.Proofs.Ytndnjmgmdkkifaa.Vw1 Go.Proofs.Ytndnjmgmdkkifaa.Q Go.Proofs.Ytndnjmgmdkkifaa.OpensViewsSaved

theorem ViewsSaved : OpensViewsSaved.Pure := by
  intro a0 a1 a2 l3 h0 h1 h2 h3
  obtain ⟨_, _, _, hz2, _⟩ := h2
  obtain ⟨_, hz3, hw⟩ := h3
  have key : ∀ o ∈ l3, o.f3.f5.length ≤ 100000000000000 ∧ o.f1.size ≤ 140737488351232 := fun o ho => by
    have hw := hw o ho
    obtain ⟨_, hs, _, _, _, _, _, _, ⟨_, hl, _⟩, _⟩ := hw
    exact ⟨by omega, hs⟩
  unfold cantonlaw16_ViewsSaved.f
  rw [if_pos ⟨by omega, by omega, key⟩]
end Go.Proofs.Ytndnjmgmdkkifaa.Pure
