/- OwnedTells, without memory: what the program tells of any ranges is what the document does. -/
import Derived.Test.YtinjajpnbbknnaaAskOwnedTells
import Derived.Test.YtinjajpnbbknnaaRng2
namespace Go.Proofs.Ytinjajpnbbknnaa.Pure
open Go Go.RowKit Go.Proofs.Ytinjajpnbbknnaa.Q Go.Proofs.Ytinjajpnbbknnaa.PathF Go.Proofs.Ytinjajpnbbknnaa.Rng Go.Proofs.YtinjajpnbbknnaaW.PrintWords Go.Proofs.YtinjajpnbbknnaaW.PrintLast Go.Proofs.Ytinjajpnbbknnaa.OpensOwnedTells

theorem OwnedTells : OpensOwnedTells.Pure := by
  intro l p e hl hp he
  obtain ⟨hl, hl40, hw⟩ := hl
  refine ⟨(2 * l.length + 200000) + 1, ?_⟩
  obtain ⟨K, hK⟩ : ∃ K, K = 2 * l.length + 200000 := ⟨_, rfl⟩
  rw [← hK]
  unfold cantonlaw11_OwnedTells.f
  rw [head_is _ (by omega), Option.bind_some]
  obtain ⟨b, hb, hsz⟩ := great_is l (by omega) (fun x hx => by have := (hw x hx).1; omega) (K + 1) (by omega)
  rw [hb, Option.bind_some]
  have stop : cantonlaw11_OwnedTells.j0 (K + 1) l p e true true = some true := by rw [cantonlaw11_OwnedTells.j0, if_pos rfl]
  by_cases c1 : b = true
  · rw [if_pos c1, stop]
  · rw [if_neg c1]
    have hs := hsz (by simpa using c1)
    have hs1 : ∀ x ∈ l, x.f0.size ≤ 10000 := fun x hx => by have := hs.2 x hx; omega
    by_cases c2 : (p.size : Int) > 3000
    · rw [decide_eq_true c2, stop]
    · rw [decide_eq_false c2, cantonlaw11_OwnedTells.j0, if_neg (by simp)]
      rw [freeze_is l (by omega) p K (by omega), Option.bind_some, ref_freeze l hs1 (by omega) p (by omega) K (by omega), Option.bind_some]
      rw [install_is l (by omega) p e K (by omega), Option.bind_some, ref_install l hs1 (by omega) p (by omega) K (by omega) e, Option.bind_some]
      rw [drop_is l (by omega) p e K (by omega), Option.bind_some, ref_drop l hs1 (by omega) p (by omega) K (by omega) e, Option.bind_some]
      rw [if_pos rfl, right_is l (by omega) K (by omega), Option.bind_some, ref_right_l l hs1 K (by omega), Option.bind_some, if_pos (by simp)]
      obtain ⟨y, hy, hfy⟩ := of_is l p (by omega) K (by omega)
      obtain ⟨z, hz, hfz⟩ := ref_of l hs1 p (by omega) K (by omega)
      have hyz : y = z := by
        by_cases c3 : RightB l = true
        · exact rel_eq ((right_iff l).1 c3).up hy hz
        · have hn : ofR l p = none := by unfold ofR; rw [if_neg c3]
          rw [hn] at hy hz
          rcases hy with ⟨rfl, _⟩ | ⟨_, _, _, h⟩
          · rcases hz with ⟨rfl, _⟩ | ⟨_, _, _, h⟩
            · rfl
            · cases h
          · cases h
      rw [hfy, Option.bind_some, hfz, Option.bind_some, if_pos hyz, state_is l (by omega) p K (by omega), Option.bind_some, ref_state l hs1 (by omega) p (by omega) K (by omega), Option.bind_some, if_pos rfl]
      have hlen : ∀ x : S, (putR l x).1.length ≤ l.length + 1 := fun x => by
        have hput : ∀ l : List S, (putL x l).length ≤ l.length + 1 := by
          intro l
          induction l with
          | nil => simp [putL]
          | cons y r ih =>
            rw [putL]
            by_cases c : lessB y.f0 x.f0 = true
            · rw [if_pos c]; simp; exact ih
            · rw [if_neg c]
              by_cases c' : y.f0 = x.f0
              · rw [if_pos c']; simp
              · rw [if_neg c']; simp
        unfold putR
        by_cases c : (getO l x.f0).isNone = true ∧ l.length = 32
        · rw [if_pos c]; simp
        · rw [if_neg c]; exact hput l
      have h1 : (frzR l p).1.length ≤ l.length + 1 := by
        unfold frzR
        cases ofR l p with
        | none => simp
        | some s =>
          dsimp only
          by_cases c : s.f2 = 1
          · rw [if_pos c]; exact hlen _
          · rw [if_neg c]; simp
      have h2 : (insR l p e).1.length ≤ l.length + 1 := by
        unfold insR
        split
        · cases getO l p with
          | none => exact hlen _
          | some s =>
            dsimp only
            by_cases c : s.f1 ≥ e
            · rw [if_pos c]; simp
            · rw [if_neg c]; exact hlen _
        · simp
      have h3 : (drpR l p e).1.length ≤ l.length + 1 := by
        unfold drpR
        split
        · cases getO l p with
          | none => simp
          | some s =>
            dsimp only
            by_cases c : s.f2 = 2 ∧ s.f1 = e
            · rw [if_pos c]; exact hlen _
            · rw [if_neg c]; simp
        · simp
      rw [same_self _ (by omega) K (by omega), Option.bind_some, if_pos rfl, if_pos (by simp), same_self _ (by omega) K (by omega), Option.bind_some, if_pos rfl, if_pos (by simp), same_self _ (by omega) K (by omega), Option.bind_some, if_pos rfl]
      simp
end Go.Proofs.Ytinjajpnbbknnaa.Pure
