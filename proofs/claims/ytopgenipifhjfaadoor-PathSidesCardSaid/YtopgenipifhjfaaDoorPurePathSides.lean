/- PathSides, told of the printed function: with unlike parts behind one path neither lies in the other. -/
import Derived.Test.YtopgenipifhjfaaDoorPath1
import Derived.Test.YtopgenipifhjfaaDoorQx8
namespace Go.Proofs.YtopgenipifhjfaaDoor.Pure
open Go Go.RowKit Go.Proofs.YtopgenipifhjfaaDoor.Rune Go.Proofs.YtopgenipifhjfaaDoor.Split Go.Proofs.YtopgenipifhjfaaDoor.PathT Go.Proofs.YtopgenipifhjfaaDoor.PathF Go.Proofs.YtopgenipifhjfaaDoor.Q Go.Proofs.YtopgenipifhjfaaDoorW.PrintWords Go.Proofs.YtopgenipifhjfaaDoorW.PrintLast

theorem sides1 (k : Nat) (hk : 102 ≤ k) (p a b x y : ByteArray) (i j : Bool) (hx : path_Join.f p a = some (x, i)) (hy : path_Join.f p b = some (y, j)) :
    cantonlaw01_PathSides.j1 k p a b true x y (!i || !j) = some true := by
  obtain ⟨k, rfl⟩ : ∃ m, k = m + 1 := ⟨k - 1, by omega⟩
  rw [cantonlaw01_PathSides.j1]
  rcases join_cases p a with h | ⟨ls, h1, h2, h3, h⟩
  · rw [h] at hx
    cases hx
    rw [if_pos (by simp), if_pos rfl, if_pos (by rw [toL]; rfl)]
  · rcases join_cases p b with g | ⟨ms, g1, g2, g3, g⟩
    · rw [g] at hy
      cases hy
      rw [if_pos (by simp), if_pos rfl]
      split
      · rfl
      · rw [toL]; rfl
    · have e := text_inj h1 g1 (h3.symm.trans g3)
      subst e
      rw [h] at hx
      rw [g] at hy
      cases hx
      cases hy
      rw [if_neg (by simp), if_pos rfl, in_some (p := B (text (ls ++ [L a]))) h2 rfl h1 h3 k (by omega), Option.bind_some, if_pos (by simp),
        in_some (p := B (text (ls ++ [L b]))) g2 rfl h1 h3 k (by omega), Option.bind_some, if_pos (by simp),
        in_some (p := B (text (ls ++ [L a]))) (q := B (text (ls ++ [L b]))) h2 rfl g2 rfl k (by omega), Option.bind_some,
        if_pos (by
          rw [toL, toL, beq_iff_eq]
          by_cases hab : L a = L b
          · rw [hab]; simp
          · have h4 : (L a == L b) = false := by simpa using hab
            rw [h4, decide_eq_false_iff_not]
            intro hp
            have h5 := hp.eq_of_length (by simp)
            have h6 := List.append_cancel_left h5
            simp at h6
            exact hab h6.symm),
        in_some h1 h3 (q := B (text (ls ++ [L a]))) h2 rfl k (by omega), Option.bind_some]
      have : decide (ls ++ [L a] <+: ls) = false := by
        apply decide_eq_false
        intro hx
        have := hx.length_le
        simp at this
        omega
      rw [this]; rfl
theorem sides0 (k : Nat) (hk : 103 ≤ k) (p a b : ByteArray) (c : Bool) : cantonlaw01_PathSides.j0 k p a b true c = some true := by
  obtain ⟨k, rfl⟩ : ∃ m, k = m + 1 := ⟨k - 1, by omega⟩
  rw [cantonlaw01_PathSides.j0]
  cases c with
  | true => rw [if_pos rfl]
  | false =>
    rw [if_neg (by simp)]
    obtain ⟨x, i, hx⟩ : ∃ x i, path_Join.f p a = some (x, i) := by
      rcases join_cases p a with h | ⟨ls, _, _, _, h⟩
      · exact ⟨_, _, h⟩
      · exact ⟨_, _, h⟩
    obtain ⟨y, j, hy⟩ : ∃ x i, path_Join.f p b = some (x, i) := by
      rcases join_cases p b with h | ⟨ls, _, _, _, h⟩
      · exact ⟨_, _, h⟩
      · exact ⟨_, _, h⟩
    have key := sides1 k (by omega) p a b x y i j hx hy
    rw [hx, Option.bind_some, hy, Option.bind_some]
    cases i with
    | true => rw [if_pos rfl]; simpa using key
    | false => rw [if_neg (by simp)]; simpa using key
theorem PathSides : cantonlaw01_PathSides.Pure := by
  intro p a b _ _ _
  refine ⟨103, ?_⟩
  unfold cantonlaw01_PathSides.f
  rw [head_true 103 (by omega), Option.bind_some]
  split
  · exact sides0 103 (by omega) ..
  · split
    · exact sides0 103 (by omega) ..
    · exact sides0 103 (by omega) ..
end Go.Proofs.YtopgenipifhjfaaDoor.Pure
