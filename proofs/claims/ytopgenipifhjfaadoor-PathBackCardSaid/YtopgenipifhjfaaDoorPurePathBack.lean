/- PathBack, told of the printed function: a path is its parent joined with its last part. -/
import Derived.Test.YtopgenipifhjfaaDoorPath1
import Derived.Test.YtopgenipifhjfaaDoorQx6
namespace Go.Proofs.YtopgenipifhjfaaDoor.Pure
open Go Go.RowKit Go.Proofs.YtopgenipifhjfaaDoor.Rune Go.Proofs.YtopgenipifhjfaaDoor.Split Go.Proofs.YtopgenipifhjfaaDoor.PathT Go.Proofs.YtopgenipifhjfaaDoor.PathF Go.Proofs.YtopgenipifhjfaaDoor.Q Go.Proofs.YtopgenipifhjfaaDoorW.PrintWords Go.Proofs.YtopgenipifhjfaaDoorW.PrintLast

theorem back1 (k : Nat) (hk : 101 ≤ k) (p a : ByteArray) : cantonlaw01_PathBack.j1 k p a true = some true := by
  obtain ⟨k, rfl⟩ : ∃ m, k = m + 1 := ⟨k - 1, by omega⟩
  rw [cantonlaw01_PathBack.j1]
  rcases join_cases p a with h | ⟨ls, h1, h2, h3, h⟩
  · rw [h, Option.bind_some, if_neg (by simp), if_pos rfl, toL]
    rfl
  · obtain ⟨p1, p2⟩ := parent_some (p := B (text (ls ++ [L a]))) h2 rfl k (by omega)
    rw [h, Option.bind_some, if_pos rfl, p1, Option.bind_some, if_pos rfl, if_pos rfl, if_pos (by rw [toL, toL, h3]; rfl), p2, Option.bind_some, if_pos (by rw [toL, toL]; rfl),
      right_some (p := B (text (ls ++ [L a]))) h2 rfl, Option.bind_some]
theorem back0 (k : Nat) (hk : 102 ≤ k) (p a : ByteArray) : cantonlaw01_PathBack.j0 k p a true false = some true := by
  obtain ⟨k, rfl⟩ : ∃ m, k = m + 1 := ⟨k - 1, by omega⟩
  rw [cantonlaw01_PathBack.j0, if_neg (by simp)]
  have hb := back1 k (by omega) p a
  rcases path_cases p with h | ⟨ls, h, hp⟩
  · obtain ⟨p1, p2⟩ := parent_none k h
    have hne : (p.toList == [47]) = false := by
      rw [beq_eq_false_iff_ne, toL]
      intro e
      rw [e] at h
      exact absurd h (by rw [show ([47] : List UInt8) = text [] from rfl, split_text ⟨by simp, by simp⟩]; simp)
    rw [p1, Option.bind_some, if_neg (by simp), right_none h, Option.bind_some, hne, if_neg (by simp), p2, Option.bind_some, if_pos (by rw [toL]; rfl), if_pos (by rw [toL]; rfl), hb]
  · rcases snoc_cases ls with rfl | ⟨init, s, rfl⟩
    · obtain ⟨p1, p2⟩ := parent_root k hp
      have hne : (p.toList == [47]) = true := by rw [beq_iff_eq, toL, hp]; rfl
      rw [p1, Option.bind_some, if_neg (by simp), right_some h hp, Option.bind_some, hne, if_neg (by simp), p2, Option.bind_some, if_pos (by rw [toL]; rfl), if_pos (by rw [toL]; rfl), hb]
    · obtain ⟨p1, p2⟩ := parent_some h hp k (by omega)
      have h6 : init.length < 6 := by have := h.1; simp at this; omega
      have hj := join_some (p := B (text init)) (a := B s) (ls := init) h.left rfl (h.2 s (by simp)) h6
      rw [p1, Option.bind_some, if_pos rfl, p2, Option.bind_some, hj, Option.bind_some, right_some h hp, Option.bind_some, if_pos rfl, if_pos rfl, if_pos (by rw [toL, toL, hp]; rfl), hb]
theorem PathBack : cantonlaw01_PathBack.Pure := by
  intro p a _ _
  refine ⟨103, ?_⟩
  unfold cantonlaw01_PathBack.f
  rw [head_true 103 (by omega), Option.bind_some]
  have key : ∀ b, cantonlaw01_PathBack.j0 103 p a true b = some true := by
    intro b
    cases b with
    | false => exact back0 103 (by omega) p a
    | true => rw [cantonlaw01_PathBack.j0, if_pos rfl]
  split
  · exact key _
  · exact key _
end Go.Proofs.YtopgenipifhjfaaDoor.Pure
