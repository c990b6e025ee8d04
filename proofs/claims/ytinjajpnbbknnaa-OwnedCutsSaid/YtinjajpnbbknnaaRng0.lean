/- Ranges: what the document's answers cantonref11.Right, Of, Find and Put answer, of lists alone. -/
import Derived.Test.YtinjajpnbbknnaaRngA
import Derived.Test.YtinjajpnbbknnaaPathR
import Derived.Test.YtinjajpnbbknnaaQx10
import Derived.Test.YtinjajpnbbknnaaQx12
namespace Go.Proofs.Ytinjajpnbbknnaa.Rng
open Go Go.RowKit Go.Proofs.Ytinjajpnbbknnaa.Rune Go.Proofs.Ytinjajpnbbknnaa.Split Go.Proofs.Ytinjajpnbbknnaa.PathT Go.Proofs.Ytinjajpnbbknnaa.PathF Go.Proofs.Ytinjajpnbbknnaa.Q Go.Proofs.Ytinjajpnbbknnaa.FRange Go.Proofs.Ytinjajpnbbknnaa.RPut Go.Proofs.YtinjajpnbbknnaaW.PrintWords Go.Proofs.YtinjajpnbbknnaaW.PrintLast Go.Proofs.YtinjajpnbbknnaaW.PrintMore

theorem refr_loop (l : List S) (hl : l.length ≤ 100) (hs : ∀ x ∈ l, x.f0.size ≤ 10000) : ∀ (post pre : List S) (k : Nat), l = pre ++ post → post.length + 50001 < k →
    cantonref11_Right.l0 k l (pre.length : Int) = some (okFrom pre.getLast? post)
  | post, pre, 0, _, h => absurd h (by omega)
  | [], pre, k + 1, he, _ => by
    rw [List.append_nil] at he
    subst he
    rw [cantonref11_Right.l0, if_neg (by omega)]
    cases l.getLast? <;> rfl
  | x :: r, pre, k + 1, he, hk => by
    have hlen : l.length = pre.length + (r.length + 1) := by rw [he]; simp
    have hx : rd l (pre.length : Int) = x := by rw [he]; exact rd_mid pre r x
    have ih := refr_loop l hl hs r (pre ++ [x]) k (by rw [he]; simp) (by simp at hk; omega)
    rw [List.length_append, List.length_singleton, show (pre ++ [x]).getLast? = some x by simp] at ih
    have hw : wrap64 ((pre.length : Int) + 1) = ((pre.length + 1 : Nat) : Int) := by rw [w64 (by omega) (by omega)]; omega
    have hsx : x.f0.size ≤ 10000 := hs x (by rw [he]; simp)
    simp only [List.length_cons] at hk
    rw [cantonref11_Right.l0, if_pos (by omega), if_pos (by omega)]
    simp only [show rd_T45 l (pre.length : Int) = x from hx, ref_right_is x.f0 hsx k (by omega), Option.bind_some, hw, ih]
    have hcons : okFrom pre.getLast? (x :: r) = (okE x && ((match pre.getLast? with | none => true | some p => lessB p.f0 x.f0) && okFrom (some x) r)) := by
      cases pre.getLast? <;> simp [okFrom]
    rw [hcons]
    unfold okE
    by_cases h1 : isP x.f0 = true
    · rw [if_pos h1, h1]
      by_cases h4 : x.f1 < 0
      · rw [if_pos h4, decide_eq_false (show ¬ 0 ≤ x.f1 by omega)]; rfl
      · rw [if_neg h4, decide_eq_true (show 0 ≤ x.f1 by omega)]
        by_cases h5 : x.f1 > 281474976710656
        · rw [if_pos h5, decide_eq_false (show ¬ x.f1 ≤ 281474976710656 by omega)]; rfl
        · rw [if_neg h5, decide_eq_true (show x.f1 ≤ 281474976710656 by omega)]
          by_cases h8 : x.f2 < 1
          · rw [if_pos h8, decide_eq_false (show ¬ 1 ≤ x.f2 by omega)]; rfl
          · rw [if_neg h8, decide_eq_true (show 1 ≤ x.f2 by omega)]
            by_cases h9 : x.f2 > 3
            · rw [if_pos h9, decide_eq_false (show ¬ x.f2 ≤ 3 by omega)]; rfl
            · rw [if_neg h9, decide_eq_true (show x.f2 ≤ 3 by omega)]
              by_cases h6 : (pre.length : Int) > 0
              · have hne : pre ≠ [] := fun e => by rw [e] at h6; simp at h6
                obtain ⟨y, hy, hyr⟩ := last_get pre hne (x :: r)
                rw [← he] at hyr
                have hw2 : wrap64 ((pre.length : Int) - 1) = (pre.length : Int) - 1 := w64 (by omega) (by omega)
                rw [if_pos h6, hw2, if_pos (by omega), if_pos (by omega), show rd_T45 l ((pre.length : Int) - 1) = y from hyr, hy]
                show (if lessB y.f0 x.f0 = true then _ else _) = _
                by_cases h7 : lessB y.f0 x.f0 = true
                · rw [if_pos h7]; simp [h7]
                · rw [if_neg h7]; simp [h7]
              · have hne : pre = [] := by
                  cases pre with
                  | nil => rfl
                  | cons a b => simp at h6
                rw [if_neg h6, hne]
                first | rfl | simp
    · rw [if_neg h1]
      simp only [Bool.not_eq_true] at h1
      rw [h1]; rfl
theorem ref_right_l (l : List S) (hs : ∀ x ∈ l, x.f0.size ≤ 10000) (k : Nat) (hk : 60000 ≤ k) : cantonref11_Right.f k l = some (RightB l) := by
  unfold cantonref11_Right.f RightB
  by_cases h2 : (l.length : Int) > 32
  · rw [if_pos h2, decide_eq_false (show ¬ l.length ≤ 32 by omega), Bool.and_false]
  · rw [if_neg h2, decide_eq_true (show l.length ≤ 32 by omega), Bool.and_true]
    exact refr_loop l (by omega) hs l [] k rfl (by omega)

theorem refof_loop (l : List S) (d : ByteArray) (hl : l.length ≤ 100) (hs : ∀ x ∈ l, x.f0.size ≤ 10000) (hd : d.size ≤ 10000) : ∀ (post pre : List S) (k : Nat) (z : Int) (o : Option S), l = pre ++ post → post.length + 50001 < k → Rel l z o →
    ∃ y : Int, Rel l y (post.foldl (stepO d) o) ∧ cantonref11_Of.l0 k l d z (pre.length : Int) = some y
  | post, pre, 0, z, o, _, h, _ => absurd h (by omega)
  | [], pre, k + 1, z, o, he, hk, hR => by
    rw [List.append_nil] at he
    subst he
    exact ⟨z, hR, by rw [cantonref11_Of.l0, if_neg (by omega)]⟩
  | x :: r, pre, k + 1, z, o, he, hk, hR => by
    have hlen : l.length = pre.length + (r.length + 1) := by rw [he]; simp
    have hx : rd l (pre.length : Int) = x := by rw [he]; exact rd_mid pre r x
    have hw : wrap64 ((pre.length : Int) + 1) = (((pre ++ [x]).length : Nat) : Int) := by rw [w64 (by omega) (by omega)]; simp
    simp only [List.length_cons] at hk
    have go := fun z o hR => refof_loop l d hl hs hd r (pre ++ [x]) k z o (by rw [he]; simp) (by omega) hR
    have hnew : Rel l (pre.length : Int) (some x) := .inr ⟨pre.length, rfl, by omega, by rw [hx]⟩
    have hsx : x.f0.size ≤ 10000 := hs x (by rw [he]; simp)
    rw [cantonref11_Of.l0, if_pos (by omega), if_pos (by omega)]
    simp only [hw, show rd_T45 l (pre.length : Int) = x from hx, ref_in_is d x.f0 hd hsx k (by omega), Option.bind_some]
    rw [List.foldl_cons]
    unfold stepO
    by_cases h1 : inP d x.f0 = true
    · rw [if_pos h1, if_pos h1]
      rcases hR with ⟨rfl, rfl⟩ | ⟨a, rfl, ha, rfl⟩
      · rw [if_pos (by omega)]
        exact go _ _ hnew
      · rw [if_neg (by omega), if_pos (by omega), if_pos (by omega)]
        show ∃ y, Rel l y (r.foldl (stepO d) (if (rd l (a : Int)).f0.size < x.f0.size then some x else some (rd l (a : Int)))) ∧ (if (x.f0.size : Int) > ((rd l (a : Int)).f0.size : Int) then _ else _) = _
        by_cases h5 : (rd l (a : Int)).f0.size < x.f0.size
        · rw [if_pos h5, if_pos (by omega)]
          exact go _ _ hnew
        · rw [if_neg h5, if_neg (by omega)]
          exact go _ _ (.inr ⟨a, rfl, ha, rfl⟩)
    · rw [if_neg h1, if_neg h1]
      exact go _ _ hR
theorem ref_of (l : List S) (hs : ∀ x ∈ l, x.f0.size ≤ 10000) (d : ByteArray) (hd : d.size ≤ 10000) (k : Nat) (hk : 60000 ≤ k) : ∃ y : Int, Rel l y (ofR l d) ∧ cantonref11_Of.f k l d = some y := by
  unfold cantonref11_Of.f ofR
  rw [ref_right_l l hs k hk, Option.bind_some]
  by_cases c : RightB l = true
  · rw [if_pos c, if_pos c]
    exact refof_loop l d (by have := ((right_iff l).1 c).few; omega) hs hd l [] k (-1) none rfl (by have := ((right_iff l).1 c).few; omega) (.inl ⟨rfl, rfl⟩)
  · rw [if_neg c, if_neg c]
    exact ⟨-1, .inl ⟨rfl, rfl⟩, rfl⟩
end Go.Proofs.Ytinjajpnbbknnaa.Rng
