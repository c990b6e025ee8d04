/- Mounts: what the document's answers cantonref14.Right, Of, Find and Same answer, and what is not too great. -/
import Derived.Test.YtpkaedpgpncgpaaMnt0
import Derived.Test.YtpkaedpgpncgpaaPathR
import Derived.Test.YtpkaedpgpncgpaaQx6
import Derived.Test.YtpkaedpgpncgpaaQx8
import Derived.Test.YtpkaedpgpncgpaaQx10
namespace Go.Proofs.Ytpkaedpgpncgpaa.Mnt
open Go Go.RowKit Go.Proofs.Ytpkaedpgpncgpaa.Rune Go.Proofs.Ytpkaedpgpncgpaa.Split Go.Proofs.Ytpkaedpgpncgpaa.PathT Go.Proofs.Ytpkaedpgpncgpaa.PathF Go.Proofs.Ytpkaedpgpncgpaa.Q Go.Proofs.YtpkaedpgpncgpaaW.PrintWords Go.Proofs.YtpkaedpgpncgpaaW.PrintLast Go.Proofs.YtpkaedpgpncgpaaW.PrintMore

theorem great_loop (l : List S) (hl : l.length ≤ 9223372036854775000) (hs : ∀ x ∈ l, x.f0.size ≤ 9223372036854775807) : ∀ (post pre : List S) (k : Nat) (n : Nat), l = pre ++ post → post.length < k → n ≤ 9223372036854770000 →
    ∃ b, cantonlaw14_great.l0 k l (n : Int) (pre.length : Int) = some b ∧ (b = false → n < 3000 ∧ ∀ x ∈ post, x.f0.size < 3000)
  | post, pre, 0, n, _, h, _ => absurd h (by omega)
  | [], pre, k + 1, n, he, _, hn => by
    rw [List.append_nil] at he
    subst he
    rw [cantonlaw14_great.l0, if_neg (by omega)]
    refine ⟨_, rfl, fun h => ⟨?_, fun x hx => by simp at hx⟩⟩
    simp at h
    omega
  | x :: r, pre, k + 1, n, he, hk, hn => by
    have hlen : l.length = pre.length + (r.length + 1) := by rw [he]; simp
    have hx : rd l (pre.length : Int) = x := by rw [he]; exact rd_mid pre r x
    rw [cantonlaw14_great.l0, if_pos (by omega)]
    by_cases h3 : (n : Int) < 3000
    · rw [if_pos h3, if_pos (by omega), show rd_T27 l (pre.length : Int) = x from hx]
      have hw : wrap64 ((pre.length : Int) + 1) = ((pre.length + 1 : Nat) : Int) := by rw [w64 (by omega) (by omega)]; omega
      obtain ⟨m, hm, hm2, hm3⟩ : ∃ m : Nat, wrap64 ((n : Int) + mn (x.f0.size : Int) 3000) = (m : Int) ∧ n + min x.f0.size 3000 = m ∧ m ≤ 6000 := by
        refine ⟨n + min x.f0.size 3000, ?_, rfl, by omega⟩
        rw [show mn (x.f0.size : Int) 3000 = ((min x.f0.size 3000 : Nat) : Int) by unfold mn; omega, w64 (by omega) (by omega)]
        omega
      rw [hm, hw]
      have ih := great_loop l hl hs r (pre ++ [x]) k m (by rw [he]; simp) (by simp at hk; omega) (by omega)
      rw [List.length_append, List.length_singleton] at ih
      obtain ⟨b, h4, h5⟩ := ih
      refine ⟨b, h4, fun hb => ?_⟩
      obtain ⟨h6, h7⟩ := h5 hb
      refine ⟨by omega, fun y hy => ?_⟩
      rcases List.mem_cons.1 hy with rfl | hy
      · omega
      · exact h7 y hy
    · rw [if_neg h3]
      refine ⟨_, rfl, fun h => ?_⟩
      simp at h
      omega
theorem great_is (l : List S) (hl : l.length ≤ 9223372036854770000) (hs : ∀ x ∈ l, x.f0.size ≤ 9223372036854775807) (k : Nat) (hk : l.length < k) :
    ∃ b, cantonlaw14_great.f k l = some b ∧ (b = false → l.length < 3000 ∧ ∀ x ∈ l, x.f0.size < 3000) := by
  unfold cantonlaw14_great.f
  obtain ⟨b, h1, h2⟩ := great_loop l (by omega) hs l [] k l.length rfl hk hl
  exact ⟨b, h1, h2⟩
theorem ref_group (x : Int) : cantonref14_group.f x = some (decide (0 ≤ x) && decide (x < 4)) := by
  unfold cantonref14_group.f
  by_cases h : x ≥ 0
  · rw [if_pos h, decide_eq_true h]; rfl
  · rw [if_neg h, decide_eq_false h]; rfl
theorem last_get' (pre : List S) (h : pre ≠ []) (post : List S) : ∃ y, pre.getLast? = some y ∧ rd (pre ++ post) ((pre.length : Int) - 1) = y := last_get pre h post
theorem refr_loop (l : List S) (hl : l.length ≤ 100) (hs : ∀ x ∈ l, x.f0.size ≤ 10000) : ∀ (post pre : List S) (k : Nat), l = pre ++ post → post.length + 50001 < k →
    cantonref14_Right.l0 k l (pre.length : Int) = some (okFrom pre.getLast? post)
  | post, pre, 0, _, h => absurd h (by omega)
  | [], pre, k + 1, he, _ => by
    rw [List.append_nil] at he
    subst he
    rw [cantonref14_Right.l0, if_neg (by omega)]
    cases l.getLast? <;> rfl
  | x :: r, pre, k + 1, he, hk => by
    have hlen : l.length = pre.length + (r.length + 1) := by rw [he]; simp
    have hx : rd l (pre.length : Int) = x := by rw [he]; exact rd_mid pre r x
    have ih := refr_loop l hl hs r (pre ++ [x]) k (by rw [he]; simp) (by simp at hk; omega)
    rw [List.length_append, List.length_singleton, show (pre ++ [x]).getLast? = some x by simp] at ih
    have hw : wrap64 ((pre.length : Int) + 1) = ((pre.length + 1 : Nat) : Int) := by rw [w64 (by omega) (by omega)]; omega
    have hsx : x.f0.size ≤ 10000 := hs x (by rw [he]; simp)
    simp only [List.length_cons] at hk
    rw [cantonref14_Right.l0, if_pos (by omega), if_pos (by omega)]
    simp only [show rd_T27 l (pre.length : Int) = x from hx, ref_right_is x.f0 hsx k (by omega), Option.bind_some, ref_group, hw, ih]
    have hcons : okFrom pre.getLast? (x :: r) = (okE x && ((match pre.getLast? with | none => true | some p => lessB p.f0 x.f0) && okFrom (some x) r)) := by
      cases pre.getLast? <;> simp [okFrom]
    rw [hcons]
    unfold okE
    by_cases h1 : isP x.f0 = true
    · rw [if_pos h1, h1]
      by_cases h2 : (decide (0 ≤ x.f1) && decide (x.f1 < 4)) = true
      · rw [if_pos h2]
        have h2' := h2
        simp only [Bool.and_eq_true] at h2'
        by_cases h3 : (decide (0 ≤ x.f3) && decide (x.f3 < 4)) = true
        · rw [if_pos h3]
          have h3' := h3
          simp only [Bool.and_eq_true] at h3'
          rw [h2'.1, h2'.2, h3'.1, h3'.2]
          by_cases h4 : x.f2 < 0
          · rw [if_pos h4, decide_eq_false (show ¬ 0 ≤ x.f2 by omega)]; rfl
          · rw [if_neg h4, decide_eq_true (show 0 ≤ x.f2 by omega)]
            by_cases h5 : x.f2 > 281474976710656
            · rw [if_pos h5, decide_eq_false (show ¬ x.f2 ≤ 281474976710656 by omega)]; rfl
            · rw [if_neg h5, decide_eq_true (show x.f2 ≤ 281474976710656 by omega)]
              by_cases h6 : (pre.length : Int) > 0
              · have hne : pre ≠ [] := fun e => by rw [e] at h6; simp at h6
                obtain ⟨y, hy, hyr⟩ := last_get pre hne (x :: r)
                rw [← he] at hyr
                have hw2 : wrap64 ((pre.length : Int) - 1) = (pre.length : Int) - 1 := w64 (by omega) (by omega)
                rw [if_pos h6, hw2, if_pos (by omega), if_pos (by omega), show rd_T27 l ((pre.length : Int) - 1) = y from hyr, hy]
                show (if lessB y.f0 x.f0 = true then _ else _) = _
                by_cases h7 : lessB y.f0 x.f0 = true
                · rw [if_pos h7]; simp [h7]
                · rw [if_neg h7]; simp [h7]
              · have hne : pre = [] := by
                  cases pre with
                  | nil => rfl
                  | cons a b => simp at h6
                rw [if_neg h6, hne]
                first | rfl | simp
        · rw [if_neg h3]
          have : (decide (0 ≤ x.f3) && (decide (x.f3 < 4) && (decide (0 ≤ x.f2) && decide (x.f2 ≤ 281474976710656)))) = false := by
            rw [← Bool.and_assoc]; simp only [Bool.not_eq_true] at h3; rw [h3]; rfl
          rw [this]; simp
      · rw [if_neg h2]
        have : ∀ b, (decide (0 ≤ x.f1) && (decide (x.f1 < 4) && b)) = false := fun b => by
          rw [← Bool.and_assoc]; simp only [Bool.not_eq_true] at h2; rw [h2]; rfl
        rw [this]; rfl
    · rw [if_neg h1]
      simp only [Bool.not_eq_true] at h1
      rw [h1]; rfl
theorem ref_right_l (l : List S) (hs : ∀ x ∈ l, x.f0.size ≤ 10000) (k : Nat) (hk : 60000 ≤ k) : cantonref14_Right.f k l = some (RightB l) := by
  unfold cantonref14_Right.f RightB tailB
  by_cases h1 : (l.length : Int) < 1
  · obtain ⟨k, rfl⟩ : ∃ m, k = m + 1 := ⟨k - 1, by omega⟩
    rw [if_pos h1, cantonref14_Right.j0, if_pos rfl, decide_eq_false (show ¬ 0 < l.length by omega)]; simp
  · rw [if_neg h1, decide_eq_true (show 0 < l.length by omega)]
    by_cases h2 : (l.length : Int) > 32
    · obtain ⟨k, rfl⟩ : ∃ m, k = m + 1 := ⟨k - 1, by omega⟩
      rw [if_pos h2, cantonref14_Right.j0, if_pos rfl, decide_eq_false (show ¬ l.length ≤ 32 by omega)]; simp
    · rw [if_neg h2, if_pos (by omega), decide_eq_true (show l.length ≤ 32 by omega)]
      obtain ⟨k, rfl⟩ : ∃ m, k = m + 1 := ⟨k - 1, by omega⟩
      rw [cantonref14_Right.j0]
      by_cases h3 : (rd l 0).f0.toList = [47]
      · rw [if_neg (by simp [h3]), show ((rd l 0).f0.toList == [47]) = true by rw [h3]; rfl]
        have := refr_loop l (by omega) hs l [] k rfl (by omega)
        rw [show (([] : List S).length : Int) = 0 by rfl] at this
        rw [this]; simp
      · rw [if_pos (by simpa using h3), show ((rd l 0).f0.toList == [47]) = false by simpa using h3]; simp
theorem refof_loop (l : List S) (d : ByteArray) (hl : l.length ≤ 100) (hs : ∀ x ∈ l, x.f0.size ≤ 10000) (hd : d.size ≤ 10000) : ∀ (j i k : Nat) (x : Int), i + j = l.length → j + 50001 < k → Inv l d i x →
    ∃ y : Int, Inv l d l.length y ∧ cantonref14_Of.l0 k l d x (i : Int) = some y
  | j, i, 0, x, _, h, _ => absurd h (by omega)
  | 0, i, k + 1, x, hi, _, hI => by
    obtain rfl : i = l.length := by omega
    refine ⟨x, hI, ?_⟩
    rw [cantonref14_Of.l0, if_neg (by omega)]
  | j + 1, i, k + 1, x, hi, hk, hI => by
    have hw : wrap64 ((i : Int) + 1) = ((i + 1 : Nat) : Int) := by rw [w64 (by omega) (by omega)]; omega
    have go := fun x hI => refof_loop l d hl hs hd j (i + 1) k x (by omega) (by omega) hI
    have hsx : (rd l (i : Int)).f0.size ≤ 10000 := hs _ (by rw [rd_get l i (by omega)]; exact List.getElem_mem _)
    rw [cantonref14_Of.l0, if_pos (by omega), if_pos (by omega), ref_in_is _ _ hd hsx k (by omega), Option.bind_some]
    simp only [hw]
    show ∃ y, _ ∧ (if inP d (rd l (i : Int)).f0 = true then _ else _) = _
    by_cases h1 : inP d (rd l (i : Int)).f0 = true
    · rw [if_pos h1]
      by_cases h2 : x < 0
      · rw [if_pos h2]
        exact go _ (inv_new hI h1 (.inl h2))
      · rw [if_neg h2]
        have hI' := hI
        rcases hI' with ⟨rfl, _⟩ | ⟨a, rfl, ha, h3, h4⟩
        · omega
        · rw [if_pos (by omega), if_pos (by omega)]
          show ∃ y, _ ∧ (if ((rd l (i : Int)).f0.size : Int) > ((rd l (a : Int)).f0.size : Int) then _ else _) = _
          by_cases h5 : ((rd l (i : Int)).f0.size : Int) > ((rd l (a : Int)).f0.size : Int)
          · rw [if_pos h5]
            exact go _ (inv_new hI h1 (.inr ⟨a, rfl, by omega⟩))
          · rw [if_neg h5]
            exact go _ (inv_keep hI (.inr ⟨a, rfl, by omega⟩))
    · rw [if_neg h1]
      exact go _ (inv_keep hI (.inl (by simpa using h1)))
theorem right_sizes {l : List S} (h : RightM l) : ∀ x ∈ l, x.f0.size ≤ 10000 := fun x hx => by
  have := isP_size ((okE_iff x).1 (h.ok x hx)).1
  omega
theorem ref_of {l : List S} (h : RightM l) {d : ByteArray} (hd : isP d = true) (k : Nat) (hk : 60000 ≤ k) : ∃ a : Nat, cantonref14_Of.f k l d = some (a : Int) ∧ IsOf l d a := by
  unfold cantonref14_Of.f
  have hf := h.few
  rw [ref_right_l l (right_sizes h) k hk, (right_iff l).2 h, Option.bind_some, if_pos rfl]
  obtain ⟨y, hI, hy⟩ := refof_loop l d (by omega) (right_sizes h) (by have := isP_size hd; omega) l.length 0 k (-1) (by omega) (by omega) (.inl ⟨rfl, fun j hj => absurd hj (by omega)⟩)
  obtain ⟨a, rfl, ha⟩ := inv_of h hd hI
  exact ⟨a, hy, ha⟩
end Go.Proofs.Ytpkaedpgpncgpaa.Mnt
