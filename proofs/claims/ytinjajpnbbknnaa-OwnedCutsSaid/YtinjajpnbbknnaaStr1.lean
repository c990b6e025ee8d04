/- Stores: what the document's answers cantonref07.Right, Home and Same answer. -/
import Derived.Test.YtinjajpnbbknnaaStr0
import Derived.Test.YtinjajpnbbknnaaPathQ
import Derived.Test.YtinjajpnbbknnaaQx16
import Derived.Test.YtinjajpnbbknnaaQx15
import Derived.Test.YtinjajpnbbknnaaQx17
import Derived.Test.YtinjajpnbbknnaaQx19
namespace Go.Proofs.Ytinjajpnbbknnaa.Str
open Go Go.RowKit Go.Proofs.Ytinjajpnbbknnaa.PathF Go.Proofs.Ytinjajpnbbknnaa.Part Go.Proofs.Ytinjajpnbbknnaa.Q Go.Proofs.YtinjajpnbbknnaaW.PrintWords Go.Proofs.YtinjajpnbbknnaaW.PrintLast Go.Proofs.YtinjajpnbbknnaaW.PrintMore

theorem rdN_mid (pre post : List N) (x : N) : rd_T40 (pre ++ x :: post) (pre.length : Int) = x := by
  rw [rdN _ _ (by simp)]; simp
theorem rdT_mid (pre post : List T) (x : T) : rd_T59 (pre ++ x :: post) (pre.length : Int) = x := by
  rw [rdT _ _ (by simp)]; simp
theorem lastN (pre : List N) (h : pre ≠ []) (post : List N) : ∃ y, pre.getLast? = some y ∧ rd_T40 (pre ++ post) ((pre.length : Int) - 1) = y := by
  have hl : 0 < pre.length := List.length_pos_iff.2 h
  refine ⟨pre.getLast h, List.getLast?_eq_some_getLast h, ?_⟩
  rw [show ((pre.length : Int) - 1) = ((pre.length - 1 : Nat) : Int) by omega, rdN _ _ (by simp; omega), List.getElem_append_left (by omega), List.getLast_eq_getElem]
theorem lastT (pre : List T) (h : pre ≠ []) (post : List T) : ∃ y, pre.getLast? = some y ∧ rd_T59 (pre ++ post) ((pre.length : Int) - 1) = y := by
  have hl : 0 < pre.length := List.length_pos_iff.2 h
  refine ⟨pre.getLast h, List.getLast?_eq_some_getLast h, ?_⟩
  rw [show ((pre.length : Int) - 1) = ((pre.length - 1 : Nat) : Int) by omega, rdT _ _ (by simp; omega), List.getElem_append_left (by omega), List.getLast_eq_getElem]
def okN : Option N → List N → Bool
  | _, [] => true
  | none, x :: r => !strangeB x && okN (some x) r
  | some p, x :: r => !strangeB x && (lessB p.f0 x.f0 && okN (some x) r)
def okT : Option T → List T → Bool
  | _, [] => true
  | none, x :: r => !oddB x && okT (some x) r
  | some p, x :: r => !oddB x && (lessB p.f0 x.f0 && okT (some x) r)
theorem okN_some : ∀ (r : List N) (p : N), okN (some p) r = true ↔ (∀ x ∈ r, strangeB x = false) ∧ (p :: r).Pairwise LessN
  | [], p => by simp [okN]
  | x :: r, p => by
    rw [okN, Bool.and_eq_true, Bool.and_eq_true, okN_some r x]
    constructor
    · rintro ⟨h1, h2, h3, h4⟩
      refine ⟨fun y hy => ?_, ?_⟩
      · rcases List.mem_cons.1 hy with rfl | hy
        · simpa using h1
        · exact h3 y hy
      · refine List.pairwise_cons.2 ⟨fun y hy => ?_, h4⟩
        rcases List.mem_cons.1 hy with rfl | hy
        · exact h2
        · exact lessB_trans h2 ((List.pairwise_cons.1 h4).1 y hy)
    · rintro ⟨h1, h2⟩
      have h3 := List.pairwise_cons.1 h2
      exact ⟨by rw [h1 x (by simp)]; rfl, h3.1 x (by simp), fun y hy => h1 y (by simp [hy]), h3.2⟩
theorem okN_none (l : List N) : okN none l = true ↔ (∀ x ∈ l, strangeB x = false) ∧ l.Pairwise LessN := by
  cases l with
  | nil => simp [okN]
  | cons x r =>
    rw [okN, Bool.and_eq_true, okN_some]
    constructor
    · rintro ⟨h1, h2, h3⟩
      refine ⟨fun y hy => ?_, h3⟩
      rcases List.mem_cons.1 hy with rfl | hy
      · simpa using h1
      · exact h2 y hy
    · rintro ⟨h1, h2⟩
      exact ⟨by rw [h1 x (by simp)]; rfl, fun y hy => h1 y (by simp [hy]), h2⟩
theorem okT_some : ∀ (r : List T) (p : T), okT (some p) r = true ↔ (∀ x ∈ r, oddB x = false) ∧ (p :: r).Pairwise LessT
  | [], p => by simp [okT]
  | x :: r, p => by
    rw [okT, Bool.and_eq_true, Bool.and_eq_true, okT_some r x]
    constructor
    · rintro ⟨h1, h2, h3, h4⟩
      refine ⟨fun y hy => ?_, ?_⟩
      · rcases List.mem_cons.1 hy with rfl | hy
        · simpa using h1
        · exact h3 y hy
      · refine List.pairwise_cons.2 ⟨fun y hy => ?_, h4⟩
        rcases List.mem_cons.1 hy with rfl | hy
        · exact h2
        · exact lessB_trans h2 ((List.pairwise_cons.1 h4).1 y hy)
    · rintro ⟨h1, h2⟩
      have h3 := List.pairwise_cons.1 h2
      exact ⟨by rw [h1 x (by simp)]; rfl, h3.1 x (by simp), fun y hy => h1 y (by simp [hy]), h3.2⟩
theorem okT_none (l : List T) : okT none l = true ↔ (∀ x ∈ l, oddB x = false) ∧ l.Pairwise LessT := by
  cases l with
  | nil => simp [okT]
  | cons x r =>
    rw [okT, Bool.and_eq_true, okT_some]
    constructor
    · rintro ⟨h1, h2, h3⟩
      refine ⟨fun y hy => ?_, h3⟩
      rcases List.mem_cons.1 hy with rfl | hy
      · simpa using h1
      · exact h2 y hy
    · rintro ⟨h1, h2⟩
      exact ⟨by rw [h1 x (by simp)]; rfl, fun y hy => h1 y (by simp [hy]), h2⟩
theorem store_ok (n : List N) (t : List T) : storeB n t = (okN none n && okT none t) := by
  rw [Bool.eq_iff_iff, store_iff, Bool.and_eq_true, okN_none, okT_none]
  exact ⟨fun h => ⟨⟨h.okN, h.upN⟩, h.okT, h.upT⟩, fun h => ⟨h.1.1, h.1.2, h.2.1, h.2.2⟩⟩
theorem ref_node (x : N) (hs : x.f0.size ≤ 10000) (k : Nat) (hk : 50000 ≤ k) : cantonref07_node.f k x.f0 x.f1 x.f2 x.f3 x.f4 = some (!strangeB x) := by
  unfold cantonref07_node.f strangeB fieldsB inB
  rw [ref_right_is x.f0 hs k hk, Option.bind_some]
  cases isP x.f0 with
  | false => simp
  | true =>
    rw [if_pos rfl]
    by_cases h1 : (x.f1.size : Int) ≤ 256
    · rw [if_pos h1, decide_eq_true (show x.f1.size ≤ 256 by omega)]
      by_cases h2 : x.f2 ≥ 0
      · rw [if_pos h2, decide_eq_true (show 0 ≤ x.f2 from h2)]
        by_cases h3 : x.f2 ≤ 281474976710656
        · rw [if_pos h3, decide_eq_true h3]
          by_cases h4 : x.f4 ≥ 0
          · rw [if_pos h4, decide_eq_true (show 0 ≤ x.f4 from h4)]
            by_cases h5 : x.f4 ≤ 1099511627776
            · rw [if_pos h5, decide_eq_true h5]; simp [bne]
            · rw [if_neg h5, decide_eq_false h5]; simp
          · rw [if_neg h4, decide_eq_false (show ¬ 0 ≤ x.f4 from h4)]; simp
        · rw [if_neg h3, decide_eq_false h3]; simp
      · rw [if_neg h2, decide_eq_false (show ¬ 0 ≤ x.f2 from h2)]; simp
    · rw [if_neg h1, decide_eq_false (show ¬ x.f1.size ≤ 256 by omega)]; simp
theorem reft_loop (n : List N) (l : List T) (hl : l.length ≤ 1000000) (hs : ∀ x ∈ l, x.f0.size ≤ 10000) : ∀ (post pre : List T) (k : Nat), l = pre ++ post → post.length + 50001 < k →
    cantonref07_Right.l1 k (pre.length : Int) n l = some (okT pre.getLast? post)
  | post, pre, 0, _, h => absurd h (by omega)
  | [], pre, k + 1, he, _ => by
    rw [List.append_nil] at he
    subst he
    rw [cantonref07_Right.l1, if_neg (by omega)]
    cases l.getLast? <;> rfl
  | x :: r, pre, k + 1, he, hk => by
    have hlen : l.length = pre.length + (r.length + 1) := by rw [he]; simp
    have hx : rd_T59 l (pre.length : Int) = x := by rw [he]; exact rdT_mid pre r x
    have ih := reft_loop n l hl hs r (pre ++ [x]) k (by rw [he]; simp) (by simp at hk; omega)
    rw [List.length_append, List.length_singleton, show (pre ++ [x]).getLast? = some x by simp] at ih
    have hw : wrap64 ((pre.length : Int) + 1) = ((pre.length + 1 : Nat) : Int) := by rw [w64 (by omega) (by omega)]; omega
    have hsx : x.f0.size ≤ 10000 := hs x (by rw [he]; simp)
    simp only [List.length_cons] at hk
    rw [cantonref07_Right.l1, if_pos (by omega), if_pos (by omega)]
    simp only [hx, ref_right_is x.f0 hsx k (by omega), Option.bind_some, hw, ih]
    have hcons : okT pre.getLast? (x :: r) = (!oddB x && ((match pre.getLast? with | none => true | some p => lessB p.f0 x.f0) && okT (some x) r)) := by
      cases pre.getLast? <;> simp [okT]
    rw [hcons]
    unfold oddB inB
    by_cases h1 : isP x.f0 = true
    · rw [if_pos h1, h1]
      by_cases h4 : x.f1 < 1
      · rw [if_pos h4, decide_eq_false (show ¬ 1 ≤ x.f1 by omega)]; simp
      · rw [if_neg h4, decide_eq_true (show 1 ≤ x.f1 by omega)]
        by_cases h5 : x.f1 > 10000
        · rw [if_pos h5, decide_eq_false (show ¬ x.f1 ≤ 10000 by omega)]; simp
        · rw [if_neg h5, decide_eq_true (show x.f1 ≤ 10000 by omega)]
          by_cases h6 : (pre.length : Int) > 0
          · have hne : pre ≠ [] := fun e => by rw [e] at h6; simp at h6
            obtain ⟨y, hy, hyr⟩ := lastT pre hne (x :: r)
            rw [← he] at hyr
            have hw2 : wrap64 ((pre.length : Int) - 1) = (pre.length : Int) - 1 := w64 (by omega) (by omega)
            rw [if_pos h6, hw2, if_pos (by omega), if_pos (by omega), hyr, hy]
            show (if lessB y.f0 x.f0 = true then _ else _) = _
            by_cases h7 : lessB y.f0 x.f0 = true
            · rw [if_pos h7]; simp [h7]
            · rw [if_neg h7]; simp [h7]
          · have hne : pre = [] := by
              cases pre with
              | nil => rfl
              | cons a b => simp at h6
            rw [if_neg h6, hne]
            first | rfl | simp
    · rw [if_neg h1]
      simp only [Bool.not_eq_true] at h1
      rw [h1]; rfl
theorem refn_loop (l : List N) (t : List T) (hl : l.length ≤ 1000000) (hs : ∀ x ∈ l, x.f0.size ≤ 10000) (ht : t.length ≤ 1000000) (hst : ∀ x ∈ t, x.f0.size ≤ 10000) : ∀ (post pre : List N) (k : Nat), l = pre ++ post → post.length + t.length + 50003 < k →
    cantonref07_Right.l0 k (pre.length : Int) l t = some (okN pre.getLast? post && okT none t)
  | post, pre, 0, _, h => absurd h (by omega)
  | [], pre, k + 1, he, hk => by
    rw [List.append_nil] at he
    subst he
    simp only [List.length_nil] at hk
    have e1 : okN l.getLast? [] = true := by cases l.getLast? <;> rfl
    rw [cantonref07_Right.l0, if_neg (by omega), e1, Bool.true_and]
    exact reft_loop l t ht hst t [] k rfl (by omega)
  | x :: r, pre, k + 1, he, hk => by
    have hlen : l.length = pre.length + (r.length + 1) := by rw [he]; simp
    have hx : rd_T40 l (pre.length : Int) = x := by rw [he]; exact rdN_mid pre r x
    have ih := refn_loop l t hl hs ht hst r (pre ++ [x]) k (by rw [he]; simp) (by simp at hk; omega)
    rw [List.length_append, List.length_singleton, show (pre ++ [x]).getLast? = some x by simp] at ih
    have hw : wrap64 ((pre.length : Int) + 1) = ((pre.length + 1 : Nat) : Int) := by rw [w64 (by omega) (by omega)]; omega
    have hsx : x.f0.size ≤ 10000 := hs x (by rw [he]; simp)
    simp only [List.length_cons] at hk
    rw [cantonref07_Right.l0, if_pos (by omega), if_pos (by omega)]
    simp only [hx, ref_node x hsx k (by omega), Option.bind_some, hw, ih]
    have hcons : okN pre.getLast? (x :: r) = (!strangeB x && ((match pre.getLast? with | none => true | some p => lessB p.f0 x.f0) && okN (some x) r)) := by
      cases pre.getLast? <;> simp [okN]
    rw [hcons]
    by_cases h1 : (!strangeB x) = true
    · rw [if_pos h1, h1, Bool.true_and]
      by_cases h6 : (pre.length : Int) > 0
      · have hne : pre ≠ [] := fun e => by rw [e] at h6; simp at h6
        obtain ⟨y, hy, hyr⟩ := lastN pre hne (x :: r)
        rw [← he] at hyr
        have hw2 : wrap64 ((pre.length : Int) - 1) = (pre.length : Int) - 1 := w64 (by omega) (by omega)
        rw [if_pos h6, hw2, if_pos (by omega), if_pos (by omega), hyr, hy]
        show (if lessB y.f0 x.f0 = true then _ else _) = _
        by_cases h7 : lessB y.f0 x.f0 = true
        · rw [if_pos h7]; simp [h7]
        · rw [if_neg h7]; simp [h7]
      · have hne : pre = [] := by
          cases pre with
          | nil => rfl
          | cons a b => simp at h6
        rw [if_neg h6, hne]
        first | rfl | simp
    · rw [if_neg h1]
      simp only [Bool.not_eq_true] at h1
      rw [h1]; rfl
theorem ref_store (n : List N) (t : List T) (hl : n.length ≤ 100000) (hs : ∀ x ∈ n, x.f0.size ≤ 10000) (ht : t.length ≤ 100000) (hst : ∀ x ∈ t, x.f0.size ≤ 10000) (k : Nat) (hk : n.length + t.length + 50003 < k) : cantonref07_Right.f k n t = some (storeB n t) := by
  unfold cantonref07_Right.f
  rw [store_ok]
  exact refn_loop n t (by omega) hs (by omega) hst n [] k rfl hk
theorem ref_home (p : ByteArray) (hs : p.size ≤ 10000) (k : Nat) (hk : 50000 ≤ k) : cantonref07_Home.f k p = some (homeP p) := by
  unfold cantonref07_Home.f cantonref07_up.f
  rw [ref_parent p hs k hk, parent_is p k (by omega), Option.bind_some, ← home_of p]
  by_cases c : (parP p).2 = true
  · rw [if_pos c, if_pos c]; rfl
  · rw [if_neg c, if_neg c]; rfl
theorem same_loopN (l : List N) (hl : l.length ≤ 1000000) : ∀ (j k i : Nat), i + j = l.length → j < k → cantonref06_Same.l0 k l l (i : Int) = some true
  | j, 0, _, _, h => absurd h (by omega)
  | 0, k + 1, i, hi, _ => by rw [cantonref06_Same.l0, if_neg (by omega)]
  | j + 1, k + 1, i, hi, hk => by
    have hw : wrap64 ((i : Int) + 1) = ((i + 1 : Nat) : Int) := by rw [w64 (by omega) (by omega)]; omega
    rw [cantonref06_Same.l0, if_pos (by omega), if_pos (by omega), if_pos (by omega), if_neg (by simp), hw]
    exact same_loopN l hl j k (i + 1) (by omega) (by omega)
theorem same_loopT (n m : List N) (l : List T) (hl : l.length ≤ 1000000) : ∀ (j k i : Nat), i + j = l.length → j < k → cantonref07_Same.l0 k (i : Int) n l m l = some true
  | j, 0, _, _, h => absurd h (by omega)
  | 0, k + 1, i, hi, _ => by rw [cantonref07_Same.l0, if_neg (by omega)]
  | j + 1, k + 1, i, hi, hk => by
    have hw : wrap64 ((i : Int) + 1) = ((i + 1 : Nat) : Int) := by rw [w64 (by omega) (by omega)]; omega
    rw [cantonref07_Same.l0, if_pos (by omega), if_pos (by omega), if_pos (by omega), if_neg (by simp), hw]
    exact same_loopT n m l hl j k (i + 1) (by omega) (by omega)
theorem same_store (n : List N) (t : List T) (hl : n.length ≤ 1000000) (ht : t.length ≤ 1000000) (k : Nat) (hk : n.length + t.length + 2 < k) : cantonref07_Same.f k n t n t = some true := by
  obtain ⟨k, rfl⟩ : ∃ m, k = m + 1 := ⟨k - 1, by omega⟩
  unfold cantonref07_Same.f cantonref06_Same.f
  have h0 : cantonref06_Same.l0 (k + 1) n n 0 = some true := same_loopN n hl n.length (k + 1) 0 (by omega) (by omega)
  rw [if_pos rfl, h0, Option.bind_some, if_pos rfl, cantonref07_Same.j0, if_neg (by simp)]
  exact same_loopT n n t ht t.length k 0 (by omega) (by omega)
end Go.Proofs.Ytinjajpnbbknnaa.Str
