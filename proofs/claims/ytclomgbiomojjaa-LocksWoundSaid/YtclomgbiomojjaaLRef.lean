/- What the document's answers to locks come to: Right, Same; and whether it is too much. -/
import Derived.Test.YtclomgbiomojjaaLTh
import Derived.Test.YtclomgbiomojjaaPathR1
import Derived.Test.YtclomgbiomojjaaQx4
import Derived.Test.YtclomgbiomojjaaQx5
import Derived.Test.YtclomgbiomojjaaQx2b
namespace Go.Proofs.Ytclomgbiomojjaa.LRef
open Go Go.RowKit Go.Proofs.Ytclomgbiomojjaa.Rune Go.Proofs.Ytclomgbiomojjaa.Split Go.Proofs.Ytclomgbiomojjaa.PathF Go.Proofs.Ytclomgbiomojjaa.Q Go.Proofs.Ytclomgbiomojjaa.LTh Go.Proofs.YtclomgbiomojjaaW.PrintWords
open Go.Proofs.Ytclomgbiomojjaa.LRgt (num okFrom ageOk aheadB rightB)
set_option linter.unusedVariables false
set_option linter.unusedSimpArgs false

theorem number_is (n : Int) : cantonref10_number.f n = some (num n) := by
  unfold cantonref10_number.f LRgt.num
  by_cases h : n ≥ 0
  · rw [if_pos h, decide_eq_true (show 0 ≤ n from h)]; rfl
  · rw [if_neg h, decide_eq_false (show ¬ 0 ≤ n from h)]; rfl
/-- the inner loop: are the ages alike? -/
theorem age_loop (l : List S) (hl : l.length ≤ 100000) (i : Nat) (hi : i < l.length) (q : Bool) : ∀ (n j k : Nat), j + n = i → n < k → (∀ k2, k ≤ k2 + n + 1 → cantonref10_Right.l0 k2 l (wrap64 ((i : Int) + 1)) = some q) →
    cantonref10_Right.l1 k l (i : Int) (j : Int) = some (ageOk ((l.take i).drop j) (rd l (i : Int)) && q)
  | n, j, 0, h, hk, _ => absurd hk (by omega)
  | 0, j, k + 1, h, _, hq => by
    obtain rfl : j = i := by omega
    rw [cantonref10_Right.l1, if_neg (by omega), hq k (by omega), List.drop_eq_nil_of_le (by simp; omega)]
    rfl
  | n + 1, j, k + 1, h, hk, hq => by
    have hj : j < l.length := by omega
    have hw : wrap64 ((j : Int) + 1) = ((j + 1 : Nat) : Int) := by unfold wrap64; omega
    have ih := age_loop l hl i hi q n (j + 1) k (by omega) (by omega) (fun k2 h2 => hq k2 (by omega))
    have hd : (l.take i).drop j = rd l (j : Int) :: (l.take i).drop (j + 1) := by
      rw [List.drop_eq_getElem_cons (by simp; omega), rd_get l j hj, List.getElem_take]
    rw [cantonref10_Right.l1, if_pos (by omega), if_pos (by omega), if_pos (by omega), if_pos (by omega), if_pos (by omega), hw, ih, hd]
    unfold LRgt.ageOk
    rw [List.all_cons]
    show (if (rd l (j : Int)).f1 = (rd l (i : Int)).f1 then (if (rd l (j : Int)).f2 = (rd l (i : Int)).f2 then _ else _) else _) = _
    by_cases c1 : (rd l (j : Int)).f1 = (rd l (i : Int)).f1
    · rw [if_pos c1]
      by_cases c2 : (rd l (j : Int)).f2 = (rd l (i : Int)).f2
      · rw [if_pos c2, c1, c2]; simp
      · rw [if_neg c2, c1]; simp [c2]
    · rw [if_neg c1]
      have : ((rd l (j : Int)).f1 != (rd l (i : Int)).f1) = true := bne_iff_ne.2 c1
      rw [this]; simp
theorem ageOk_perm {a b : List S} (h : ∀ x, x ∈ a ↔ x ∈ b) (x : S) : ageOk a x = ageOk b x := by
  rw [Bool.eq_iff_iff, ageOk_iff, ageOk_iff]
  exact ⟨fun g y hy => g y ((h y).2 hy), fun g y hy => g y ((h y).1 hy)⟩
theorem okFrom_cons (prev : Option S) (seen : List S) (x : S) (t : List S) : okFrom prev seen (x :: t) = (isP x.f0 && (num x.f1 && (num x.f2 && (ageOk seen x && (aheadB prev x && okFrom (some x) (x :: seen) t))))) := rfl
theorem okFrom_perm : ∀ (r : List S) (prev : Option S) {a b : List S}, (∀ x, x ∈ a ↔ x ∈ b) → okFrom prev a r = okFrom prev b r
  | [], _, _, _, _ => rfl
  | x :: t, prev, a, b, h => by
    unfold LRgt.okFrom
    rw [ageOk_perm h x, okFrom_perm t (some x) (a := x :: a) (b := x :: b) (fun y => by rw [List.mem_cons, List.mem_cons, h])]
theorem right_loop (l : List S) (hl : l.length ≤ 1000) (hs : ∀ x ∈ l, x.f0.size ≤ 10000) : ∀ (post pre : List S) (k : Nat), l = pre ++ post → 2000 * post.length + 60000 < k →
    cantonref10_Right.l0 k l (pre.length : Int) = some (okFrom pre.getLast? pre post)
  | post, pre, 0, _, h => absurd h (by omega)
  | [], pre, k + 1, he, _ => by
    rw [List.append_nil] at he
    subst he
    rw [cantonref10_Right.l0, if_neg (by omega)]
    cases l.getLast? <;> rfl
  | x :: r, pre, k + 1, he, hk => by
    have hlen : l.length = pre.length + (r.length + 1) := by rw [he]; simp
    have hx : rd_T34 l (pre.length : Int) = x := by rw [he]; exact rd_mid pre r x
    simp only [List.length_cons] at hk
    have hw : wrap64 ((pre.length : Int) + 1) = ((pre.length + 1 : Nat) : Int) := by unfold wrap64; omega
    have hq : ∀ k2, k2 + 1100 ≥ k → cantonref10_Right.l0 k2 l (wrap64 ((pre.length : Int) + 1)) = some (okFrom (some x) (x :: pre) r) := fun k2 h2 => by
      have ih := right_loop l hl hs r (pre ++ [x]) k2 (by rw [he]; simp) (by omega)
      rw [List.length_append, List.length_singleton, show (pre ++ [x]).getLast? = some x by simp] at ih
      rw [hw, ih, okFrom_perm r (some x) (a := pre ++ [x]) (b := x :: pre) (fun y => by simp [or_comm])]
    have hsx : x.f0.size ≤ 10000 := hs x (by rw [he]; simp)
    have htake : l.take pre.length = pre := by rw [he]; simp
    have j1f : ∀ k2, k2 + 2 ≥ k → cantonref10_Right.j1 (k2 + 1) l (pre.length : Int) false = some (ageOk pre x && okFrom (some x) (x :: pre) r) := fun k2 h2 => by
      rw [cantonref10_Right.j1, if_neg (by simp)]
      have := age_loop l (by omega) pre.length (by omega) _ pre.length 0 k2 (by omega) (by omega) (fun k3 h3 => hq k3 (by omega))
      rw [List.drop_zero, htake, show rd l (pre.length : Int) = x from hx] at this
      exact this
    have j1t : ∀ k2, cantonref10_Right.j1 (k2 + 1) l (pre.length : Int) true = some false := fun k2 => by rw [cantonref10_Right.j1, if_pos rfl]
    obtain ⟨k, rfl⟩ : ∃ m, k = m + 1 := ⟨k - 1, by omega⟩
    rw [cantonref10_Right.l0, if_pos (by omega), if_pos (by omega)]
    simp only [hx, ref_right_is x.f0 hsx (k + 1) (by omega), Option.bind_some, number_is, j1f k (by omega), j1t k]
    rw [okFrom_cons]
    by_cases h1 : isP x.f0 = true
    · rw [if_pos h1, h1]
      by_cases h2 : num x.f1 = true
      · rw [if_pos h2, h2]
        by_cases h3 : num x.f2 = true
        · rw [if_pos h3, h3]
          by_cases h6 : (pre.length : Int) > 0
          · have hne : pre ≠ [] := fun e => by rw [e] at h6; simp at h6
            have hw2 : wrap64 ((pre.length : Int) - 1) = ((pre.length - 1 : Nat) : Int) := by unfold wrap64; omega
            have hy : rd_T34 l ((pre.length - 1 : Nat) : Int) = pre.getLast hne := by
              show rd l _ = _
              rw [rd_get l _ (by omega), List.getLast_eq_getElem]
              simp only [he]
              rw [List.getElem_append_left (by omega)]
            rw [if_pos h6, hw2, if_pos (by omega), if_pos (by omega), hy, List.getLast?_eq_some_getLast hne]
            show cantonref10_Right.j1 (k + 1) l (pre.length : Int) (!(PathF.lessB (pre.getLast hne).f0 x.f0)) = some (true && (true && (true && (ageOk pre x && (PathF.lessB (pre.getLast hne).f0 x.f0 && _)))))
            cases h7 : PathF.lessB (pre.getLast hne).f0 x.f0 with
            | true => rw [Bool.not_true, j1f k (by omega)]; simp
            | false => rw [Bool.not_false, j1t k]; simp
          · have hne : pre = [] := by
              cases pre with
              | nil => rfl
              | cons a b => simp at h6
            rw [if_neg h6]
            subst hne
            simp [LRgt.aheadB]
        · rw [if_neg h3]
          simp only [Bool.not_eq_true] at h3
          rw [h3]; rfl
      · rw [if_neg h2]
        simp only [Bool.not_eq_true] at h2
        rw [h2]; rfl
    · rw [if_neg h1]
      simp only [Bool.not_eq_true] at h1
      rw [h1]; rfl
theorem right_is (l : List S) (hl : l.length ≤ 1000) (hs : ∀ x ∈ l, x.f0.size ≤ 10000) (k : Nat) (hk : 2100000 ≤ k) : cantonref10_Right.f k l = some (rightB l) :=
  right_loop l hl hs l [] k rfl (by omega)
theorem same_loop (a b : List S) (he : a.length = b.length) (hl : a.length ≤ 1000000) : ∀ (n i k : Nat), i + n = a.length → n < k →
    ∃ q : Bool, cantonref10_Same.l0 k a b (i : Int) = some q ∧ (q = true ↔ a.drop i = b.drop i)
  | n, i, 0, _, hk => absurd hk (by omega)
  | 0, i, k + 1, h, _ => by
    rw [cantonref10_Same.l0, if_neg (by omega), List.drop_eq_nil_of_le (by omega), List.drop_eq_nil_of_le (by omega)]
    exact ⟨true, rfl, by simp⟩
  | n + 1, i, k + 1, h, hk => by
    have hw : wrap64 ((i : Int) + 1) = ((i + 1 : Nat) : Int) := by unfold wrap64; omega
    obtain ⟨q, ih, hq⟩ := same_loop a b he hl n (i + 1) k (by omega) (by omega)
    rw [cantonref10_Same.l0, if_pos (by omega), if_pos (by omega), if_pos (by omega), hw, ih, List.drop_eq_getElem_cons (show i < a.length by omega), List.drop_eq_getElem_cons (show i < b.length by omega),
      show rd_T34 a (i : Int) = a[i] from rd_get a i (by omega), show rd_T34 b (i : Int) = b[i] from rd_get b i (by omega)]
    have hbe : (!(a[i].f0.toList == b[i].f0.toList) || (!(a[i].f1 == b[i].f1) || !(a[i].f2 == b[i].f2))) = true ↔ ¬ a[i] = b[i] := by
      generalize a[i] = x
      generalize b[i] = y
      obtain ⟨x0, x1, x2⟩ := x
      obtain ⟨y0, y1, y2⟩ := y
      simp only [toL, Bool.or_eq_true, Bool.not_eq_true', beq_eq_false_iff_ne, S34.mk.injEq]
      constructor
      · rintro (h | h | h) ⟨rfl, rfl, rfl⟩
        · exact h rfl
        · exact h rfl
        · exact h rfl
      · intro h
        by_cases c0 : x0 = y0
        · by_cases c1 : x1 = y1
          · by_cases c2 : x2 = y2
            · exact absurd ⟨c0, c1, c2⟩ h
            · exact .inr (.inr c2)
          · exact .inr (.inl c1)
        · exact .inl (fun e => c0 (L_inj e))
    by_cases c : a[i] = b[i]
    · rw [if_neg (fun h => (hbe.1 h) c), c]
      exact ⟨q, rfl, hq.trans ⟨fun h => by rw [h], fun h => (List.cons.inj h).2⟩⟩
    · rw [if_pos (hbe.2 c)]
      exact ⟨false, rfl, ⟨fun h => (by cases h), fun h => absurd (List.cons.inj h).1 c⟩⟩
theorem same_is (a b : List S) (hl : a.length ≤ 1000000) (k : Nat) (hk : 1000001 < k) : ∃ q : Bool, cantonref10_Same.f k a b = some q ∧ (q = true ↔ a = b) := by
  unfold cantonref10_Same.f
  by_cases c : (a.length : Int) = (b.length : Int)
  · rw [if_pos c]
    obtain ⟨q, h1, h2⟩ := same_loop a b (by omega) hl a.length 0 k (by omega) (by omega)
    exact ⟨q, h1, by simpa using h2⟩
  · rw [if_neg c]
    exact ⟨false, rfl, by simp; intro e; exact c (by rw [e])⟩
theorem same_self (a : List S) (hl : a.length ≤ 1000000) (k : Nat) (hk : 1000001 < k) : cantonref10_Same.f k a a = some true := by
  obtain ⟨q, h1, h2⟩ := same_is a a hl k hk
  rw [h1, h2.2 rfl]
/-! ### is it too much? -/
theorem great_two (l : List S) (ds : List ByteArray) (hd : ds.length ≤ 9223372036854000000) (hs : ∀ x ∈ ds, x.size ≤ 9223372036854775807) : ∀ (m j k : Nat) (n : Nat), j + m = ds.length → m < k → n ≤ 9223372036854770000 →
    ∃ b : Bool, cantonlaw10_great.l1 k l ds (n : Int) (j : Int) = some b ∧ (b = false → n < 3000 ∧ l.length ≤ 200 ∧ ds.length ≤ 200 ∧ ∀ x ∈ ds.drop j, x.size ≤ 3000)
  | m, j, 0, n, _, hk, _ => absurd hk (by omega)
  | 0, j, k + 1, n, h, _, hn => by
    rw [cantonlaw10_great.l1, if_neg (by omega), List.drop_eq_nil_of_le (by omega)]
    by_cases c1 : (n : Int) ≥ 3000
    · rw [if_pos c1]; exact ⟨true, rfl, by simp⟩
    · rw [if_neg c1]
      by_cases c2 : (l.length : Int) > 200
      · rw [if_pos c2]; exact ⟨true, rfl, by simp⟩
      · rw [if_neg c2]
        refine ⟨_, rfl, fun h => ?_⟩
        have := of_decide_eq_false h
        exact ⟨by omega, by omega, by omega, by simp⟩
  | m + 1, j, k + 1, n, h, hk, hn => by
    have hj : j < ds.length := by omega
    rw [cantonlaw10_great.l1, if_pos (by omega), List.drop_eq_getElem_cons hj]
    by_cases c : (n : Int) < 3000
    · have hr : rdOf ByteArray.empty ds (j : Int) = ds[j] := LTk0.rdS ds j hj
      have hw : wrap64 ((j : Int) + 1) = ((j + 1 : Nat) : Int) := by unfold wrap64; omega
      have hn2 : wrap64 ((n : Int) + mn (ds[j].size : Int) 3000) = ((n + min ds[j].size 3000 : Nat) : Int) := by
        have : mn (ds[j].size : Int) 3000 = ((min ds[j].size 3000 : Nat) : Int) := by unfold mn; split <;> omega
        rw [this]
        unfold wrap64; omega
      rw [if_pos c, if_pos (by omega), hr, hw, hn2]
      obtain ⟨b, h1, h2⟩ := great_two l ds hd hs m (j + 1) k (n + min ds[j].size 3000) (by omega) (by omega) (by omega)
      refine ⟨b, h1, fun hb => ?_⟩
      obtain ⟨g1, g2, g3, g4⟩ := h2 hb
      refine ⟨by omega, g2, g3, fun x hx => ?_⟩
      rcases List.mem_cons.1 hx with rfl | hx
      · omega
      · exact g4 x hx
    · rw [if_neg c, if_pos (by omega)]
      exact ⟨true, rfl, by simp⟩
theorem great_one (l : List S) (ds : List ByteArray) (hl : l.length ≤ 9223372036854000000) (hd : ds.length ≤ 9223372036854000000) (hs0 : ∀ x ∈ l, x.f0.size ≤ 9223372036854775807) (hs : ∀ x ∈ ds, x.size ≤ 9223372036854775807) : ∀ (m j k : Nat) (n : Nat), j + m = l.length → m + ds.length + 2 < k → n ≤ 9223372036854770000 →
    ∃ b : Bool, cantonlaw10_great.l0 k l ds (n : Int) (j : Int) = some b ∧ (b = false → n < 3000 ∧ l.length ≤ 200 ∧ ds.length ≤ 200 ∧ (∀ x ∈ l.drop j, x.f0.size ≤ 3000) ∧ ∀ x ∈ ds, x.size ≤ 3000)
  | m, j, 0, n, _, hk, _ => absurd hk (by omega)
  | 0, j, k + 1, n, h, hk, hn => by
    obtain ⟨k, rfl⟩ : ∃ m, k = m + 1 := ⟨k - 1, by omega⟩
    rw [cantonlaw10_great.l0, if_neg (by omega), cantonlaw10_great.j1, List.drop_eq_nil_of_le (by omega)]
    obtain ⟨b, h1, h2⟩ := great_two l ds hd hs ds.length 0 k n (by omega) (by omega) hn
    exact ⟨b, h1, fun hb => ⟨(h2 hb).1, (h2 hb).2.1, (h2 hb).2.2.1, by simp, (h2 hb).2.2.2⟩⟩
  | m + 1, j, k + 1, n, h, hk, hn => by
    have hj : j < l.length := by omega
    rw [cantonlaw10_great.l0, if_pos (by omega), List.drop_eq_getElem_cons hj]
    by_cases c : (n : Int) < 3000
    · have hr : rd_T34 l (j : Int) = l[j] := rd_get l j hj
      have hw : wrap64 ((j : Int) + 1) = ((j + 1 : Nat) : Int) := by unfold wrap64; omega
      have hn2 : wrap64 ((n : Int) + mn (l[j].f0.size : Int) 3000) = ((n + min l[j].f0.size 3000 : Nat) : Int) := by
        have : mn (l[j].f0.size : Int) 3000 = ((min l[j].f0.size 3000 : Nat) : Int) := by unfold mn; split <;> omega
        rw [this]
        unfold wrap64; omega
      rw [if_pos c, if_pos (by omega), hr, hw, hn2]
      obtain ⟨b, h1, h2⟩ := great_one l ds hl hd hs0 hs m (j + 1) k (n + min l[j].f0.size 3000) (by omega) (by omega) (by omega)
      refine ⟨b, h1, fun hb => ?_⟩
      obtain ⟨g1, g2, g3, g4, g5⟩ := h2 hb
      refine ⟨by omega, g2, g3, fun x hx => ?_, g5⟩
      rcases List.mem_cons.1 hx with rfl | hx
      · omega
      · exact g4 x hx
    · obtain ⟨k, rfl⟩ : ∃ m, k = m + 1 := ⟨k - 1, by omega⟩
      rw [if_neg c, cantonlaw10_great.j1]
      obtain ⟨b, h1, h2⟩ := great_two l ds hd hs ds.length 0 k n (by omega) (by omega) hn
      exact ⟨b, h1, fun hb => absurd (h2 hb).1 (by omega)⟩
theorem great_is (l : List S) (ds : List ByteArray) (hl : l.length ≤ 4400000000000000000) (hd : ds.length ≤ 4400000000000000000) (hs0 : ∀ x ∈ l, x.f0.size ≤ 9223372036854775807) (hs : ∀ x ∈ ds, x.size ≤ 9223372036854775807) (k : Nat) (hk : l.length + ds.length + 2 < k) :
    ∃ b : Bool, cantonlaw10_great.f k l ds = some b ∧ (b = false → l.length ≤ 200 ∧ ds.length ≤ 200 ∧ (∀ x ∈ l, x.f0.size ≤ 3000) ∧ ∀ x ∈ ds, x.size ≤ 3000) := by
  unfold cantonlaw10_great.f
  have hw : wrap64 ((l.length : Int) + (ds.length : Int)) = ((l.length + ds.length : Nat) : Int) := by unfold wrap64; omega
  rw [hw]
  obtain ⟨b, h1, h2⟩ := great_one l ds (by omega) (by omega) hs0 hs l.length 0 k (l.length + ds.length) (by omega) (by omega) (by omega)
  exact ⟨b, h1, fun hb => ⟨(h2 hb).2.1, (h2 hb).2.2.1, (h2 hb).2.2.2.1, (h2 hb).2.2.2.2⟩⟩
end Go.Proofs.Ytclomgbiomojjaa.LRef
