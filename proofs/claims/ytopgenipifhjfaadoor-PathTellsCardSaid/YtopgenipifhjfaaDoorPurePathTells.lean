/- PathTells, told of the printed function: the package path answers as the document does. -/
import Derived.Test.YtopgenipifhjfaaDoorPath3
import Derived.Test.YtopgenipifhjfaaDoorQx5
namespace Go.Proofs.YtopgenipifhjfaaDoor.Pure
open Go Go.RowKit Go.Proofs.YtopgenipifhjfaaDoor.Rune Go.Proofs.YtopgenipifhjfaaDoor.Split Go.Proofs.YtopgenipifhjfaaDoor.PathT Go.Proofs.YtopgenipifhjfaaDoor.PathF Go.Proofs.YtopgenipifhjfaaDoor.Q Go.Proofs.YtopgenipifhjfaaDoorW.PrintWords Go.Proofs.YtopgenipifhjfaaDoorW.PrintLast

theorem ref_right (p : ByteArray) (hs : p.size ≤ 10000) (K : Nat) (hK : 50000 ≤ K) : cantonref01_Right.f K p = path_Right.f p := by
  unfold cantonref01_Right.f path_Right.f
  rw [ref_split p hs K hK]
theorem same_loop (l : List ByteArray) (hl : l.length ≤ 1000) : ∀ (j k i : Nat), i + j = l.length → j < k → cantonref01_Same.l0 k l l (i : Int) = some true
  | j, 0, _, _, h => absurd h (by omega)
  | 0, k + 1, i, hi, _ => by rw [cantonref01_Same.l0, if_neg (by omega)]
  | j + 1, k + 1, i, hi, hk => by
    rw [cantonref01_Same.l0, if_pos (by omega), if_pos (by omega), if_pos (by omega), if_pos rfl, w64 (by omega) (by omega), show ((i : Int) + 1) = ((i + 1 : Nat) : Int) by omega]
    exact same_loop l hl j k (i + 1) (by omega) (by omega)
theorem same_self (l : List ByteArray) (hl : l.length ≤ 1000) (k : Nat) (hk : 1001 ≤ k) : cantonref01_Same.f k l l = some true := by
  unfold cantonref01_Same.f
  rw [if_pos rfl]
  exact same_loop l hl l.length k 0 (by omega) (by omega)
theorem ref_parent (p : ByteArray) (hs : p.size ≤ 10000) (K : Nat) (hK : 50000 ≤ K) : cantonref01_Parent.f K p = path_Parent.f K p := by
  unfold cantonref01_Parent.f
  rw [ref_split p hs K hK]
  rcases path_cases p with h | ⟨ls, h, hp⟩
  · rw [split_none h, (parent_none K h).1, Option.bind_some, if_neg (by simp)]
  · rw [split_some h hp, Option.bind_some, if_pos rfl]
    rcases snoc_cases ls with rfl | ⟨init, s, rfl⟩
    · rw [(parent_root K hp).1, if_pos (by rfl)]
    · have h6 := h.1
      simp only [List.length_append, List.length_singleton] at h6
      have hlen : (((init ++ [s]).map B).length : Int) = ((init.length + 1 : Nat) : Int) := by simp
      have hw : wrap64 (((init.length + 1 : Nat) : Int) - 1) = (init.length : Int) := by rw [w64 (by omega) (by omega)]; omega
      rw [(parent_some h hp K (by omega)).1]
      show (if (((init ++ [s]).map B).length : Int) = 0 then _ else _) = _
      rw [hlen, if_neg (by omega), hw, if_pos (by omega), if_pos (by omega), Int.toNat_natCast]
      have ht : ((init ++ [s]).map B).take init.length = init.map B := by rw [← List.map_take]; simp
      show (cantonref01_path.f K (((init ++ [s]).map B).take init.length)).bind _ = _
      rw [ht, ref_path init h.left K (by omega)]
      rfl
theorem ref_last (p : ByteArray) (hs : p.size ≤ 10000) (K : Nat) (hK : 50000 ≤ K) : cantonref01_Last.f K p = path_Last.f K p := by
  unfold cantonref01_Last.f
  rw [ref_split p hs K hK]
  rcases path_cases p with h | ⟨ls, h, hp⟩
  · rw [split_none h, (parent_none K h).2, Option.bind_some, if_neg (by simp)]
  · rw [split_some h hp, Option.bind_some, if_pos rfl]
    rcases snoc_cases ls with rfl | ⟨init, s, rfl⟩
    · rw [(parent_root K hp).2, if_pos (by rfl)]
    · have h6 := h.1
      simp only [List.length_append, List.length_singleton] at h6
      have hlen : (((init ++ [s]).map B).length : Int) = ((init.length + 1 : Nat) : Int) := by simp
      have hw : wrap64 (((init.length + 1 : Nat) : Int) - 1) = (init.length : Int) := by rw [w64 (by omega) (by omega)]; omega
      rw [(parent_some h hp K (by omega)).2]
      show (if (((init ++ [s]).map B).length : Int) = 0 then _ else _) = _
      rw [hlen, if_neg (by omega), hw, if_pos (by omega), if_pos (by omega)]
      show some (rdOf ByteArray.empty ((init ++ [s]).map B) (init.length : Int)) = _
      rw [rd_map _ _ (by simp)]
      simp
theorem ref_join (p a : ByteArray) (hs : p.size ≤ 10000) (ha : a.size ≤ 10000) (K : Nat) (hK : 50000 ≤ K) : cantonref01_Join.f K p a = path_Join.f p a := by
  unfold cantonref01_Join.f
  rw [ref_split p hs K hK]
  rcases path_cases p with h | ⟨ls, h, hp⟩
  · rw [split_none h, join_none h, Option.bind_some, if_neg (by simp)]
  · rw [split_some h hp, Option.bind_some, if_pos rfl, ref_part a (by omega) K (by omega), Option.bind_some]
    cases hq : partL (L a) with
    | false => rw [join_part h hp hq, if_neg (by simp)]
    | true =>
      rw [if_pos rfl]
      have h6 := h.1
      have hlen : ((ls.map B).length : Int) = (ls.length : Int) := by simp
      show (if ((ls.map B).length : Int) ≥ 6 then _ else _) = _
      rw [hlen]
      by_cases h7 : ls.length = 6
      · rw [join_deep h hp hq h7, if_pos (by omega)]
      · have h8 : ls.length < 6 := by omega
        rw [join_some h hp hq h8, if_neg (by omega), Option.bind_some, if_pos (by simp; omega), Option.bind_some, if_pos (by simp; omega)]
        have e : ([] ++ ls.map B) ++ [a] = (ls ++ [L a]).map B := by rw [List.map_append, List.nil_append]; simp [BL]
        show (cantonref01_path.f K (([] ++ ls.map B) ++ [a])).bind _ = _
        rw [e, ref_path _ (h.snoc h8 hq) K (by omega)]
        rfl
theorem in_loop (ls ks : List (List UInt8)) (h1 : ks.length ≤ ls.length) (h2 : ls.length ≤ 100) : ∀ (j k i : Nat), i + j = ks.length → j < k →
    cantonref01_In.l0 k (ls.map B) (ks.map B) (i : Int) = some (decide (ks.drop i <+: ls.drop i))
  | j, 0, _, _, h => absurd h (by omega)
  | 0, k + 1, i, hi, _ => by
    rw [cantonref01_In.l0, if_neg (by simp; omega), List.drop_eq_nil_of_le (by omega)]
    simp
  | j + 1, k + 1, i, hi, hk => by
    have hk1 : i < ks.length := by omega
    have hl1 : i < ls.length := by omega
    rw [cantonref01_In.l0, if_pos (by simp; omega), if_pos (by omega), if_pos (by simp; omega), rd_map ks i hk1, rd_map ls i hl1, toL, toL, L_B, L_B, w64 (by omega) (by omega),
      show ((i : Int) + 1) = ((i + 1 : Nat) : Int) by omega, in_loop ls ks h1 h2 j k (i + 1) (by omega) (by omega), List.drop_eq_getElem_cons hk1, List.drop_eq_getElem_cons hl1]
    by_cases e : ks[i] = ls[i]
    · rw [if_pos e, e]
      congr 2
      apply propext
      exact ⟨fun h => List.cons_prefix_cons.2 ⟨rfl, h⟩, fun h => (List.cons_prefix_cons.1 h).2⟩
    · rw [if_neg e]
      congr 1
      symm
      apply decide_eq_false
      intro h
      exact e (List.cons_prefix_cons.1 h).1
theorem ref_in (p q : ByteArray) (hs : p.size ≤ 10000) (hq : q.size ≤ 10000) (K : Nat) (hK : 50000 ≤ K) : cantonref01_In.f K p q = path_In.f K p q := by
  unfold cantonref01_In.f
  rw [ref_split p hs K hK, ref_split q hq K hK]
  obtain ⟨K, rfl⟩ : ∃ m, K = m + 1 := ⟨K - 1, by omega⟩
  rcases path_cases p with h | ⟨ls, h, hp⟩
  · rcases path_cases q with g | ⟨ks, g, hq⟩
    · rw [split_none h, split_none g, in_none_l h _ (by omega), Option.bind_some, Option.bind_some, if_neg (by simp), cantonref01_In.j0, if_pos rfl]
    · rw [split_none h, split_some g hq, in_none_l h _ (by omega), Option.bind_some, Option.bind_some, if_neg (by simp), cantonref01_In.j0, if_pos rfl]
  · rcases path_cases q with g | ⟨ks, g, hq⟩
    · rw [split_none g, split_some h hp, in_none_r g _ (by omega), Option.bind_some, Option.bind_some, if_pos rfl, if_neg (by simp), cantonref01_In.j0, if_pos rfl]
    · have h6 := h.1
      have g6 := g.1
      rw [split_some g hq, split_some h hp, in_some h hp g hq _ (by omega), Option.bind_some, Option.bind_some, if_pos rfl, if_pos rfl, cantonref01_In.j0]
      by_cases c : ks.length ≤ ls.length
      · rw [if_neg (by simp; omega)]
        have := in_loop ls ks c (by omega) ks.length K 0 (by omega) (by omega)
        rw [List.drop_zero, List.drop_zero] at this
        exact this
      · rw [if_pos (by simp; omega)]
        congr 1
        symm
        apply decide_eq_false
        intro hx
        exact c hx.length_le
theorem nums_four (n : Nat) (h : n < 10000) : strOfNums [(wrap64 (48 + (wrap64 (Int.tdiv (n : Int) 1000)))) % 256, (wrap64 (48 + (Int.tmod (wrap64 (Int.tdiv (n : Int) 100)) 10))) % 256, (wrap64 (48 + (Int.tmod (wrap64 (Int.tdiv (n : Int) 10)) 10))) % 256, (wrap64 (48 + (Int.tmod (n : Int) 10))) % 256] = B (four n) := by
  have t1 : Int.tdiv (n : Int) 1000 = ((n / 1000 : Nat) : Int) := rfl
  have t2 : Int.tdiv (n : Int) 100 = ((n / 100 : Nat) : Int) := rfl
  have t3 : Int.tdiv (n : Int) 10 = ((n / 10 : Nat) : Int) := rfl
  have m1 : ∀ k : Nat, Int.tmod (k : Int) 10 = ((k % 10 : Nat) : Int) := fun _ => rfl
  have w1 : ∀ k : Nat, k < 10000 → wrap64 (k : Int) = (k : Int) := fun k hk => w64 (by omega) (by omega)
  have w2 : ∀ k : Nat, k < 10 → (wrap64 (48 + (k : Int))) % 256 = ((48 + k : Nat) : Int) := fun k hk => by rw [w64 (by omega) (by omega)]; omega
  have q1 : n / 1000 < 10 := by omega
  rw [t1, t2, t3, w1 _ (by omega), w1 _ (by omega), w1 _ (by omega), m1, m1, m1, w2 _ q1, w2 _ (Nat.mod_lt _ (by omega)), w2 _ (Nat.mod_lt _ (by omega)), w2 _ (Nat.mod_lt _ (by omega))]
  unfold strOfNums four dg B
  rw [Nat.mod_eq_of_lt q1]
  rfl
theorem ref_numbered (p : ByteArray) (hs : p.size ≤ 10000) (n : Int) (K : Nat) (hK : 50000 ≤ K) : cantonref01_Numbered.f K p n = path_Numbered.f K p n := by
  by_cases c : 0 ≤ n ∧ n ≤ 9999
  · obtain ⟨m, rfl⟩ : ∃ m : Nat, n = (m : Int) := ⟨n.toNat, by omega⟩
    have hm : m < 10000 := by omega
    rw [numbered hm (by omega) K (by omega)]
    obtain ⟨K, rfl⟩ : ∃ m, K = m + 1 := ⟨K - 1, by omega⟩
    have hd : decide ((m : Int) > 9999) = false := decide_eq_false (by omega)
    have hz : (B (four m)).size = 4 := rfl
    have e : L (p ++ B (four m)) = L p ++ four m := by rw [L_app, L_B]
    have hz2 : (p ++ B (four m)).size ≤ 10004 := by rw [ByteArray.size_append]; omega
    unfold cantonref01_Numbered.f
    rw [if_neg (by omega), hd, cantonref01_Numbered.j0, if_neg (by simp), Option.bind_some, nums_four m hm, if_pos (by omega), ref_part _ (by omega) K (by omega), Option.bind_some, e, part_four, B_eq e]
    split <;> rfl
  · rw [numbered_out (by omega) K (by omega)]
    obtain ⟨K, rfl⟩ : ∃ m, K = m + 1 := ⟨K - 1, by omega⟩
    unfold cantonref01_Numbered.f
    by_cases c2 : n < 0
    · rw [if_pos c2, cantonref01_Numbered.j0, if_pos rfl]
    · have hd : decide (n > 9999) = true := decide_eq_true (by omega)
      rw [if_neg c2, hd, cantonref01_Numbered.j0, if_pos rfl]

theorem some_of (p : ByteArray) : (∃ x, path_Split.f p = some x ∧ x.1.length ≤ 6) ∧ (∃ b, path_Right.f p = some b) := by
  rcases path_cases p with h | ⟨ls, h, hp⟩
  · exact ⟨⟨_, split_none h, by simp⟩, ⟨_, right_none h⟩⟩
  · exact ⟨⟨_, split_some h hp, by have := h.1; simpa using this⟩, ⟨_, right_some h hp⟩⟩
theorem some_of2 (p : ByteArray) (k : Nat) (hk : 100 ≤ k) : (∃ x, path_Parent.f k p = some x) ∧ (∃ b, path_Last.f k p = some b) := by
  rcases path_cases p with h | ⟨ls, h, hp⟩
  · exact ⟨⟨_, (parent_none k h).1⟩, ⟨_, (parent_none k h).2⟩⟩
  · rcases snoc_cases ls with rfl | ⟨init, s, rfl⟩
    · exact ⟨⟨_, (parent_root k hp).1⟩, ⟨_, (parent_root k hp).2⟩⟩
    · exact ⟨⟨_, (parent_some h hp k hk).1⟩, ⟨_, (parent_some h hp k hk).2⟩⟩
theorem some_join (p a : ByteArray) : ∃ x, path_Join.f p a = some x := by
  rcases join_cases p a with h | ⟨ls, _, _, _, h⟩ <;> exact ⟨_, h⟩
theorem some_in (p q : ByteArray) (k : Nat) (hk : 1 ≤ k) : ∃ x, path_In.f k p q = some x := by
  rcases path_cases p with h | ⟨ls, h, hp⟩
  · exact ⟨_, in_none_l h k hk⟩
  · rcases path_cases q with g | ⟨ks, g, hq⟩
    · exact ⟨_, in_none_r g k hk⟩
    · exact ⟨_, in_some h hp g hq k hk⟩
theorem some_num (p : ByteArray) (hs : p.size ≤ 10000) (n : Int) (k : Nat) (hk : 1 ≤ k) : ∃ x, path_Numbered.f k p n = some x := by
  by_cases c : 0 ≤ n ∧ n ≤ 9999
  · obtain ⟨m, rfl⟩ : ∃ m : Nat, n = (m : Int) := ⟨n.toNat, by omega⟩
    exact ⟨_, numbered (by omega) (by omega) k hk⟩
  · exact ⟨_, numbered_out (by omega) k hk⟩
theorem tells1 (p q : ByteArray) (n : Int) (hp : p.size ≤ 3000) (hq : q.size ≤ 3000) (k : Nat) (hk : 50001 ≤ k) : cantonlaw01_PathTells.j1 k p q n true false = some true := by
  obtain ⟨k, rfl⟩ : ∃ m, k = m + 1 := ⟨k - 1, by omega⟩
  obtain ⟨x, hx⟩ := some_join p q
  obtain ⟨y, hy⟩ := some_num q (by omega) n k (by omega)
  obtain ⟨z, hz⟩ := some_in p q k (by omega)
  rw [cantonlaw01_PathTells.j1, if_neg (by simp), ref_join p q (by omega) (by omega) k (by omega), ref_numbered q (by omega) n k (by omega), hx, Option.bind_some, Option.bind_some, hy, Option.bind_some, Option.bind_some,
    if_pos rfl, if_pos rfl, if_pos (by simp), if_pos rfl, if_pos (by simp), ref_in p q (by omega) (by omega) k (by omega), hz, Option.bind_some, Option.bind_some]
  simp
theorem tells0 (p q : ByteArray) (n : Int) (hp : p.size ≤ 3000) (hq : q.size ≤ 3000) (k : Nat) (hk : 50002 ≤ k) : cantonlaw01_PathTells.j0 k p q n true false = some true := by
  obtain ⟨k, rfl⟩ : ∃ m, k = m + 1 := ⟨k - 1, by omega⟩
  obtain ⟨⟨x, hx, hx6⟩, ⟨r, hr⟩⟩ := some_of p
  obtain ⟨⟨y, hy⟩, ⟨z, hz⟩⟩ := some_of2 p k (by omega)
  rw [cantonlaw01_PathTells.j0, if_neg (by simp), ref_split p (by omega) k (by omega), ref_parent p (by omega) k (by omega), ref_right p (by omega) k (by omega), hx, Option.bind_some, Option.bind_some, hy, Option.bind_some, Option.bind_some,
    hr, Option.bind_some, Option.bind_some, if_neg (by simp), same_self x.1 (by omega) k (by omega), Option.bind_some, if_pos rfl, if_neg (by simp), if_pos rfl, if_neg (by simp), ref_last p (by omega) k (by omega), hz, Option.bind_some, Option.bind_some]
  have := tells1 p q n hp hq k (by omega)
  have e : (z.toList != z.toList) = false := by simp
  rw [e]
  exact this
theorem PathTells : cantonlaw01_PathTells.Pure := by
  intro p q n _ _ _
  refine ⟨50002, ?_⟩
  unfold cantonlaw01_PathTells.f
  rw [head_true 50002 (by omega), Option.bind_some]
  by_cases c1 : (p.size : Int) > 3000
  · rw [if_pos c1, cantonlaw01_PathTells.j0, if_pos rfl]
  · rw [if_neg c1]
    by_cases c2 : (q.size : Int) > 3000
    · rw [decide_eq_true c2, cantonlaw01_PathTells.j0, if_pos rfl]
    · rw [decide_eq_false c2]
      exact tells0 p q n (by omega) (by omega) 50002 (by omega)
end Go.Proofs.YtopgenipifhjfaaDoor.Pure
