/- What the document's answers cantonref01.Right and In answer, in lists of parts (any seat). -/
import Derived.Test.YtclomgbiomojjaaLRgt
import Derived.Test.YtclomgbiomojjaaQx3
namespace Go.Proofs.Ytclomgbiomojjaa.PathF
open Go Go.RowKit Go.Proofs.Ytclomgbiomojjaa.Rune Go.Proofs.Ytclomgbiomojjaa.Split Go.Proofs.Ytclomgbiomojjaa.PathT Go.Proofs.Ytclomgbiomojjaa.Q Go.Proofs.YtclomgbiomojjaaW.PrintWords Go.Proofs.YtclomgbiomojjaaW.PrintLast Go.Proofs.YtclomgbiomojjaaW.PrintMore

theorem okc_num (b : UInt8) : okc b = (decide (b.toNat = 45) || (decide (97 ≤ b.toNat) && decide (b.toNat ≤ 122)) || (decide (48 ≤ b.toNat) && decide (b.toNat ≤ 57))) := by
  have key : ∀ n : Fin 256, okc (UInt8.ofNat n.val) = (decide (n.val = 45) || (decide (97 ≤ n.val) && decide (n.val ≤ 122)) || (decide (48 ≤ n.val) && decide (n.val ≤ 57))) := by decide +kernel
  have h := key ⟨b.toNat, UInt8.toNat_lt b⟩
  simpa using h
theorem drop_at (l : List UInt8) (i : Nat) (h : i < l.length) : ∃ d, l = l.take i ++ d :: l.drop (i + 1) ∧ l.drop i = d :: l.drop (i + 1) ∧ (l.take i).length = i := by
  have h1 := List.drop_eq_getElem_cons h
  exact ⟨l[i], by rw [← h1, List.take_append_drop], h1, by rw [List.length_take]; omega⟩
theorem bt_at2 (s : ByteArray) (i : Nat) (h : i < s.size) : ∃ d, (L s).drop i = d :: (L s).drop (i + 1) ∧ bt s (i : Int) = (d.toNat : Int) ∧ L s = (L s).take i ++ d :: (L s).drop (i + 1) := by
  obtain ⟨d, h1, h2, h3⟩ := drop_at (L s) i (by rw [L_len]; exact h)
  have := bt_L s _ _ d h1
  rw [h3] at this
  exact ⟨d, h2, this, h1⟩
theorem part_loop (s : ByteArray) (hs : s.size ≤ 100000) : ∀ (j k i : Nat), i + j = s.size → j < k →
    cantonref01_Part.l0 k s (i : Int) = some (((L s).drop i).all okc && (decide (1 ≤ s.size) && decide (s.size ≤ 12)))
  | j, 0, _, _, h => absurd h (by omega)
  | 0, k + 1, i, hi, _ => by
    rw [cantonref01_Part.l0, if_neg (by omega)]
    have : (L s).drop i = [] := List.drop_eq_nil_of_le (by rw [L_len]; omega)
    rw [this]
    by_cases h1 : 1 ≤ s.size
    · rw [if_pos (by omega)]
      have e : decide ((s.size : Int) ≤ 12) = decide (s.size ≤ 12) := by congr 1; apply propext; omega
      rw [e]; simp [h1]
    · rw [if_neg (by omega)]; simp [h1]
  | j + 1, k + 1, i, hi, hk => by
    obtain ⟨d, hd, hb, _⟩ := bt_at2 s i (by omega)
    have ih := part_loop s hs j k (i + 1) (by omega) (by omega)
    have hw : wrap64 ((i : Int) + 1) = ((i + 1 : Nat) : Int) := by rw [w64 (by omega) (by omega)]; omega
    rw [cantonref01_Part.l0, if_pos (by omega), if_pos (by omega), hb, hd, List.all_cons, hw, ih, okc_num]
    have hlt := UInt8.toNat_lt d
    generalize d.toNat = n at *
    by_cases c1 : n = 45
    · subst c1; simp
    · rw [if_neg (by omega)]
      by_cases c2 : n < 97
      · rw [if_pos (by omega)]
        by_cases c3 : n < 48
        · rw [if_pos (by omega)]
          have e1 : decide (n = 45) = false := decide_eq_false c1
          have e2 : decide (97 ≤ n) = false := decide_eq_false (by omega)
          have e3 : decide (48 ≤ n) = false := decide_eq_false (by omega)
          rw [e1, e2, e3]; rfl
        · rw [if_neg (by omega)]
          by_cases c4 : n > 57
          · rw [if_pos (by omega)]
            have e1 : decide (n = 45) = false := decide_eq_false c1
            have e2 : decide (97 ≤ n) = false := decide_eq_false (by omega)
            have e3 : decide (n ≤ 57) = false := decide_eq_false (by omega)
            rw [e1, e2, e3]; simp
          · rw [if_neg (by omega)]
            have e2 : decide (48 ≤ n) = true := decide_eq_true (by omega)
            have e3 : decide (n ≤ 57) = true := decide_eq_true (by omega)
            rw [e2, e3]; simp
      · rw [if_neg (by omega)]
        by_cases c3 : n > 122
        · rw [if_pos (by omega), if_neg (by omega), if_pos (by omega)]
          have e1 : decide (n = 45) = false := decide_eq_false c1
          have e2 : decide (n ≤ 122) = false := decide_eq_false (by omega)
          have e3 : decide (n ≤ 57) = false := decide_eq_false (by omega)
          rw [e1, e2, e3]; simp
        · rw [if_neg (by omega)]
          have e2 : decide (97 ≤ n) = true := decide_eq_true (by omega)
          have e3 : decide (n ≤ 122) = true := decide_eq_true (by omega)
          rw [e2, e3]; simp
theorem ref_part (s : ByteArray) (hs : s.size ≤ 100000) (k : Nat) (hk : s.size < k) : cantonref01_Part.f k s = some (partL (L s)) := by
  unfold cantonref01_Part.f
  have := part_loop s hs s.size k 0 (by omega) hk
  rw [show ((0 : Nat) : Int) = 0 by rfl, List.drop_zero] at this
  rw [this]
  unfold partL
  have e1 : decide (1 ≤ s.size) = !(L s).isEmpty := by
    rw [← L_len]
    cases L s <;> simp
  rw [e1, ← L_len]
  congr 1
  cases (L s).isEmpty <;> cases decide ((L s).length ≤ 12) <;> cases (L s).all okc <;> rfl

/-- the answer, of a list of parts that may be none -/
def ans : Option (List (List UInt8)) → Option (List ByteArray × Bool)
  | some l => some (l.map B, true)
  | none => some ([], false)
theorem seg_at (l : List UInt8) (a j : Nat) (hn : (47 : UInt8) ∉ (l.drop a).take j) (h : (l.drop (a + j)) = [] ∨ ∃ t, l.drop (a + j) = 47 :: t) : seg (l.drop a) = (l.drop a).take j ∧ tl (l.drop a) = l.drop (a + j) := by
  have := seg_of ((l.drop a).take j) (l.drop (a + j)) hn h
  rw [← List.drop_drop, List.take_append_drop] at this
  rw [← List.drop_drop]
  exact this
theorem L_extract (s : ByteArray) (a b : Nat) : L (s.extract a b) = ((L s).drop a).take (b - a) := by
  show (s.extract a b).data.toList = _
  simp [L]
theorem split_loop (p : ByteArray) (hs : p.size ≤ 10000) : ∀ (j K from_ i : Nat) (o : List (List UInt8)) (c : Nat), i + j = p.size → from_ ≤ i → 2 * j + 20000 < K → o.length ≤ 6 →
    (47 : UInt8) ∉ ((L p).drop from_).take (i - from_) → (L p).length - from_ + 1 < c →
    cantonref01_Split.l0 K p (o.map B) (from_ : Int) (i : Int) = ans (cont c (47 :: (L p).drop from_) o)
  | j, K, from_, i, o, c, hi, hf, hK, ho, hn, hc => by
    obtain ⟨K, rfl⟩ : ∃ m, K = m + 2 := ⟨K - 2, by omega⟩
    obtain ⟨c, rfl⟩ : ∃ m, c = m + 1 := ⟨c - 1, by omega⟩
    have hll := L_len p
    have hw : wrap64 ((i : Int) + 1) = ((i + 1 : Nat) : Int) := by rw [w64 (by omega) (by omega)]; omega
    rw [cantonref01_Split.l0, if_pos (by omega)]
    -- what a slash, or the end, does
    have done : ∀ (t : List UInt8), (L p).drop i = t → (t = [] ∨ ∃ r, t = 47 :: r) →
        (∀ (o2 : List (List UInt8)), o2.length ≤ 6 → o2 ≠ [] → cantonref01_Split.l0 K p (o2.map B) ((i + 1 : Nat) : Int) ((i + 1 : Nat) : Int) = ans (cont c t o2)) →
        cantonref01_Split.j2 (K + 1) p (o.map B) (from_ : Int) (i : Int) false = ans (cont (c + 1) (47 :: (L p).drop from_) o) := by
      intro t ht htt hrec
      obtain ⟨hs1, hs2⟩ := seg_at (L p) from_ (i - from_) hn (by rw [show from_ + (i - from_) = i by omega, ht]; exact htt)
      rw [show from_ + (i - from_) = i by omega, ht] at hs2
      have hx : L (p.extract from_ i) = seg ((L p).drop from_) := by rw [L_extract _ _ _, hs1]
      have hxs : (p.extract from_ i).size ≤ 10000 := by
        rw [← L_len, L_extract _ _ _, List.length_take, List.length_drop]; omega
      rw [cantonref01_Split.j2, if_neg (by simp), if_pos (by omega), if_pos (by omega), if_pos (by omega), Int.toNat_natCast, Int.toNat_natCast, ref_part _ (by omega) K (by omega), Option.bind_some, hx]
      show _ = ans (if (47 : UInt8) = 47 then (if o.length = 6 then none else if partL (seg ((L p).drop from_)) = true then cont c (tl ((L p).drop from_)) (o ++ [seg ((L p).drop from_)]) else none) else none)
      rw [if_pos rfl]
      by_cases hp : partL (seg ((L p).drop from_)) = true
      · rw [if_pos hp, if_pos hp]
        by_cases h6 : o.length = 6
        · rw [if_pos (by simp; omega), if_pos h6]; rfl
        · rw [if_neg (by simp; omega), if_pos (by simp; omega), if_neg h6, hw, hs2]
          have hb : p.extract from_ i = B (seg ((L p).drop from_)) := B_eq hx
          rw [hb]
          have := hrec (o ++ [seg ((L p).drop from_)]) (by simp; omega) (by simp)
          rw [List.map_append] at this
          exact this
      · rw [if_neg hp, if_neg hp]
        by_cases h6 : o.length = 6
        · rw [if_pos h6]; rfl
        · rw [if_neg h6]; rfl
    match j, hi, hK with
    | 0, hi, hK =>
      rw [if_neg (by omega)]
      refine done [] (List.drop_eq_nil_of_le (by omega)) (.inl rfl) ?_
      intro o2 h6 hne
      obtain ⟨K, rfl⟩ : ∃ m, K = m + 1 := ⟨K - 1, by omega⟩
      obtain ⟨c, rfl⟩ : ∃ m, c = m + 1 := ⟨c - 1, by omega⟩
      rw [cantonref01_Split.l0, if_neg (by omega)]
      show _ = ans (if o2 = [] then none else some o2)
      rw [if_neg hne]; rfl
    | j + 1, hi, hK =>
      obtain ⟨d, hd, hb, _⟩ := bt_at2 p i (by omega)
      rw [if_pos (by omega), if_pos (by omega), hb]
      by_cases e : d = 47
      · subst e
        have e2 : ((((47 : UInt8).toNat : Nat) : Int) != 47) = false := by decide
        rw [e2]
        refine done _ hd (.inr ⟨_, rfl⟩) ?_
        intro o2 h6 hne
        exact split_loop p hs j K (i + 1) (i + 1) o2 c (by omega) (by omega) (by omega) h6 (by simp) (by omega)
      · have e2 : (((d.toNat : Nat) : Int) != 47) = true := by
          rw [bne_iff_ne]
          intro h
          exact e (UInt8.toNat_inj.1 (by show d.toNat = 47; omega))
        rw [e2, cantonref01_Split.j2, if_pos rfl, hw]
        refine split_loop p hs j K from_ (i + 1) o (c + 1) (by omega) (by omega) (by omega) ho ?_ (by omega)
        have h4 : ((L p).drop from_).take (i + 1 - from_) = ((L p).drop from_).take (i - from_) ++ [d] := by
          have h5 : ((L p).drop from_).drop (i - from_) = d :: (L p).drop (i + 1) := by rw [List.drop_drop, show from_ + (i - from_) = i by omega]; exact hd
          rw [show i + 1 - from_ = (i - from_) + 1 by omega, List.take_add, h5]
          rfl
        rw [h4]
        intro hm
        rcases List.mem_append.1 hm with hm | hm
        · exact hn hm
        · simp at hm; exact e hm.symm
theorem ref_split (p : ByteArray) (hs : p.size ≤ 10000) (K : Nat) (hK : 50000 ≤ K) : cantonref01_Split.f K p = path_Split.f p := by
  have hll := L_len p
  have e0 : path_Split.f p = ans (splitL (L p)) := by
    unfold path_Split.f ans
    cases splitL (L p) <;> rfl
  rw [e0]
  obtain ⟨K, rfl⟩ : ∃ m, K = m + 1 := ⟨K - 1, by omega⟩
  unfold cantonref01_Split.f splitL
  rw [toL]
  by_cases h : L p = [47]
  · rw [if_pos h, if_pos h]; rfl
  · rw [if_neg h, if_neg h]
    by_cases h0 : L p = []
    · rw [if_pos h0, cantonref01_Split.j0, if_pos rfl, h0]; rfl
    · have hpos : 0 < (L p).length := List.length_pos_iff.2 h0
      obtain ⟨d, hd, hb, _⟩ := bt_at2 p 0 (by omega)
      rw [List.drop_zero] at hd
      rw [if_neg h0, if_pos (by omega), show (0 : Int) = ((0 : Nat) : Int) by rfl, hb, cantonref01_Split.j0]
      by_cases e : d = 47
      · subst e
        have e2 : ((((47 : UInt8).toNat : Nat) : Int) != 47) = false := by decide
        rw [e2, if_neg (by simp)]
        have := split_loop p hs (p.size - 1) K 1 1 [] ((L p).length + 1) (by omega) (by omega) (by omega) (by simp) (by simp) (by omega)
        rw [show (1 : Int) = ((1 : Nat) : Int) by rfl, show ([] : List ByteArray) = ([] : List (List UInt8)).map B by rfl, this]
        conv => rhs; rw [hd]
        conv => lhs; rw [hd]
        rfl
      · have e2 : (((d.toNat : Nat) : Int) != 47) = true := by
          rw [bne_iff_ne]
          intro h
          exact e (UInt8.toNat_inj.1 (by show d.toNat = 47; omega))
        rw [e2, if_pos rfl, hd]
        show _ = ans (if d = 47 then _ else none)
        rw [if_neg e]; rfl

theorem rd_map (ls : List (List UInt8)) (i : Nat) (h : i < ls.length) : rdOf ByteArray.empty (ls.map B) (i : Int) = B ls[i] := by
  unfold rdOf
  simp [List.getD, h]
theorem ref_right (p : ByteArray) (hs : p.size ≤ 10000) (K : Nat) (hK : 50000 ≤ K) : cantonref01_Right.f K p = path_Right.f p := by
  unfold cantonref01_Right.f path_Right.f
  rw [ref_split p hs K hK]
theorem ref_right_is (p : ByteArray) (hs : p.size ≤ 10000) (K : Nat) (hK : 50000 ≤ K) : cantonref01_Right.f K p = some (isP p) := by rw [ref_right p hs K hK, right_is]
end Go.Proofs.Ytclomgbiomojjaa.PathF
