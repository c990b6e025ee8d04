/- Ranges: what the functions of the package owned answer, of lists alone: Right, Of, the place of a prefix, put. -/
import Derived.Test.YtinjajpnbbknnaaPathB
import Derived.Test.YtinjajpnbbknnaaRPut
import Derived.Test.YtinjajpnbbknnaaQx5
import Derived.Test.YtinjajpnbbknnaaQx7
namespace Go.Proofs.Ytinjajpnbbknnaa.Rng
open Go Go.RowKit Go.Proofs.Ytinjajpnbbknnaa.Rune Go.Proofs.Ytinjajpnbbknnaa.Split Go.Proofs.Ytinjajpnbbknnaa.PathT Go.Proofs.Ytinjajpnbbknnaa.PathF Go.Proofs.Ytinjajpnbbknnaa.Q Go.Proofs.Ytinjajpnbbknnaa.FRange Go.Proofs.Ytinjajpnbbknnaa.RPut Go.Proofs.YtinjajpnbbknnaaW.PrintWords Go.Proofs.YtinjajpnbbknnaaW.PrintLast Go.Proofs.YtinjajpnbbknnaaW.PrintMore

abbrev S := S45
abbrev rd (l : List S) (i : Int) : S := rd_T45 l i
theorem rd_get (l : List S) (i : Nat) (h : i < l.length) : rd l (i : Int) = l[i] := by
  unfold rd rd_T45; simp [h]
theorem rd_mid (pre post : List S) (x : S) : rd (pre ++ x :: post) (pre.length : Int) = x := by
  rw [rd_get _ _ (by simp)]; simp
def okE (x : S) : Bool := isP x.f0 && (decide (0 ≤ x.f1) && (decide (x.f1 ≤ 281474976710656) && (decide (1 ≤ x.f2) && decide (x.f2 ≤ 3))))
def okFrom : Option S → List S → Bool
  | _, [] => true
  | none, x :: r => okE x && okFrom (some x) r
  | some p, x :: r => okE x && (lessB p.f0 x.f0 && okFrom (some x) r)
def Less (x y : S) : Prop := lessB x.f0 y.f0 = true
theorem okFrom_some : ∀ (r : List S) (p : S), okFrom (some p) r = true ↔ (∀ x ∈ r, okE x = true) ∧ (p :: r).Pairwise Less
  | [], p => by simp [okFrom]
  | x :: r, p => by
    rw [okFrom, Bool.and_eq_true, Bool.and_eq_true, okFrom_some r x]
    constructor
    · rintro ⟨h1, h2, h3, h4⟩
      refine ⟨fun y hy => ?_, ?_⟩
      · rcases List.mem_cons.1 hy with rfl | hy
        · exact h1
        · exact h3 y hy
      · refine List.pairwise_cons.2 ⟨fun y hy => ?_, h4⟩
        rcases List.mem_cons.1 hy with rfl | hy
        · exact h2
        · exact lessB_trans h2 ((List.pairwise_cons.1 h4).1 y hy)
    · rintro ⟨h1, h2⟩
      have h3 := List.pairwise_cons.1 h2
      exact ⟨h1 x (by simp), h3.1 x (by simp), fun y hy => h1 y (by simp [hy]), h3.2⟩
theorem okFrom_none (l : List S) : okFrom none l = true ↔ (∀ x ∈ l, okE x = true) ∧ l.Pairwise Less := by
  cases l with
  | nil => simp [okFrom]
  | cons x r =>
    rw [okFrom, Bool.and_eq_true, okFrom_some]
    constructor
    · rintro ⟨h1, h2, h3⟩
      refine ⟨fun y hy => ?_, h3⟩
      rcases List.mem_cons.1 hy with rfl | hy
      · exact h1
      · exact h2 y hy
    · rintro ⟨h1, h2⟩
      exact ⟨h1 x (by simp), fun y hy => h1 y (by simp [hy]), h2⟩
def RightB (l : List S) : Bool := okFrom none l && decide (l.length ≤ 32)
structure RightM (l : List S) : Prop where
  ok : ∀ x ∈ l, okE x = true
  up : l.Pairwise Less
  few : l.length ≤ 32
theorem right_iff (l : List S) : RightB l = true ↔ RightM l := by
  unfold RightB
  simp only [Bool.and_eq_true, decide_eq_true_eq]
  rw [okFrom_none]
  constructor
  · rintro ⟨⟨h1, h2⟩, h3⟩
    exact ⟨h1, h2, h3⟩
  · rintro ⟨h1, h2, h3⟩
    exact ⟨⟨h1, h2⟩, h3⟩
theorem last_get (pre : List S) (h : pre ≠ []) (post : List S) : ∃ y, pre.getLast? = some y ∧ rd (pre ++ post) ((pre.length : Int) - 1) = y := by
  have hl : 0 < pre.length := List.length_pos_iff.2 h
  refine ⟨pre.getLast h, List.getLast?_eq_some_getLast h, ?_⟩
  rw [show ((pre.length : Int) - 1) = ((pre.length - 1 : Nat) : Int) by omega, rd_get _ _ (by simp; omega), List.getElem_append_left (by omega), List.getLast_eq_getElem]
theorem right_loop (l : List S) (hl : l.length ≤ 9223372036854775807) : ∀ (post pre : List S) (k : Nat), l = pre ++ post → post.length < k →
    owned_Right.l0 k l l (l.length : Int) (pre.length : Int) = some (okFrom pre.getLast? post && decide (l.length ≤ 32))
  | post, pre, 0, _, h => absurd h (by omega)
  | [], pre, k + 1, he, _ => by
    rw [List.append_nil] at he
    subst he
    rw [owned_Right.l0, if_neg (by omega)]
    have e1 : okFrom l.getLast? [] = true := by cases l.getLast? <;> rfl
    rw [e1, Bool.true_and]
    congr 2
    exact propext ⟨fun h => by omega, fun h => by omega⟩
  | x :: r, pre, k + 1, he, hk => by
    have hlen : l.length = pre.length + (r.length + 1) := by rw [he]; simp
    have hx : rd l (pre.length : Int) = x := by rw [he]; exact rd_mid pre r x
    have ih := right_loop l hl r (pre ++ [x]) k (by rw [he]; simp) (by simp at hk; omega)
    rw [List.length_append, List.length_singleton, show (pre ++ [x]).getLast? = some x by simp] at ih
    have hw : wrap64 ((pre.length : Int) + 1) = ((pre.length + 1 : Nat) : Int) := by rw [w64 (by omega) (by omega)]; omega
    rw [owned_Right.l0, if_pos (by omega), if_pos (by omega), if_pos (by omega)]
    show (path_Right.f (rd l (pre.length : Int)).f0).bind _ = _
    simp only [show rd_T45 l (pre.length : Int) = x from hx, right_is, Option.bind_some, hw, ih]
    have hcons : okFrom pre.getLast? (x :: r) = (okE x && ((match pre.getLast? with | none => true | some p => lessB p.f0 x.f0) && okFrom (some x) r)) := by
      cases pre.getLast? <;> simp [okFrom]
    rw [hcons]
    unfold okE
    by_cases h1 : isP x.f0 = true
    · rw [if_pos h1, h1]
      by_cases h4 : x.f1 < 0
      · rw [if_pos h4, decide_eq_false (show ¬ 0 ≤ x.f1 by omega)]; rfl
      · rw [if_neg h4, decide_eq_true (show 0 ≤ x.f1 by omega)]
        by_cases h5 : x.f1 > 281474976710656
        · rw [if_pos h5, decide_eq_false (show ¬ x.f1 ≤ 281474976710656 by omega)]; rfl
        · rw [if_neg h5, decide_eq_true (show x.f1 ≤ 281474976710656 by omega)]
          by_cases h8 : x.f2 < 1
          · rw [if_pos h8, decide_eq_false (show ¬ 1 ≤ x.f2 by omega)]; rfl
          · rw [if_neg h8, decide_eq_true (show 1 ≤ x.f2 by omega)]
            by_cases h9 : x.f2 > 3
            · rw [if_pos h9, decide_eq_false (show ¬ x.f2 ≤ 3 by omega)]; rfl
            · rw [if_neg h9, decide_eq_true (show x.f2 ≤ 3 by omega)]
              by_cases h6 : (pre.length : Int) > 0
              · have hne : pre ≠ [] := fun e => by rw [e] at h6; simp at h6
                obtain ⟨y, hy, hyr⟩ := last_get pre hne (x :: r)
                rw [← he] at hyr
                have hw2 : wrap64 ((pre.length : Int) - 1) = (pre.length : Int) - 1 := w64 (by omega) (by omega)
                rw [if_pos h6, hw2, if_pos (by omega), if_pos (by omega), show rd_T45 l ((pre.length : Int) - 1) = y from hyr, hy]
                show (if lessB y.f0 x.f0 = true then _ else _) = _
                by_cases h7 : lessB y.f0 x.f0 = true
                · rw [if_pos h7]; simp [h7]
                · rw [if_neg h7]; simp [h7]
              · have hne : pre = [] := by
                  cases pre with
                  | nil => rfl
                  | cons a b => simp at h6
                rw [if_neg h6, hne]
                first | rfl | simp
    · rw [if_neg h1]
      simp only [Bool.not_eq_true] at h1
      rw [h1]; rfl
theorem right_is (l : List S) (hl : l.length ≤ 9223372036854775807) (k : Nat) (hk : l.length < k) : owned_Right.f k l = some (RightB l) := by
  unfold owned_Right.f
  exact right_loop l hl l [] k rfl hk
/-! The range of a directory. -/
def stepO (d : ByteArray) (o : Option S) (x : S) : Option S := if inP d x.f0 = true then (match o with | none => some x | some b => if b.f0.size < x.f0.size then some x else some b) else o
def ofO (l : List S) (d : ByteArray) : Option S := l.foldl (stepO d) none
/-- a place, and what lies there -/
def Rel (l : List S) (z : Int) (o : Option S) : Prop := (z = -1 ∧ o = none) ∨ ∃ a : Nat, z = (a : Int) ∧ a < l.length ∧ o = some (rd l (a : Int))
theorem of_loop (l : List S) (d : ByteArray) (hl : l.length ≤ 9223372036854775806) : ∀ (post pre : List S) (k : Nat) (z : Int) (o : Option S), l = pre ++ post → l.length + post.length + 1 < k → Rel l z o →
    ∃ y : Int, Rel l y (post.foldl (stepO d) o) ∧ owned_Of.l0 k l d z l (l.length : Int) (pre.length : Int) = some (if RightB l = true then y else -1)
  | post, pre, 0, z, o, _, h, _ => absurd h (by omega)
  | [], pre, k + 1, z, o, he, hk, hR => by
    rw [List.append_nil] at he
    subst he
    refine ⟨z, hR, ?_⟩
    simp only [List.length_nil] at hk
    rw [owned_Of.l0, if_neg (by omega), right_is l (by omega) k (by omega), Option.bind_some]
    by_cases h : RightB l = true
    · rw [if_pos h, if_pos h]
    · rw [if_neg h, if_neg h]
  | x :: r, pre, k + 1, z, o, he, hk, hR => by
    have hlen : l.length = pre.length + (r.length + 1) := by rw [he]; simp
    have hx : rd l (pre.length : Int) = x := by rw [he]; exact rd_mid pre r x
    have hw : wrap64 ((pre.length : Int) + 1) = (((pre ++ [x]).length : Nat) : Int) := by rw [w64 (by omega) (by omega)]; simp
    simp only [List.length_cons] at hk
    have go := fun z o hR => of_loop l d hl r (pre ++ [x]) k z o (by rw [he]; simp) (by omega) hR
    have hnew : Rel l (pre.length : Int) (some x) := .inr ⟨pre.length, rfl, by omega, by rw [hx]⟩
    rw [owned_Of.l0, if_pos (by omega), if_pos (by omega), if_pos (by omega), PathF.in_is _ _ k (by omega), Option.bind_some]
    simp only [hw, show rd_T45 l (pre.length : Int) = x from hx]
    rw [List.foldl_cons]
    unfold stepO
    by_cases h1 : inP d x.f0 = true
    · rw [if_pos h1, if_pos h1]
      rcases hR with ⟨rfl, rfl⟩ | ⟨a, rfl, ha, rfl⟩
      · rw [if_pos (by omega)]
        exact go _ _ hnew
      · rw [if_neg (by omega), if_pos (by omega), if_pos (by omega)]
        show ∃ y, Rel l y (r.foldl (stepO d) (if (rd l (a : Int)).f0.size < x.f0.size then some x else some (rd l (a : Int)))) ∧ (if (x.f0.size : Int) > ((rd l (a : Int)).f0.size : Int) then _ else _) = _
        by_cases h5 : (rd l (a : Int)).f0.size < x.f0.size
        · rw [if_pos h5, if_pos (by omega)]
          exact go _ _ hnew
        · rw [if_neg h5, if_neg (by omega)]
          exact go _ _ (.inr ⟨a, rfl, ha, rfl⟩)
    · rw [if_neg h1, if_neg h1]
      exact go _ _ hR
/-- the range of a directory, of ranges that may be -/
def ofR (l : List S) (d : ByteArray) : Option S := if RightB l = true then ofO l d else none
theorem rel_if {l : List S} {y : Int} {d : ByteArray} (h : Rel l y (ofO l d)) : Rel l (if RightB l = true then y else -1) (ofR l d) := by
  unfold ofR
  by_cases c : RightB l = true
  · rw [if_pos c, if_pos c]; exact h
  · rw [if_neg c, if_neg c]; exact .inl ⟨rfl, rfl⟩
theorem of_is (l : List S) (d : ByteArray) (hl : l.length ≤ 9223372036854775806) (k : Nat) (hk : 2 * l.length + 1 < k) : ∃ y : Int, Rel l y (ofR l d) ∧ owned_Of.f k l d = some y := by
  unfold owned_Of.f
  obtain ⟨y, h1, h2⟩ := of_loop l d hl l [] k (-1) none rfl (by omega) (.inl ⟨rfl, rfl⟩)
  exact ⟨_, rel_if h1, h2⟩
/-! The place of a prefix; put. -/
def getO (l : List S) (p : ByteArray) : Option S := l.find? (fun y => decide (y.f0 = p))
theorem cmp_lt (p : ByteArray) (x : S) : cmpP p x < 0 ↔ lessB x.f0 p = true := by
  unfold cmpP lessB
  rw [toL, toL]
  exact (cmp_less _ _).1
theorem cmp_zero (p : ByteArray) (x : S) : cmpP p x = 0 ↔ x.f0 = p := by
  unfold cmpP
  refine (cmp_less _ _).2.trans ⟨fun h => L_inj h, fun h => by rw [h]⟩
theorem bs_spec (cmp : S → Int) (l : List S) (n : Nat) (hmono : ∀ i j : Nat, i < j → j < n → cmp (rd l (j : Int)) < 0 → cmp (rd l (i : Int)) < 0) : ∀ (k i j : Nat), j - i ≤ k → i ≤ j → j ≤ n →
    (∀ m : Nat, m < i → cmp (rd l (m : Int)) < 0) → (∀ m : Nat, j ≤ m → m < n → ¬ cmp (rd l (m : Int)) < 0) →
    (∀ m : Nat, m < BRange.bs cmp l k i j → cmp (rd l (m : Int)) < 0) ∧ (∀ m : Nat, BRange.bs cmp l k i j ≤ m → m < n → ¬ cmp (rd l (m : Int)) < 0) ∧ BRange.bs cmp l k i j ≤ n
  | 0, i, j, hk, hij, hj, h1, h2 => by
    obtain rfl : i = j := by omega
    exact ⟨h1, h2, hj⟩
  | k + 1, i, j, hk, hij, hj, h1, h2 => by
    unfold BRange.bs
    by_cases hlt : i < j
    · rw [if_pos hlt]
      by_cases hc : cmp (rd_T45 l ((i + j) / 2 : Nat)) < 0
      · rw [if_pos hc]
        refine bs_spec cmp l n hmono k _ _ (by omega) (by omega) hj (fun m hm => ?_) h2
        by_cases e : m = (i + j) / 2
        · rw [e]; exact hc
        · exact hmono m ((i + j) / 2) (by omega) (by omega) hc
      · rw [if_neg hc]
        refine bs_spec cmp l n hmono k _ _ (by omega) (by omega) (by omega) h1 (fun m hm hmn => ?_)
        by_cases e : m = (i + j) / 2
        · rw [e]; exact hc
        · intro hm2
          exact hc (hmono ((i + j) / 2) m (by omega) hmn hm2)
    · rw [if_neg hlt]
      obtain rfl : i = j := by omega
      exact ⟨h1, h2, hj⟩
theorem up_get {l : List S} (h : l.Pairwise Less) {i j : Nat} (hij : i < j) (hj : j < l.length) : lessB (rd l (i : Int)).f0 (rd l (j : Int)).f0 = true := by
  rw [rd_get l i (by omega), rd_get l j hj]
  exact List.pairwise_iff_getElem.1 h i j (by omega) hj hij
theorem at_spec {l : List S} (h : l.Pairwise Less) (p : ByteArray) : at_ p l ≤ l.length ∧ (∀ m : Nat, m < at_ p l → lessB (rd l (m : Int)).f0 p = true) ∧ ∀ m : Nat, at_ p l ≤ m → m < l.length → lessB (rd l (m : Int)).f0 p = false := by
  obtain ⟨h1, h2, h3⟩ := bs_spec (cmpP p) l l.length (fun i j hij hj hc => (cmp_lt p _).2 (lessB_trans (up_get h hij hj) ((cmp_lt p _).1 hc))) l.length 0 l.length (by omega) (by omega) (by omega) (fun m hm => absurd hm (by omega)) (fun m hm hm2 => absurd hm2 (by omega))
  exact ⟨h3, fun m hm => (cmp_lt p _).1 (h1 m hm), fun m hm hm2 => by
    have := h2 m hm hm2
    rw [cmp_lt] at this
    simpa using this⟩
/-- a row that rises, parted at a prefix -/
theorem parts {l : List S} (h : l.Pairwise Less) (p : ByteArray) : (∀ y ∈ l.take (at_ p l), lessB y.f0 p = true) ∧ ∀ y ∈ l.drop (at_ p l), lessB y.f0 p = false := by
  obtain ⟨h1, h2, h3⟩ := at_spec h p
  constructor
  · intro y hy
    obtain ⟨j, hj, rfl⟩ := List.getElem_of_mem hy
    rw [List.getElem_take]
    simp at hj
    have := h2 j (by omega)
    rwa [rd_get l j (by omega)] at this
  · intro y hy
    obtain ⟨j, hj, rfl⟩ := List.getElem_of_mem hy
    rw [List.getElem_drop]
    simp at hj
    have := h3 (at_ p l + j) (by omega) (by omega)
    rwa [rd_get l _ (by omega)] at this
theorem getO_app {p : ByteArray} : ∀ (a b : List S), (∀ y ∈ a, lessB y.f0 p = true) → getO (a ++ b) p = getO b p
  | [], b, _ => rfl
  | y :: a, b, h => by
    unfold getO
    rw [List.cons_append, List.find?_cons, decide_eq_false (lessB_ne (h y (by simp)))]
    exact getO_app a b (fun z hz => h z (by simp [hz]))
theorem getO_drop {p : ByteArray} {y : S} {r : List S} (hu : (y :: r).Pairwise Less) (h : lessB y.f0 p = false) : getO (y :: r) p = if y.f0 = p then some y else none := by
  unfold getO
  rw [List.find?_cons]
  by_cases e : y.f0 = p
  · rw [decide_eq_true e, if_pos e]
  · rw [decide_eq_false e, if_neg e]
    show r.find? _ = none
    rw [List.find?_eq_none]
    intro z hz
    have h1 := (List.pairwise_cons.1 hu).1 z hz
    intro e2
    have e3 : z.f0 = p := by simpa using e2
    unfold Less at h1
    rw [e3, h] at h1; cases h1
theorem own_is {l : List S} (h : l.Pairwise Less) (p : ByteArray) : own_ p l = (getO l p).isSome ∧ (own_ p l = true → getO l p = some (rd l (at_ p l : Nat))) := by
  obtain ⟨h1, h2⟩ := parts h p
  have hd : (l.drop (at_ p l)).Pairwise Less := h.sublist (List.drop_sublist _ _)
  have hg : getO l p = getO (l.drop (at_ p l)) p := by
    conv => lhs; rw [← List.take_append_drop (at_ p l) l]
    exact getO_app _ _ h1
  unfold own_ BRange.bsB
  rw [hg]
  by_cases hlt : at_ p l < l.length
  · rw [List.drop_eq_getElem_cons hlt] at hd h2 ⊢
    rw [getO_drop hd (h2 _ List.mem_cons_self), decide_eq_true hlt, Bool.true_and]
    have e1 := rd_get l _ hlt
    have e2 : (cmpP p (rd_T45 l (at_ p l : Nat)) = 0) = (l[at_ p l].f0 = p) := by rw [← e1]; exact propext (cmp_zero p _)
    by_cases e : l[at_ p l].f0 = p
    · rw [if_pos e, decide_eq_true (e2 ▸ e)]
      exact ⟨rfl, fun _ => by rw [e1]⟩
    · rw [if_neg e, decide_eq_false (fun e3 => e (e2 ▸ e3))]
      exact ⟨rfl, fun h => by cases h⟩
  · rw [decide_eq_false hlt, List.drop_eq_nil_of_le (by omega)]
    exact ⟨rfl, fun h => by simp at h⟩
end Go.Proofs.Ytinjajpnbbknnaa.Rng
