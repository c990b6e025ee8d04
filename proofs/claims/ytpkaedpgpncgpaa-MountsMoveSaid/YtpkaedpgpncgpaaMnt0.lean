/- Mounts: what the functions of the package mounts answer, of lists alone. -/
import Derived.Test.YtpkaedpgpncgpaaPathB
import Derived.Test.YtpkaedpgpncgpaaIMount
import Derived.Test.YtpkaedpgpncgpaaQx3
import Derived.Test.YtpkaedpgpncgpaaQx5
namespace Go.Proofs.Ytpkaedpgpncgpaa.Mnt
open Go Go.RowKit Go.Proofs.Ytpkaedpgpncgpaa.Rune Go.Proofs.Ytpkaedpgpncgpaa.Split Go.Proofs.Ytpkaedpgpncgpaa.PathT Go.Proofs.Ytpkaedpgpncgpaa.PathF Go.Proofs.Ytpkaedpgpncgpaa.Q Go.Proofs.YtpkaedpgpncgpaaW.PrintWords Go.Proofs.YtpkaedpgpncgpaaW.PrintLast Go.Proofs.YtpkaedpgpncgpaaW.PrintMore

abbrev S := S27
abbrev rd (l : List S) (i : Int) : S := rd_T27 l i
theorem rd_get (l : List S) (i : Nat) (h : i < l.length) : rd l (i : Int) = l[i] := IMount.rd_is l i h
theorem rd_mid (pre post : List S) (x : S) : rd (pre ++ x :: post) (pre.length : Int) = x := by
  rw [rd_get _ _ (by simp)]; simp
def okE (x : S) : Bool := isP x.f0 && (decide (0 ≤ x.f1) && (decide (x.f1 < 4) && (decide (0 ≤ x.f3) && (decide (x.f3 < 4) && (decide (0 ≤ x.f2) && decide (x.f2 ≤ 281474976710656))))))
theorem okE_iff (x : S) : okE x = true ↔ isP x.f0 = true ∧ (0 ≤ x.f1 ∧ x.f1 < 4) ∧ (0 ≤ x.f3 ∧ x.f3 < 4) ∧ 0 ≤ x.f2 ∧ x.f2 ≤ 281474976710656 := by
  unfold okE
  simp only [Bool.and_eq_true, decide_eq_true_eq]
  constructor
  · rintro ⟨h1, h2, h3, h4, h5, h6, h7⟩; exact ⟨h1, ⟨h2, h3⟩, ⟨h4, h5⟩, h6, h7⟩
  · rintro ⟨h1, ⟨h2, h3⟩, ⟨h4, h5⟩, h6, h7⟩; exact ⟨h1, h2, h3, h4, h5, h6, h7⟩
def okFrom : Option S → List S → Bool
  | _, [] => true
  | none, x :: r => okE x && okFrom (some x) r
  | some p, x :: r => okE x && (lessB p.f0 x.f0 && okFrom (some x) r)
def Less (x y : S) : Prop := lessB x.f0 y.f0 = true
theorem okFrom_some : ∀ (r : List S) (p : S), okFrom (some p) r = true ↔ (∀ x ∈ r, okE x = true) ∧ (p :: r).Pairwise Less
  | [], p => by simp [okFrom]
  | x :: r, p => by
    rw [okFrom, Bool.and_eq_true, Bool.and_eq_true, okFrom_some r x]
    constructor
    · rintro ⟨h1, h2, h3, h4⟩
      refine ⟨fun y hy => ?_, ?_⟩
      · rcases List.mem_cons.1 hy with rfl | hy
        · exact h1
        · exact h3 y hy
      · refine List.pairwise_cons.2 ⟨fun y hy => ?_, h4⟩
        rcases List.mem_cons.1 hy with rfl | hy
        · exact h2
        · exact lessB_trans h2 ((List.pairwise_cons.1 h4).1 y hy)
    · rintro ⟨h1, h2⟩
      have h3 := List.pairwise_cons.1 h2
      exact ⟨h1 x (by simp), h3.1 x (by simp), fun y hy => h1 y (by simp [hy]), h3.2⟩
theorem okFrom_none (l : List S) : okFrom none l = true ↔ (∀ x ∈ l, okE x = true) ∧ l.Pairwise Less := by
  cases l with
  | nil => simp [okFrom]
  | cons x r =>
    rw [okFrom, Bool.and_eq_true, okFrom_some]
    constructor
    · rintro ⟨h1, h2, h3⟩
      refine ⟨fun y hy => ?_, h3⟩
      rcases List.mem_cons.1 hy with rfl | hy
      · exact h1
      · exact h2 y hy
    · rintro ⟨h1, h2⟩
      exact ⟨h1 x (by simp), fun y hy => h1 y (by simp [hy]), h2⟩
def tailB (l : List S) : Bool := decide (0 < l.length) && (decide (l.length ≤ 32) && ((rd l 0).f0.toList == [47]))
def RightB (l : List S) : Bool := okFrom none l && tailB l
structure RightM (l : List S) : Prop where
  ok : ∀ x ∈ l, okE x = true
  up : l.Pairwise Less
  pos : 0 < l.length
  few : l.length ≤ 32
  root : (rd l 0).f0 = ⟨#[47]⟩
theorem right_iff (l : List S) : RightB l = true ↔ RightM l := by
  unfold RightB tailB
  simp only [Bool.and_eq_true, decide_eq_true_eq, beq_iff_eq]
  rw [okFrom_none, toL]
  constructor
  · rintro ⟨⟨h1, h2⟩, h3, h4, h5⟩
    exact ⟨h1, h2, h3, h4, L_inj h5⟩
  · rintro ⟨h1, h2, h3, h4, h5⟩
    exact ⟨⟨h1, h2⟩, h3, h4, by rw [h5]; rfl⟩
theorem group_is (x : Int) : mounts_group.f x = some (decide (0 ≤ x) && decide (x < 4)) := by
  unfold mounts_group.f
  by_cases h : x ≥ 0
  · rw [if_pos h, decide_eq_true h]; rfl
  · rw [if_neg h, decide_eq_false h]; rfl
theorem last_get (pre : List S) (h : pre ≠ []) (post : List S) : ∃ y, pre.getLast? = some y ∧ rd (pre ++ post) ((pre.length : Int) - 1) = y := by
  have hl : 0 < pre.length := List.length_pos_iff.2 h
  refine ⟨pre.getLast h, List.getLast?_eq_some_getLast h, ?_⟩
  rw [show ((pre.length : Int) - 1) = ((pre.length - 1 : Nat) : Int) by omega, rd_get _ _ (by simp; omega), List.getElem_append_left (by omega), List.getLast_eq_getElem]
theorem right_loop (l : List S) (hl : l.length ≤ 9223372036854775807) : ∀ (post pre : List S) (k : Nat), l = pre ++ post → post.length < k →
    mounts_Right.l0 k l l (l.length : Int) (pre.length : Int) = some (okFrom pre.getLast? post && tailB l)
  | post, pre, 0, _, h => absurd h (by omega)
  | [], pre, k + 1, he, _ => by
    rw [List.append_nil] at he
    subst he
    rw [mounts_Right.l0, if_neg (by omega)]
    have e1 : okFrom l.getLast? [] = true := by cases l.getLast? <;> rfl
    rw [e1, Bool.true_and]
    unfold tailB
    by_cases h1 : (l.length : Int) > 0
    · rw [if_pos h1, decide_eq_true (show 0 < l.length by omega)]
      by_cases h2 : (l.length : Int) ≤ 32
      · rw [if_pos h2, if_pos (by omega), decide_eq_true (show l.length ≤ 32 by omega)]; rfl
      · rw [if_neg h2, decide_eq_false (show ¬ l.length ≤ 32 by omega)]; rfl
    · rw [if_neg h1, decide_eq_false (show ¬ 0 < l.length by omega)]; rfl
  | x :: r, pre, k + 1, he, hk => by
    have hlen : l.length = pre.length + (r.length + 1) := by rw [he]; simp
    have hx : rd l (pre.length : Int) = x := by rw [he]; exact rd_mid pre r x
    have ih := right_loop l hl r (pre ++ [x]) k (by rw [he]; simp) (by simp at hk; omega)
    rw [List.length_append, List.length_singleton, show (pre ++ [x]).getLast? = some x by simp] at ih
    have hw : wrap64 ((pre.length : Int) + 1) = ((pre.length + 1 : Nat) : Int) := by rw [w64 (by omega) (by omega)]; omega
    rw [mounts_Right.l0, if_pos (by omega), if_pos (by omega), if_pos (by omega)]
    show (path_Right.f (rd l (pre.length : Int)).f0).bind _ = _
    simp only [show rd_T27 l (pre.length : Int) = x from hx, right_is, Option.bind_some, group_is, hw, ih]
    have hcons : okFrom pre.getLast? (x :: r) = (okE x && ((match pre.getLast? with | none => true | some p => lessB p.f0 x.f0) && okFrom (some x) r)) := by
      cases pre.getLast? <;> simp [okFrom]
    rw [hcons]
    unfold okE
    by_cases h1 : isP x.f0 = true
    · rw [if_pos h1, h1]
      by_cases h2 : (decide (0 ≤ x.f1) && decide (x.f1 < 4)) = true
      · rw [if_pos h2]
        have h2' := h2
        simp only [Bool.and_eq_true] at h2'
        by_cases h3 : (decide (0 ≤ x.f3) && decide (x.f3 < 4)) = true
        · rw [if_pos h3]
          have h3' := h3
          simp only [Bool.and_eq_true] at h3'
          rw [h2'.1, h2'.2, h3'.1, h3'.2]
          by_cases h4 : x.f2 < 0
          · rw [if_pos h4, decide_eq_false (show ¬ 0 ≤ x.f2 by omega)]; rfl
          · rw [if_neg h4, decide_eq_true (show 0 ≤ x.f2 by omega)]
            by_cases h5 : x.f2 > 281474976710656
            · rw [if_pos h5, decide_eq_false (show ¬ x.f2 ≤ 281474976710656 by omega)]; rfl
            · rw [if_neg h5, decide_eq_true (show x.f2 ≤ 281474976710656 by omega)]
              by_cases h6 : (pre.length : Int) > 0
              · have hne : pre ≠ [] := fun e => by rw [e] at h6; simp at h6
                obtain ⟨y, hy, hyr⟩ := last_get pre hne (x :: r)
                rw [← he] at hyr
                have hw2 : wrap64 ((pre.length : Int) - 1) = (pre.length : Int) - 1 := w64 (by omega) (by omega)
                rw [if_pos h6, hw2, if_pos (by omega), if_pos (by omega), show rd_T27 l ((pre.length : Int) - 1) = y from hyr, hy]
                show (if lessB y.f0 x.f0 = true then _ else _) = _
                by_cases h7 : lessB y.f0 x.f0 = true
                · rw [if_pos h7]; simp [h7]
                · rw [if_neg h7]; simp [h7]
              · have hne : pre = [] := by
                  cases pre with
                  | nil => rfl
                  | cons a b => simp at h6
                rw [if_neg h6, hne]
                first | rfl | simp
        · rw [if_neg h3]
          have : (decide (0 ≤ x.f3) && (decide (x.f3 < 4) && (decide (0 ≤ x.f2) && decide (x.f2 ≤ 281474976710656)))) = false := by
            rw [← Bool.and_assoc]; simp only [Bool.not_eq_true] at h3; rw [h3]; rfl
          rw [this]; simp
      · rw [if_neg h2]
        have : ∀ b, (decide (0 ≤ x.f1) && (decide (x.f1 < 4) && b)) = false := fun b => by
          rw [← Bool.and_assoc]; simp only [Bool.not_eq_true] at h2; rw [h2]; rfl
        rw [this]; rfl
    · rw [if_neg h1]
      simp only [Bool.not_eq_true] at h1
      rw [h1]; rfl
theorem right_is (l : List S) (hl : l.length ≤ 9223372036854775807) (k : Nat) (hk : l.length < k) : mounts_Right.f k l = some (RightB l) := by
  unfold mounts_Right.f
  have := right_loop l hl l [] k rfl hk
  exact this

/-! The mount of a directory. -/
structure IsOf (l : List S) (d : ByteArray) (a : Nat) : Prop where
  lt : a < l.length
  isin : inP d (rd l (a : Int)).f0 = true
  most : ∀ j : Nat, j < l.length → inP d (rd l (j : Int)).f0 = true → (rd l (j : Int)).f0.size ≤ (rd l (a : Int)).f0.size
def Inv (l : List S) (d : ByteArray) (i : Nat) (x : Int) : Prop :=
  (x = -1 ∧ ∀ j : Nat, j < i → inP d (rd l (j : Int)).f0 = false) ∨
  ∃ a : Nat, x = (a : Int) ∧ a < i ∧ inP d (rd l (a : Int)).f0 = true ∧ ∀ j : Nat, j < i → inP d (rd l (j : Int)).f0 = true → (rd l (j : Int)).f0.size ≤ (rd l (a : Int)).f0.size
theorem inv_new {l : List S} {d : ByteArray} {i : Nat} {x : Int} (h : Inv l d i x) (hn : inP d (rd l (i : Int)).f0 = true) (hs : x < 0 ∨ ∃ a : Nat, x = (a : Int) ∧ (rd l (a : Int)).f0.size < (rd l (i : Int)).f0.size) : Inv l d (i + 1) (i : Int) := by
  refine .inr ⟨i, rfl, by omega, hn, fun j hj hjn => ?_⟩
  by_cases e : j = i
  · rw [e]; exact Nat.le_refl _
  · rcases h with ⟨rfl, h⟩ | ⟨a, rfl, _, _, h⟩
    · rw [h j (by omega)] at hjn; cases hjn
    · have := h j (by omega) hjn
      rcases hs with hs | ⟨a', e', hs⟩
      · omega
      · obtain rfl : a = a' := by omega
        omega
theorem inv_keep {l : List S} {d : ByteArray} {i : Nat} {x : Int} (h : Inv l d i x) (hs : inP d (rd l (i : Int)).f0 = false ∨ ∃ a : Nat, x = (a : Int) ∧ (rd l (i : Int)).f0.size ≤ (rd l (a : Int)).f0.size) : Inv l d (i + 1) x := by
  rcases h with ⟨rfl, h⟩ | ⟨a, rfl, h1, h2, h⟩
  · refine .inl ⟨rfl, fun j hj => ?_⟩
    by_cases e : j = i
    · rcases hs with hs | ⟨a, e2, _⟩
      · rw [e]; exact hs
      · omega
    · exact h j (by omega)
  · refine .inr ⟨a, rfl, by omega, h2, fun j hj hjn => ?_⟩
    by_cases e : j = i
    · subst e
      rcases hs with hs | ⟨a', e2, hs⟩
      · rw [hs] at hjn; cases hjn
      · obtain rfl : a = a' := by omega
        exact hs
    · exact h j (by omega) hjn
theorem of_loop (l : List S) (d : ByteArray) (hl : l.length ≤ 9223372036854775806) : ∀ (j i k : Nat) (x : Int), i + j = l.length → j < k → l.length + j + 1 < k → Inv l d i x →
    ∃ y : Int, Inv l d l.length y ∧ mounts_Of.l0 k l d x l (l.length : Int) (i : Int) = some (if RightB l = true then y else -1)
  | j, i, 0, x, _, h, _, _ => absurd h (by omega)
  | 0, i, k + 1, x, hi, _, hk, hI => by
    obtain rfl : i = l.length := by omega
    refine ⟨x, hI, ?_⟩
    rw [mounts_Of.l0, if_neg (by omega), right_is l (by omega) k (by omega), Option.bind_some]
    by_cases h : RightB l = true
    · rw [if_pos h, if_pos h]
    · rw [if_neg h, if_neg h]
  | j + 1, i, k + 1, x, hi, _, hk, hI => by
    have hw : wrap64 ((i : Int) + 1) = ((i + 1 : Nat) : Int) := by rw [w64 (by omega) (by omega)]; omega
    have go := fun x hI => of_loop l d hl j (i + 1) k x (by omega) (by omega) (by omega) hI
    rw [mounts_Of.l0, if_pos (by omega), if_pos (by omega), if_pos (by omega), PathF.in_is _ _ k (by omega), Option.bind_some]
    simp only [hw]
    show ∃ y, _ ∧ (if inP d (rd l (i : Int)).f0 = true then _ else _) = _
    by_cases h1 : inP d (rd l (i : Int)).f0 = true
    · rw [if_pos h1]
      by_cases h2 : x < 0
      · rw [if_pos h2]
        exact go _ (inv_new hI h1 (.inl h2))
      · rw [if_neg h2]
        have hI' := hI
        rcases hI' with ⟨rfl, _⟩ | ⟨a, rfl, ha, h3, h4⟩
        · omega
        · rw [if_pos (by omega), if_pos (by omega)]
          show ∃ y, _ ∧ (if ((rd l (i : Int)).f0.size : Int) > ((rd l (a : Int)).f0.size : Int) then _ else _) = _
          by_cases h5 : ((rd l (i : Int)).f0.size : Int) > ((rd l (a : Int)).f0.size : Int)
          · rw [if_pos h5]
            exact go _ (inv_new hI h1 (.inr ⟨a, rfl, by omega⟩))
          · rw [if_neg h5]
            exact go _ (inv_keep hI (.inr ⟨a, rfl, by omega⟩))
    · rw [if_neg h1]
      exact go _ (inv_keep hI (.inl (by simpa using h1)))
theorem of_is (l : List S) (d : ByteArray) (hl : l.length ≤ 9223372036854775806) (k : Nat) (hk : 2 * l.length + 1 < k) :
    ∃ y : Int, Inv l d l.length y ∧ mounts_Of.f k l d = some (if RightB l = true then y else -1) := by
  unfold mounts_Of.f
  exact of_loop l d hl l.length 0 k (-1) (by omega) (by omega) (by omega) (.inl ⟨rfl, fun j hj => absurd hj (by omega)⟩)
theorem root_in {l : List S} (h : RightM l) {d : ByteArray} (hd : isP d = true) : inP d (rd l ((0 : Nat) : Int)).f0 = true := by
  rw [show (((0 : Nat) : Int)) = 0 by rfl, h.root, in_root, hd]
theorem inv_of {l : List S} (h : RightM l) {d : ByteArray} (hd : isP d = true) {y : Int} (hI : Inv l d l.length y) : ∃ a : Nat, y = (a : Int) ∧ IsOf l d a := by
  rcases hI with ⟨rfl, h1⟩ | ⟨a, rfl, h1, h2, h3⟩
  · have := h1 0 h.pos
    rw [root_in h hd] at this; cases this
  · exact ⟨a, rfl, h1, h2, h3⟩
theorem inv_no {l : List S} {d : ByteArray} (hd : isP d = false) {y : Int} (hI : Inv l d l.length y) : y = -1 := by
  rcases hI with ⟨rfl, _⟩ | ⟨a, rfl, _, h2, _⟩
  · rfl
  · rw [in_left h2] at hd; cases hd
theorem of_right {l : List S} (h : RightM l) {d : ByteArray} (hd : isP d = true) (k : Nat) (hk : 66 ≤ k) : ∃ a : Nat, mounts_Of.f k l d = some (a : Int) ∧ IsOf l d a := by
  have hf := h.few
  obtain ⟨y, hI, hy⟩ := of_is l d (by omega) k (by omega)
  obtain ⟨a, rfl, ha⟩ := inv_of h hd hI
  exact ⟨a, by rw [hy, if_pos ((right_iff l).2 h)], ha⟩
/-- prefixes of unlike places are unlike -/
theorem up_inj {l : List S} (h : l.Pairwise Less) {i j : Nat} (hi : i < l.length) (hj : j < l.length) (e : (rd l (i : Int)).f0 = (rd l (j : Int)).f0) : i = j := by
  rw [rd_get l i hi, rd_get l j hj] at e
  rcases Nat.lt_trichotomy i j with hlt | rfl | hlt
  · exact absurd e (lessB_ne (List.pairwise_iff_getElem.1 h i j hi hj hlt))
  · rfl
  · exact absurd e.symm (lessB_ne (List.pairwise_iff_getElem.1 h j i hj hi hlt))
theorem of_only {l : List S} (h : l.Pairwise Less) {d : ByteArray} {a b : Nat} (ha : IsOf l d a) (hb : IsOf l d b) : a = b := by
  have h1 := ha.most b hb.lt hb.isin
  have h2 := hb.most a ha.lt ha.isin
  exact up_inj h ha.lt hb.lt (in_eq (in_chain hb.isin ha.isin h1) h2)
end Go.Proofs.Ytpkaedpgpncgpaa.Mnt
