/- The order of texts: plain facts (where path.In is not at hand: else XPathB). -/
import Derived.Test.YtclomgbiomojjaaPath0
import Derived.Test.YtclomgbiomojjaaQx2
import Derived.KernelRfl
import Derived.Lib.Bytealg
/- What the printed functions path.Right and path.In answer, in lists of parts (any seat). -/
namespace Go.Proofs.Ytclomgbiomojjaa.PathF
open Go Go.RowKit Go.Proofs.Ytclomgbiomojjaa.Rune Go.Proofs.Ytclomgbiomojjaa.Split Go.Proofs.Ytclomgbiomojjaa.PathT Go.Proofs.Ytclomgbiomojjaa.Q Go.Proofs.YtclomgbiomojjaaW.PrintWords Go.Proofs.YtclomgbiomojjaaW.PrintLast Go.Proofs.YtclomgbiomojjaaW.PrintMore

theorem L_inj {a b : ByteArray} (h : L a = L b) : a = b := by rw [← BL a, ← BL b, h]
theorem L_len (a : ByteArray) : (L a).length = a.size := by simp [L]
theorem toL (a : ByteArray) : a.toList = L a := ByteArray.toList_eq ..
theorem L_drop (s : ByteArray) (a : Nat) : L (s.extract a s.size) = (L s).drop a := Lib.extract_to_end s a
theorem L_take (s : ByteArray) (k : Nat) : L (s.extract 0 k) = (L s).take k := by
  show (s.extract 0 k).data.toList = _
  simp [L]
theorem L_app (a b : ByteArray) : L (a ++ b) = L a ++ L b := by simp [L]
theorem L_B (l : List UInt8) : L (B l) = l := rfl
theorem B_eq {a : ByteArray} {l : List UInt8} (h : L a = l) : a = B l := by rw [← h, BL]
theorem w64 {x : Int} (h0 : -9223372036854775808 ≤ x) (h1 : x ≤ 9223372036854775807) : wrap64 x = x := by unfold wrap64; omega
theorem bt_L (s : ByteArray) (pre post : List UInt8) (c : UInt8) (h : L s = pre ++ c :: post) : bt s (pre.length : Int) = (c.toNat : Int) := by
  have hs : s.size = pre.length + 1 + post.length := by rw [← L_len, h]; simp; omega
  unfold bt
  rw [dif_pos (by simp; omega)]
  have : s[(pre.length : Int).toNat]'(by simp; omega) = (L s)[pre.length]'(by rw [L_len]; omega) := rfl
  rw [this]
  simp [h]

theorem split_some {p : ByteArray} {ls : List (List UInt8)} (h : OKs ls) (hp : L p = text ls) : path_Split.f p = some (ls.map B, true) := by
  unfold path_Split.f
  rw [hp, split_text h]
theorem split_none {p : ByteArray} (h : splitL (L p) = none) : path_Split.f p = some ([], false) := by
  unfold path_Split.f
  rw [h]
theorem right_some {p : ByteArray} {ls : List (List UInt8)} (h : OKs ls) (hp : L p = text ls) : path_Right.f p = some true := by
  unfold path_Right.f
  rw [split_some h hp]; rfl
theorem right_none {p : ByteArray} (h : splitL (L p) = none) : path_Right.f p = some false := by
  unfold path_Right.f
  rw [split_none h]; rfl
theorem path_cases (p : ByteArray) : splitL (L p) = none ∨ ∃ ls, OKs ls ∧ L p = text ls := by
  cases h : splitL (L p) with
  | none => exact .inl rfl
  | some ls => exact .inr ⟨ls, (splitL_iff _ _).1 h⟩
theorem size_of {p : ByteArray} {ls : List (List UInt8)} (h : OKs ls) (hp : L p = text ls) : p.size ≤ 78 := by
  rw [← L_len, hp]; exact text_len h

/-- is that a path; does one lie in another one -/
def isP (p : ByteArray) : Bool := (splitL (L p)).isSome
theorem right_is (p : ByteArray) : path_Right.f p = some (isP p) := by
  unfold isP
  rcases path_cases p with h | ⟨ls, h, hp⟩
  · rw [right_none h, h]; rfl
  · rw [right_some h hp, hp, split_text h]; rfl
end Go.Proofs.Ytclomgbiomojjaa.PathF
namespace Go.Proofs.Ytclomgbiomojjaa.PathF
open Go Go.RowKit Go.Proofs.Ytclomgbiomojjaa.Rune Go.Proofs.Ytclomgbiomojjaa.Split Go.Proofs.Ytclomgbiomojjaa.PathT Go.Proofs.Ytclomgbiomojjaa.Q

/-! The order of texts. -/
def lessB (a b : ByteArray) : Bool := Op.bytesLess a.toList b.toList
theorem less_irrefl : ∀ a : List UInt8, Op.bytesLess a a = false
  | [] => rfl
  | c :: a => by simp [Op.bytesLess, less_irrefl a]
theorem less_trans : ∀ {a b c : List UInt8}, Op.bytesLess a b = true → Op.bytesLess b c = true → Op.bytesLess a c = true
  | _, [], _, h, _ => by cases ‹List UInt8› <;> simp [Op.bytesLess] at h
  | _, _ :: _, [], _, h => by simp [Op.bytesLess] at h
  | [], _ :: _, _ :: _, _, _ => rfl
  | x :: a, y :: b, z :: c, h1, h2 => by
    simp only [Op.bytesLess, Bool.or_eq_true, decide_eq_true_eq, Bool.and_eq_true, beq_iff_eq] at h1 h2 ⊢
    rcases h1 with h1 | ⟨rfl, h1⟩
    · rcases h2 with h2 | ⟨rfl, h2⟩
      · exact .inl (UInt8.lt_trans h1 h2)
      · exact .inl h1
    · rcases h2 with h2 | ⟨rfl, h2⟩
      · exact .inl h2
      · exact .inr ⟨rfl, less_trans h1 h2⟩
theorem less_total : ∀ {a b : List UInt8}, Op.bytesLess a b = false → Op.bytesLess b a = false → a = b
  | [], [], _, _ => rfl
  | [], _ :: _, h, _ => by simp [Op.bytesLess] at h
  | _ :: _, [], _, h => by simp [Op.bytesLess] at h
  | x :: a, y :: b, h1, h2 => by
    simp only [Op.bytesLess, Bool.or_eq_false_iff, decide_eq_false_iff_not, Bool.and_eq_false_iff, beq_eq_false_iff_ne] at h1 h2
    have e : x = y := by
      have h3 := h1.1
      have h4 := h2.1
      apply UInt8.toNat_inj.1
      rw [UInt8.lt_iff_toNat_lt] at h3 h4
      omega
    subst e
    have h5 : Op.bytesLess a b = false := by
      rcases h1.2 with h | h
      · exact absurd rfl h
      · exact h
    have h6 : Op.bytesLess b a = false := by
      rcases h2.2 with h | h
      · exact absurd rfl h
      · exact h
    rw [less_total h5 h6]
theorem cmp_less : ∀ a b : List UInt8, (Lib.compareBytes a b < 0 ↔ Op.bytesLess a b = true) ∧ (Lib.compareBytes a b = 0 ↔ a = b)
  | [], [] => by simp [Lib.compareBytes, Op.bytesLess]
  | [], _ :: _ => by simp [Lib.compareBytes, Op.bytesLess]
  | _ :: _, [] => by simp [Lib.compareBytes, Op.bytesLess]
  | x :: a, y :: b => by
    have ih := cmp_less a b
    unfold Lib.compareBytes Op.bytesLess
    by_cases h1 : x < y
    · have : x ≠ y := fun e => by subst e; exact absurd h1 (UInt8.lt_irrefl x)
      simp [h1, this]
    · by_cases h2 : y < x
      · have : x ≠ y := fun e => by subst e; exact absurd h2 (UInt8.lt_irrefl x)
        simp [h1, h2, this]
      · have e : x = y := by
          apply UInt8.toNat_inj.1
          rw [UInt8.lt_iff_toNat_lt] at h1 h2
          omega
        subst e
        simpa [UInt8.lt_irrefl] using ih
theorem lessB_irrefl (a : ByteArray) : lessB a a = false := less_irrefl _
theorem lessB_trans {a b c : ByteArray} (h1 : lessB a b = true) (h2 : lessB b c = true) : lessB a c = true := less_trans h1 h2
theorem lessB_total {a b : ByteArray} (h1 : lessB a b = false) (h2 : lessB b a = false) : a = b := by
  have := less_total h1 h2
  rw [toL, toL] at this
  exact L_inj this
theorem lessB_ne {a b : ByteArray} (h : lessB a b = true) : a ≠ b := fun e => by rw [e, lessB_irrefl] at h; cases h
theorem lessB_asymm {a b : ByteArray} (h : lessB a b = true) : lessB b a = false := by
  cases h2 : lessB b a with
  | false => rfl
  | true =>
    have := lessB_trans h h2
    rw [lessB_irrefl] at this
    cases this
end Go.Proofs.Ytclomgbiomojjaa.PathF
