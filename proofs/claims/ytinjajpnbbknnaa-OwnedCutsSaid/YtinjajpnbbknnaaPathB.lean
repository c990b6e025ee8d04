/- What it is to lie in a path, and the order of texts: plain facts. -/
import Derived.Test.YtinjajpnbbknnaaPathA
namespace Go.Proofs.Ytinjajpnbbknnaa.PathF
open Go Go.RowKit Go.Proofs.Ytinjajpnbbknnaa.Rune Go.Proofs.Ytinjajpnbbknnaa.Split Go.Proofs.Ytinjajpnbbknnaa.PathT Go.Proofs.Ytinjajpnbbknnaa.Q

theorem in_self (p : ByteArray) : inP p p = isP p := by
  unfold inP isP
  cases splitL (L p) with
  | none => rfl
  | some a => simp
theorem inP_iff (p q : ByteArray) : inP p q = true ↔ ∃ a b, OKs a ∧ L p = text a ∧ OKs b ∧ L q = text b ∧ b <+: a := by
  unfold inP
  rcases path_cases p with h | ⟨ls, h, hp⟩
  · rw [h]
    constructor
    · intro e; simp at e
    · rintro ⟨a, b, ha, hpa, _⟩
      rw [hpa, split_text ha] at h; cases h
  · rcases path_cases q with h2 | ⟨ks, h2, hq⟩
    · rw [h2, hp, split_text h]
      constructor
      · intro e; simp at e
      · rintro ⟨a, b, _, _, hb, hqb, _⟩
        rw [hqb, split_text hb] at h2; cases h2
    · rw [hp, hq, split_text h, split_text h2]
      constructor
      · intro e
        exact ⟨ls, ks, h, rfl, h2, rfl, by simpa using e⟩
      · rintro ⟨a, b, ha, hpa, hb, hqb, hab⟩
        have e1 := text_inj h ha hpa
        have e2 := text_inj h2 hb hqb
        subst e1; subst e2
        simpa using hab
theorem flat_pos (m : List (List UInt8)) (h : m ≠ []) : 0 < (flat m).length := by
  cases m with
  | nil => exact absurd rfl h
  | cons s r => simp [flat]
theorem text_lt {a b : List (List UInt8)} (ha : OKs a) (hab : b <+: a) (hne : b ≠ a) : (text b).length < (text a).length := by
  obtain ⟨m, rfl⟩ := hab
  have hm : m ≠ [] := fun e => hne (by rw [e, List.append_nil])
  by_cases hb : b = []
  · subst hb
    rw [List.nil_append] at ha ⊢
    rw [text_nil, text_ne hm]
    cases m with
    | nil => exact absurd rfl hm
    | cons s r =>
      have := part_ne s (ha.2 s (by simp))
      have h1 : 0 < s.length := List.length_pos_iff.2 this
      simp [flat]
      omega
  · rw [text_ne hb, text_ne (by simp [hb]), flat_append, List.length_append]
    have := flat_pos m hm
    omega
theorem in_size {p q : ByteArray} (h : inP p q = true) : q.size ≤ p.size := by
  obtain ⟨a, b, ha, hp, hb, hq, hab⟩ := (inP_iff _ _).1 h
  rw [← L_len, ← L_len, hp, hq]
  by_cases e : b = a
  · rw [e]; exact Nat.le_refl _
  · exact Nat.le_of_lt (text_lt ha hab e)
/-! The order of texts. -/
def lessB (a b : ByteArray) : Bool := Op.bytesLess a.toList b.toList
theorem less_irrefl : ∀ a : List UInt8, Op.bytesLess a a = false
  | [] => rfl
  | c :: a => by simp [Op.bytesLess, less_irrefl a]
theorem less_trans : ∀ {a b c : List UInt8}, Op.bytesLess a b = true → Op.bytesLess b c = true → Op.bytesLess a c = true
  | _, [], _, h, _ => by cases ‹List UInt8› <;> simp [Op.bytesLess] at h
  | _, _ :: _, [], _, h => by simp [Op.bytesLess] at h
  | [], _ :: _, _ :: _, _, _ => rfl
  | x :: a, y :: b, z :: c, h1, h2 => by
    simp only [Op.bytesLess, Bool.or_eq_true, decide_eq_true_eq, Bool.and_eq_true, beq_iff_eq] at h1 h2 ⊢
    rcases h1 with h1 | ⟨rfl, h1⟩
    · rcases h2 with h2 | ⟨rfl, h2⟩
      · exact .inl (UInt8.lt_trans h1 h2)
      · exact .inl h1
    · rcases h2 with h2 | ⟨rfl, h2⟩
      · exact .inl h2
      · exact .inr ⟨rfl, less_trans h1 h2⟩
theorem cmp_less : ∀ a b : List UInt8, (Lib.compareBytes a b < 0 ↔ Op.bytesLess a b = true) ∧ (Lib.compareBytes a b = 0 ↔ a = b)
  | [], [] => by simp [Lib.compareBytes, Op.bytesLess]
  | [], _ :: _ => by simp [Lib.compareBytes, Op.bytesLess]
  | _ :: _, [] => by simp [Lib.compareBytes, Op.bytesLess]
  | x :: a, y :: b => by
    have ih := cmp_less a b
    unfold Lib.compareBytes Op.bytesLess
    by_cases h1 : x < y
    · have : x ≠ y := fun e => by subst e; exact absurd h1 (UInt8.lt_irrefl x)
      simp [h1, this]
    · by_cases h2 : y < x
      · have : x ≠ y := fun e => by subst e; exact absurd h2 (UInt8.lt_irrefl x)
        simp [h1, h2, this]
      · have e : x = y := by
          apply UInt8.toNat_inj.1
          rw [UInt8.lt_iff_toNat_lt] at h1 h2
          omega
        subst e
        simpa [UInt8.lt_irrefl] using ih
theorem lessB_irrefl (a : ByteArray) : lessB a a = false := less_irrefl _
theorem lessB_trans {a b c : ByteArray} (h1 : lessB a b = true) (h2 : lessB b c = true) : lessB a c = true := less_trans h1 h2
theorem lessB_ne {a b : ByteArray} (h : lessB a b = true) : a ≠ b := fun e => by rw [e, lessB_irrefl] at h; cases h
end Go.Proofs.Ytinjajpnbbknnaa.PathF
