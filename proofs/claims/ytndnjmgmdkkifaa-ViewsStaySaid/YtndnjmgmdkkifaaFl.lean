/- Floats of whole numbers up to 2^48: their differences have the sign of the numbers' differences. -/
import Derived.Laws.ComplexArith
namespace Go.Proofs.Ytndnjmgmdkkifaa.Fl
open Ieee Go

def D : Format := double
theorem cut_exact (s : Bool) (n k drop : Nat) (hn : 0 < n) (hk : drop ≤ k) : Toward.even.cut s (n * 2 ^ k) drop = n * 2 ^ (k - drop) := by
  have hm : min drop ((n * 2 ^ k).log2 + 2) = drop := by
    have h1 : 2 ^ drop ≤ n * 2 ^ k := by
      calc 2 ^ drop ≤ 2 ^ k := Nat.pow_le_pow_right (by omega) hk
        _ = 1 * 2 ^ k := by omega
        _ ≤ n * 2 ^ k := Nat.mul_le_mul_right _ hn
    have h2 : drop ≤ (n * 2 ^ k).log2 := (Nat.le_log2 (by have := Nat.two_pow_pos drop; omega)).2 h1
    omega
  have hp : n * 2 ^ k = n * 2 ^ (k - drop) * 2 ^ drop := by
    rw [Nat.mul_assoc, ← Nat.pow_add]; congr 2; omega
  unfold Toward.cut
  simp only [hm, Nat.shiftLeft_eq, Nat.one_mul]
  have hpos := Nat.two_pow_pos drop
  rw [hp, Nat.mul_div_cancel _ hpos, Nat.mul_mod_left]
  have : (2 ^ drop == 0) = false := by rw [beq_eq_false_iff_ne]; omega
  simp [this]

theorem log2_shift (n k : Nat) (hn : 0 < n) : (n * 2 ^ k).log2 = n.log2 + k := by
  have h1 : 2 ^ n.log2 ≤ n := Nat.log2_self_le (by omega)
  have h2 : n < 2 ^ (n.log2 + 1) := Nat.lt_log2_self
  have hp : n * 2 ^ k ≠ 0 := by have := Nat.mul_pos hn (Nat.two_pow_pos k); omega
  rw [Nat.log2_eq_iff hp]
  refine ⟨?_, ?_⟩
  · rw [Nat.pow_add]; exact Nat.mul_le_mul_right _ h1
  · rw [show n.log2 + k + 1 = (n.log2 + 1) + k by omega, Nat.pow_add]
    exact Nat.mul_lt_mul_of_pos_right h2 (Nat.two_pow_pos k)

theorem top_lt (n : Nat) (hb : n.log2 ≤ 52) : n * 2 ^ (52 - n.log2) < 9007199254740992 := by
  have h2 : n < 2 ^ (n.log2 + 1) := Nat.lt_log2_self
  have e : 2 ^ (n.log2 + 1) * 2 ^ (52 - n.log2) = 2 ^ 53 := by rw [← Nat.pow_add, show n.log2 + 1 + (52 - n.log2) = 53 by omega]
  have e3 : (2 : Nat) ^ 53 = 9007199254740992 := by decide
  rw [← e3, ← e]
  exact Nat.mul_lt_mul_of_pos_right h2 (Nat.two_pow_pos _)
theorem top_ge (n : Nat) (hn : 0 < n) (hb : n.log2 ≤ 52) : 4503599627370496 ≤ n * 2 ^ (52 - n.log2) := by
  have h1 : 2 ^ n.log2 ≤ n := Nat.log2_self_le (by omega)
  have e : 2 ^ n.log2 * 2 ^ (52 - n.log2) = 2 ^ 52 := by rw [← Nat.pow_add, show n.log2 + (52 - n.log2) = 52 by omega]
  have e3 : (2 : Nat) ^ 52 = 4503599627370496 := by decide
  rw [← e3, ← e]
  exact Nat.mul_le_mul_right _ h1

/-- the word of n, exactly -/
theorem nearest_at (s : Bool) (n M : Nat) (hn : 0 < n) (hb : n.log2 ≤ 52) :
    D.nearest s (n * 2 ^ M) (-(M : Int)) = D.word s ((n.log2 + 1022) * 4503599627370496 + n * 2 ^ (52 - n.log2)) := by
  have hp : n * 2 ^ M ≠ 0 := by have := Nat.mul_pos hn (Nat.two_pow_pos M); omega
  have hlp : D.leastPlace = -1074 := by decide
  have hfb : (D.fractionBits : Int) = 52 := by decide
  have hbin : D.binade = 4503599627370496 := by decide
  unfold Format.nearest
  rw [if_neg hp]
  simp only [log2_shift n M hn, hlp, hfb, hbin]
  have hlast : max (-(M : Int) + ((n.log2 + M : Nat) : Int) - 52) (-1074) = (n.log2 : Int) - 52 := by omega
  rw [hlast]
  have hkept : Toward.even.cut s ((n * 2 ^ M) <<< (-(M : Int) - ((n.log2 : Int) - 52)).toNat) ((n.log2 : Int) - 52 - -(M : Int)).toNat = n * 2 ^ (52 - n.log2) := by
    rw [Nat.shiftLeft_eq, Nat.mul_assoc, ← Nat.pow_add]
    rw [cut_exact _ _ _ _ hn (by omega)]
    congr 2; omega
  rw [hkept]
  have h3 := top_lt n hb
  generalize n * 2 ^ (52 - n.log2) = m at *
  generalize n.log2 = l at *
  have hinf : D.infRung = 9218868437227405312 := by decide
  have e1 : ((l : Int) - 52 - -1074).toNat = l + 1022 := by omega
  rw [e1, hinf, Nat.min_eq_left (by omega)]

theorem read_word (s : Bool) (n : Nat) (hn : 0 < n) (hb : n.log2 ≤ 52) :
    D.read (D.word s ((n.log2 + 1022) * 4503599627370496 + n * 2 ^ (52 - n.log2))) = .number s (n * 2 ^ (52 - n.log2)) ((n.log2 : Int) - 52) := by
  have h3 := top_lt n hb
  have h4 := top_ge n hn hb
  generalize n * 2 ^ (52 - n.log2) = m at *
  generalize n.log2 = l at *
  have hsw : D.signWeight = 9223372036854775808 := by decide
  have hbin : D.binade = 4503599627370496 := by decide
  have hinf : D.infRung = 9218868437227405312 := by decide
  have hlp : D.leastPlace = -1074 := by decide
  have hdiv : ((l + 1022) * 4503599627370496 + m) / 4503599627370496 = l + 1023 := by omega
  have hmod : ((l + 1022) * 4503599627370496 + m) % 4503599627370496 = m - 4503599627370496 := by omega
  generalize (l + 1022) * 4503599627370496 + m = r at *
  unfold Format.read Format.word
  simp only [hsw, hbin, hinf, hlp]
  have hneg : ((if s = true then 9223372036854775808 + r else r) / 9223372036854775808 % 2 == 1) = s := by
    cases s
    · simp only [Bool.false_eq_true, if_false]
      have : r / 9223372036854775808 % 2 = 0 := by omega
      rw [this]; rfl
    · simp only [if_true]
      have : (9223372036854775808 + r) / 9223372036854775808 % 2 = 1 := by omega
      rw [this]; rfl
  have hrung : (if s = true then 9223372036854775808 + r else r) % 9223372036854775808 = r := by
    cases s
    · simp only [Bool.false_eq_true, if_false]; omega
    · simp only [if_true]; omega
  rw [hneg, hrung, if_neg (by omega), if_pos (by omega), hdiv, hmod]
  rw [show 4503599627370496 + (m - 4503599627370496) = m by omega, show (-1074 : Int) + ((l + 1023 - 1 : Nat) : Int) = (l : Int) - 52 by omega]

theorem read_fin (s : Bool) (r : Nat) (hr : r < 9218868437227405312) : ∃ m p, D.read (D.word s r) = .number s m p := by
  have hsw : D.signWeight = 9223372036854775808 := by decide
  have hbin : D.binade = 4503599627370496 := by decide
  have hinf : D.infRung = 9218868437227405312 := by decide
  unfold Format.read Format.word
  simp only [hsw, hbin, hinf]
  have hneg : ((if s = true then 9223372036854775808 + r else r) / 9223372036854775808 % 2 == 1) = s := by
    cases s
    · simp only [Bool.false_eq_true, if_false]
      have : r / 9223372036854775808 % 2 = 0 := by omega
      rw [this]; rfl
    · simp only [if_true]
      have : (9223372036854775808 + r) / 9223372036854775808 % 2 = 1 := by omega
      rw [this]; rfl
  have hrung : (if s = true then 9223372036854775808 + r else r) % 9223372036854775808 = r := by
    cases s
    · simp only [Bool.false_eq_true, if_false]; omega
    · simp only [if_true]; omega
  rw [hneg, hrung]
  by_cases h : r < 4503599627370496
  · rw [if_pos h]; exact ⟨_, _, rfl⟩
  · rw [if_neg h, if_pos hr]; exact ⟨_, _, rfl⟩

theorem cut_le (s : Bool) (n drop : Nat) (h : drop ≤ n.log2 + 2) : Toward.even.cut s n drop ≤ n / 2 ^ drop + 1 := by
  unfold Toward.cut
  rw [Nat.min_eq_left h, Nat.shiftLeft_eq, Nat.one_mul]
  have : ∀ b : Bool, b.toNat ≤ 1 := by decide
  exact Nat.add_le_add_left (this _) _

theorem nearest_fin (s : Bool) (n : Nat) (hn : n < 18446744073709551616) : ∃ m p, D.read (D.nearest s n 0) = .number s m p := by
  by_cases h0 : n = 0
  · subst h0
    have : D.nearest s 0 0 = D.word s 0 := by unfold Format.nearest; rw [if_pos rfl]
    rw [this]
    exact read_fin s 0 (by omega)
  have hpos : 0 < n := by omega
  by_cases hb : n.log2 ≤ 52
  · have := nearest_at s n 0 hpos hb
    rw [Nat.pow_zero, Nat.mul_one] at this
    rw [show (0 : Int) = -((0 : Nat) : Int) by rfl, this, read_word s n hpos hb]
    exact ⟨_, _, rfl⟩
  · have hL : n.log2 < 64 := (Nat.log2_lt h0).2 hn
    have hlp : D.leastPlace = -1074 := by decide
    have hfb : (D.fractionBits : Int) = 52 := by decide
    have hbin : D.binade = 4503599627370496 := by decide
    have h2 : n < 2 ^ (n.log2 + 1) := Nat.lt_log2_self
    have h3 : n / 2 ^ (n.log2 - 52) < 9007199254740992 := by
      rw [Nat.div_lt_iff_lt_mul (Nat.two_pow_pos _)]
      have e : (9007199254740992 : Nat) = 2 ^ 53 := by decide
      rw [e, ← Nat.pow_add, show 53 + (n.log2 - 52) = n.log2 + 1 by omega]
      exact h2
    unfold Format.nearest
    rw [if_neg h0]
    simp only [hlp, hfb, hbin]
    rw [show max ((0 : Int) + (n.log2 : Int) - 52) (-1074) = (n.log2 : Int) - 52 by omega]
    rw [show ((0 : Int) - ((n.log2 : Int) - 52)).toNat = 0 by omega, show ((n.log2 : Int) - 52 - 0).toNat = n.log2 - 52 by omega, Nat.shiftLeft_zero]
    have hc := cut_le s n (n.log2 - 52) (by omega)
    generalize Toward.even.cut s n (n.log2 - 52) = c at *
    generalize n / 2 ^ (n.log2 - 52) = q at *
    generalize n.log2 = l at *
    refine read_fin s _ (Nat.lt_of_le_of_lt (Nat.min_le_left _ _) ?_)
    have : ((l : Int) - 52 - -1074).toNat = l + 1022 := by omega
    rw [this]
    omega

/-- the word of an int64 -/
def W (a : Int) : Nat := floatOfInt .f64 a
theorem W_eq (a : Int) : W a = D.nearest (decide (a < 0)) a.natAbs 0 := rfl

theorem sub_some (a c : Int) (ha : a.natAbs < 18446744073709551616) (hc : c.natAbs < 18446744073709551616) : ∃ r, floatBits .sub .f64 (W a) (W c) = some r := by
  obtain ⟨m, p, h⟩ := nearest_fin (decide (a < 0)) a.natAbs ha
  obtain ⟨m', p', h'⟩ := nearest_fin (decide (c < 0)) c.natAbs hc
  rw [← W_eq] at h h'
  show ∃ r, D.sub (W a) (W c) = some r
  unfold Format.sub
  rw [h, h']
  exact ⟨_, rfl⟩

theorem read_W (a : Int) (h0 : 0 ≤ a) (h : a ≤ 281474976710656) : ∃ M : Nat, D.read (W a) = .number false (a.natAbs * 2 ^ M) (-(M : Int)) := by
  rw [W_eq]
  have : decide (a < 0) = false := by simpa using h0
  rw [this]
  by_cases e : a.natAbs = 0
  · rw [e]
    obtain ⟨M, hM⟩ : ∃ M : Nat, M = 1074 := ⟨_, rfl⟩
    refine ⟨M, ?_⟩
    have : D.nearest false 0 0 = D.word false 0 := by unfold Format.nearest; rw [if_pos rfl]
    rw [this, show D.read (D.word false 0) = .number false 0 (-1074) by decide, Nat.zero_mul, hM]
    rfl
  · have hpos : 0 < a.natAbs := by omega
    have hb : a.natAbs.log2 ≤ 52 := by
      have := (Nat.log2_lt e (k := 49)).2 (by have : (2 : Nat) ^ 49 = 562949953421312 := by decide
                                              omega)
      omega
    have h1 := nearest_at false a.natAbs 0 hpos hb
    rw [Nat.pow_zero, Nat.mul_one] at h1
    refine ⟨52 - a.natAbs.log2, ?_⟩
    rw [show (0 : Int) = -((0 : Nat) : Int) by rfl, h1, read_word false _ hpos hb]
    congr 1
    omega

theorem order_zero (s : Bool) (m : Nat) (p : Int) (w : Nat) (h : D.read w = .number s m p) (hm : m ≠ 0) : D.order w 0 = some (if s then .lt else .gt) := by
  have h0 : D.read 0 = .number false 0 (-1074) := by decide
  unfold Format.order
  rw [h, h0]
  simp only [Datum.order, signed]
  congr 1
  have hp := Nat.two_pow_pos (p - min p (-1074)).toNat
  have : 0 < m * 2 ^ (p - min p (-1074)).toNat := Nat.mul_pos (by omega) hp
  rw [Nat.shiftLeft_eq]
  generalize m * 2 ^ (p - min p (-1074)).toNat = q at *
  cases s
  · simp only [Bool.false_eq_true, if_false, Nat.zero_shiftLeft]
    simp only [compare, compareOfLessAndEq]
    rw [if_neg (by omega), if_neg (by omega)]
  · simp only [if_true, Bool.false_eq_true, if_false, Nat.zero_shiftLeft]
    simp only [compare, compareOfLessAndEq]
    rw [if_pos (by omega)]

theorem sub_order (a c : Int) (a0 : 0 ≤ a) (a1 : a ≤ 281474976710656) (c0 : 0 ≤ c) (c1 : c ≤ 281474976710656) (r : Nat) (h : floatBits .sub .f64 (W a) (W c) = some r) :
    D.order r 0 = some (if a < c then .lt else if a = c then .eq else .gt) := by
  obtain ⟨M, ha⟩ := read_W a a0 a1
  obtain ⟨N, hc⟩ := read_W c c0 c1
  have h : D.sub (W a) (W c) = some r := h
  unfold Format.sub at h
  rw [ha, hc] at h
  simp only [Datum.opposite, Datum.sum, Option.map_some, Option.some.injEq, Bool.not_false] at h
  have hx : signed false (a.natAbs * 2 ^ M) (-(M : Int) - min (-(M : Int)) (-(N : Int))).toNat = a * 2 ^ (max M N) := by
    unfold signed
    rw [if_neg (by simp), Nat.shiftLeft_eq, Nat.mul_assoc, ← Nat.pow_add, show M + (-(M : Int) - min (-(M : Int)) (-(N : Int))).toNat = max M N by omega]
    rw [Int.natCast_mul, Int.natAbs_of_nonneg a0, Int.natCast_pow]; rfl
  have hy : signed true (c.natAbs * 2 ^ N) (-(N : Int) - min (-(M : Int)) (-(N : Int))).toNat = -(c * 2 ^ (max M N)) := by
    unfold signed
    rw [if_pos rfl, Nat.shiftLeft_eq, Nat.mul_assoc, ← Nat.pow_add, show N + (-(N : Int) - min (-(M : Int)) (-(N : Int))).toNat = max M N by omega]
    rw [Int.natCast_mul, Int.natAbs_of_nonneg c0, Int.natCast_pow]; rfl
  rw [hx, hy] at h
  have hd : a * 2 ^ (max M N) + -(c * 2 ^ (max M N)) = (a - c) * 2 ^ (max M N) := by rw [Int.sub_mul]; omega
  rw [hd] at h
  have hmin : min (-(M : Int)) (-(N : Int)) = -((max M N : Nat) : Int) := by omega
  rw [hmin] at h
  generalize max M N = K at *
  have hK : (0 : Int) < 2 ^ K := by
    have := Nat.two_pow_pos K
    have e : ((2 ^ K : Nat) : Int) = 2 ^ K := by rw [Int.natCast_pow]; rfl
    omega
  have hmag : ((a - c) * 2 ^ K).natAbs = (a - c).natAbs * 2 ^ K := by
    rw [Int.natAbs_mul, Int.natAbs_pow]; rfl
  rw [hmag] at h
  by_cases e : a = c
  · subst e
    rw [if_neg (by omega), if_pos rfl]
    simp only [Int.sub_self, Int.zero_mul, if_true, Int.natAbs_zero, Nat.zero_mul, Bool.false_and] at h
    have hw : D.write (.number false 0 (-(K : Int))) = 0 := by
      show D.nearest _ _ _ = _
      unfold Format.nearest
      rw [if_pos rfl]
      rfl
    have h' : D.write (.number false 0 (-(K : Int))) = r := h
    rw [hw] at h'
    subst h'
    decide
  · have hne : (a - c) * 2 ^ K ≠ 0 := by
      intro h0
      rcases Int.mul_eq_zero.1 h0 with h | h <;> omega
    rw [if_neg hne] at h
    have hn : 0 < (a - c).natAbs := by omega
    have hb : (a - c).natAbs.log2 ≤ 52 := by
      have := (Nat.log2_lt (n := (a - c).natAbs) (by omega) (k := 49)).2 (by have : (2 : Nat) ^ 49 = 562949953421312 := by decide
                                                                             omega)
      omega
    have hlt : decide ((a - c) * 2 ^ K < 0) = decide (a < c) := by
      by_cases g : a < c
      · have : (a - c) * 2 ^ K < 0 := Int.mul_neg_of_neg_of_pos (by omega) hK
        simp [this, g]
      · have : 0 < (a - c) * 2 ^ K := Int.mul_pos (by omega) hK
        simp [g]; omega
    rw [hlt] at h
    have h' : D.nearest (decide (a < c)) ((a - c).natAbs * 2 ^ K) (-(K : Int)) = r := h
    rw [nearest_at _ _ _ hn hb] at h'
    have hr := read_word (decide (a < c)) _ hn hb
    rw [h'] at hr
    have hm : (a - c).natAbs * 2 ^ (52 - (a - c).natAbs.log2) ≠ 0 := by
      have := Nat.mul_pos hn (Nat.two_pow_pos (52 - (a - c).natAbs.log2)); omega
    rw [order_zero _ _ _ _ hr hm]
    by_cases g : a < c
    · simp [g]
    · simp [g, e]
end Go.Proofs.Ytndnjmgmdkkifaa.Fl
