/- path.Numbered: a part with four digits behind. -/
import Derived.Test.YtopgenipifhjfaaDoorPath1
namespace Go.Proofs.YtopgenipifhjfaaDoor.PathF
open Go Go.RowKit Go.Proofs.YtopgenipifhjfaaDoor.Rune Go.Proofs.YtopgenipifhjfaaDoor.Split Go.Proofs.YtopgenipifhjfaaDoor.Itoa Go.Proofs.YtopgenipifhjfaaDoor.PathT Go.Proofs.YtopgenipifhjfaaDoor.Q Go.Proofs.YtopgenipifhjfaaDoorW.PrintWords Go.Proofs.YtopgenipifhjfaaDoorW.PrintLast Go.Proofs.YtopgenipifhjfaaDoorW.PrintMore

/-- a digit's letter -/
def dg (n : Nat) : UInt8 := UInt8.ofNat (48 + n % 10)
def four (n : Nat) : List UInt8 := [dg (n / 1000), dg (n / 100), dg (n / 10), dg n]
theorem dec_small {u : Nat} (h : u < 10) : Lib.decDigits u = [dg u] := by
  unfold Lib.decDigits dg
  rw [dif_pos h, Nat.mod_eq_of_lt h]
theorem dec_big {u : Nat} (h : ¬ u < 10) : Lib.decDigits u = Lib.decDigits (u / 10) ++ [dg u] := by
  rw [Lib.decDigits, dif_neg h]
  rfl
theorem itoa_four (n : Nat) (h : n < 10000) : Lib.itoa ((10000 + n : Nat) : Int) = 49 :: four n := by
  unfold Lib.itoa
  rw [if_neg (by omega), Int.toNat_natCast, dec_big (by omega), dec_big (by omega), dec_big (by omega), dec_big (by omega), dec_small (by omega)]
  have e1 : dg ((10000 + n) / 10 / 10 / 10 / 10) = 49 := by
    have : (10000 + n) / 10 / 10 / 10 / 10 = 1 := by omega
    rw [this]; rfl
  have e2 : dg ((10000 + n) / 10 / 10 / 10) = dg (n / 1000) := by unfold dg; rw [show (10000 + n) / 10 / 10 / 10 % 10 = n / 1000 % 10 by omega]
  have e3 : dg ((10000 + n) / 10 / 10) = dg (n / 100) := by unfold dg; rw [show (10000 + n) / 10 / 10 % 10 = n / 100 % 10 by omega]
  have e4 : dg ((10000 + n) / 10) = dg (n / 10) := by unfold dg; rw [show (10000 + n) / 10 % 10 = n / 10 % 10 by omega]
  have e5 : dg (10000 + n) = dg n := by unfold dg; rw [show (10000 + n) % 10 = n % 10 by omega]
  rw [e1, e2, e3, e4, e5]
  rfl
theorem dg_ok (n : Nat) : okc (dg n) = true := by
  have key : ∀ d : Fin 10, okc (UInt8.ofNat (48 + d.val)) = true := by decide
  exact key ⟨n % 10, Nat.mod_lt _ (by omega)⟩
theorem four_len (n : Nat) : (four n).length = 4 := rfl
/-- may a text have four digits behind -/
def numOk (l : List UInt8) : Bool := decide (l.length ≤ 8) && l.all okc
theorem part_four (l : List UInt8) (n : Nat) : partL (l ++ four n) = numOk l := by
  unfold partL numOk
  have h1 : (l ++ four n).isEmpty = false := by simp [four]
  have h2 : (l ++ four n).all okc = l.all okc := by simp [List.all_append, four, dg_ok]
  have h3 : decide ((l ++ four n).length ≤ 12) = decide (l.length ≤ 8) := by rw [List.length_append, four_len]; congr 1; apply propext; omega
  rw [h1, h2, h3]; rfl
theorem numbered {p : ByteArray} {n : Nat} (h : n < 10000) (hs : p.size ≤ 1000000000000000) (k : Nat) (hk : 1 ≤ k) :
    path_Numbered.f k p (n : Int) = some (if numOk (L p) = true then (B (L p ++ four n), true) else (⟨#[]⟩, false)) := by
  obtain ⟨k, rfl⟩ : ∃ m, k = m + 1 := ⟨k - 1, by omega⟩
  have hd : decide ((n : Int) > 9999) = false := decide_eq_false (by omega)
  have hx : (⟨(49 :: four n).toArray⟩ : ByteArray).extract 1 (⟨(49 :: four n).toArray⟩ : ByteArray).size = B (four n) := by
    apply B_eq
    rw [L_drop]; rfl
  unfold path_Numbered.f
  rw [if_neg (by omega), hd, path_Numbered.j0, if_neg (by simp)]
  unfold strconv_Itoa.f
  rw [w64 (by omega) (by omega), if_pos (by omega), show (10000 : Int) + (n : Int) = ((10000 + n : Nat) : Int) by omega, itoa_four n h, Option.bind_some, if_pos (by
    show (1 : Int) ≤ ((5 : Nat) : Int); omega), hx, if_pos (by
    show p.size + 4 ≤ _; omega)]
  unfold path_part.f
  have e : L (p ++ B (four n)) = L p ++ four n := by rw [L_app, L_B]
  rw [e, part_four, Option.bind_some, B_eq e]
  split <;> rfl
theorem numbered_out {p : ByteArray} {n : Int} (h : n < 0 ∨ 9999 < n) (k : Nat) (hk : 1 ≤ k) : path_Numbered.f k p n = some (⟨#[]⟩, false) := by
  obtain ⟨k, rfl⟩ : ∃ m, k = m + 1 := ⟨k - 1, by omega⟩
  unfold path_Numbered.f
  by_cases c : n < 0
  · rw [if_pos c, path_Numbered.j0, if_pos rfl]
  · have hd : decide (n > 9999) = true := decide_eq_true (by omega)
    rw [if_neg c, hd, path_Numbered.j0, if_pos rfl]

theorem less_app (p x y : List UInt8) : Op.bytesLess (p ++ x) (p ++ y) = Op.bytesLess x y := by
  induction p with
  | nil => rfl
  | cons c p ih => simp [Op.bytesLess, ih]
theorem dg_lt (a b : Nat) : (dg a < dg b) ↔ a % 10 < b % 10 := by
  have key : ∀ c d : Fin 10, (UInt8.ofNat (48 + c.val) < UInt8.ofNat (48 + d.val)) ↔ c.val < d.val := by decide
  exact key ⟨a % 10, Nat.mod_lt _ (by omega)⟩ ⟨b % 10, Nat.mod_lt _ (by omega)⟩
theorem dg_eq (a b : Nat) : (dg a = dg b) ↔ a % 10 = b % 10 := by
  have key : ∀ c d : Fin 10, (UInt8.ofNat (48 + c.val) = UInt8.ofNat (48 + d.val)) ↔ c.val = d.val := by decide
  exact key ⟨a % 10, Nat.mod_lt _ (by omega)⟩ ⟨b % 10, Nat.mod_lt _ (by omega)⟩
theorem four_less (a b : Nat) (ha : a < 10000) (hb : b < 10000) : Op.bytesLess (four a) (four b) = decide (a < b) := by
  unfold four
  simp only [Op.bytesLess, Bool.and_false, Bool.or_false]
  rw [Bool.eq_iff_iff]
  simp only [Bool.or_eq_true, Bool.and_eq_true, decide_eq_true_eq, beq_iff_eq, dg_lt, dg_eq]
  have a1 : a / 100 = a / 10 / 10 := by omega
  have a2 : a / 1000 = a / 10 / 10 / 10 := by omega
  have b1 : b / 100 = b / 10 / 10 := by omega
  have b2 : b / 1000 = b / 10 / 10 / 10 := by omega
  rw [a2, b2, a1, b1]
  have a3 : a / 10 / 10 / 10 < 10 := by omega
  have b3 : b / 10 / 10 / 10 < 10 := by omega
  clear a1 a2 b1 b2
  omega
theorem four_eq (a b : Nat) (ha : a < 10000) (hb : b < 10000) : four a = four b ↔ a = b := by
  constructor
  · intro h
    have h1 := (List.cons.inj h)
    have h2 := List.cons.inj h1.2
    have h3 := List.cons.inj h2.2
    have h4 := List.cons.inj h3.2
    have g1 := (dg_eq _ _).1 h1.1
    have g2 := (dg_eq _ _).1 h2.1
    have g3 := (dg_eq _ _).1 h3.1
    have g4 := (dg_eq _ _).1 h4.1
    omega
  · rintro rfl; rfl
end Go.Proofs.YtopgenipifhjfaaDoor.PathF
