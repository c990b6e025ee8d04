/- The walks of check.pair and check.Newer: pairs of whole numbers as complex numbers, and which of two is newer. -/
import Derived.Test.YtndnjmgmdkkifaaProg
import Derived.WalkKit
import Derived.WalkLawsBesides
import Derived.Deep.QuietTactic
import Derived.BigQuiet
import Derived.KernelRfl
import Derived.Lib.Hide
import Derived.Test.YtndnjmgmdkkifaaWWords
import Derived.Test.YtndnjmgmdkkifaaFl
namespace Go.Proofs.Ytndnjmgmdkkifaa.New
open Go Go.RowKit Go.Proofs.YtndnjmgmdkkifaaW.PrintWords

def pairB (a b : Int) : Bool := decide (0 ≤ a) && (decide (0 ≤ b) && (decide (a ≤ 281474976710656) && decide (b ≤ 281474976710656)))

theorem ret_pair {a b : Int} {p q : Bool} (h : p = q) : Ending.returned (.tuple #[.complex .f64 (floatOfInt .f64 a) (floatOfInt .f64 b), .bool p]) = Ending.returned (.tuple #[.complex .f64 (Fl.W a) (Fl.W b), .bool q]) := by rw [h]; rfl
theorem pair_calls (a b : Int) (w : World) :
    Calls Try.prog 55 #[.int .i64 a, .int .i64 b] w fun e w' => e = .returned (.tuple #[.complex .f64 (Fl.W a) (Fl.W b), .bool (pairB a b)]) ∧ w = w' := by
  go_enter Try.func55, Try.ntmps55
  go_wp2
  all_goals (go_ret2; exact ⟨ret_pair (by first | (simp [pairB, *]; done) | (simp [pairB]; omega)), rfl⟩)

/-- what check.Newer answers -/
def newB (a b c d : Int) : Bool := pairB a b && (pairB c d && (decide (c < a) || (decide (a = c) && decide (d < b))))
def check_Newer.f (a0 a1 a2 a3 : Int) : Option Bool :=
  if a0.natAbs < 18446744073709551616 ∧ a1.natAbs < 18446744073709551616 ∧ a2.natAbs < 18446744073709551616 ∧ a3.natAbs < 18446744073709551616 then some (newB a0 a1 a2 a3) else none

theorem check_Newer.calls (a0 a1 a2 a3 : Int) (r : Bool) (w : World) (h : check_Newer.f a0 a1 a2 a3 = some r) :
    Calls Try.prog 54 #[.int .i64 a0, .int .i64 a1, .int .i64 a2, .int .i64 a3] w fun e w' => e = .returned (.bool r) ∧ Drawn0 w w' := by
  unfold check_Newer.f at h
  split at h
  case isFalse => cases h
  case isTrue hb =>
  obtain ⟨b0, b1, b2, b3⟩ := hb
  obtain rfl := Option.some.inj h
  clear h
  obtain ⟨x, hx⟩ := Fl.sub_some a0 a2 b0 b2
  obtain ⟨y, hy⟩ := Fl.sub_some a1 a3 b1 b3
  have ox := fun p q r s => Fl.sub_order a0 a2 p q r s x hx
  have oy := fun p q r s => Fl.sub_order a1 a3 p q r s y hy
  have hs : cSumBits .sub .f64 (Fl.W a0) (Fl.W a1) (Fl.W a2) (Fl.W a3) = some (x, y) := by unfold cSumBits; rw [hx, hy]; rfl
  have hop := fun t w => run_complex_sum (P := Try.prog) w .sub (Or.inr rfl) t .f64 _ _ _ _ x y hs
  clear hx hy hs b0 b1 b2 b3
  by_cases hp : pairB a0 a1 = true
  · by_cases hq : pairB a2 a3 = true
    · obtain ⟨p0, p1, p2, p3⟩ : 0 ≤ a0 ∧ 0 ≤ a1 ∧ a0 ≤ 281474976710656 ∧ a1 ≤ 281474976710656 := by simpa [pairB] using hp
      obtain ⟨q0, q1, q2, q3⟩ : 0 ≤ a2 ∧ 0 ≤ a3 ∧ a2 ≤ 281474976710656 ∧ a3 ≤ 281474976710656 := by simpa [pairB] using hq
      have ox : FloatKind.f64.format.order x 0 = _ := ox p0 p2 q0 q2
      have oy : FloatKind.f64.format.order y 0 = _ := oy p1 p3 q1 q3
      have hn : newB a0 a1 a2 a3 = (decide (a2 < a0) || (decide (a0 = a2) && decide (a3 < a1))) := by simp [newB, hp, hq]
      have HN := Lib.hid hn
      clear hn p0 p1 p2 p3 q0 q1 q2 q3
      rcases Int.lt_trichotomy a0 a2 with h1 | h1 | h1
      · rw [if_pos h1] at ox
        have g1 : (FloatKind.f64.format.order x 0 == some .gt) = false := by rw [ox]; rfl
        have g2 : (FloatKind.f64.format.order x 0 == some .eq) = false := by rw [ox]; rfl
        clear ox oy
        go_enter Try.func54, Try.ntmps54
        go_wp2_with fail
        refine (pair_calls _ _ _).mono ?_
        rintro e w' ⟨rfl, rfl⟩
        go_wp2_with fail
        refine (pair_calls _ _ _).mono ?_
        rintro e w' ⟨rfl, rfl⟩
        go_wp2_with fail
        go_ret
        exact ⟨by rw [HN.out]; simp; omega, Drawn0.refl _⟩
      · rw [if_neg (by omega), if_pos h1] at ox
        have g1 : (FloatKind.f64.format.order x 0 == some .gt) = false := by rw [ox]; rfl
        have g2 : (FloatKind.f64.format.order x 0 == some .eq) = true := by rw [ox]; rfl
        have g3 : (FloatKind.f64.format.order y 0 == some .gt) = decide (a3 < a1) := by
          rw [oy]
          rcases Int.lt_trichotomy a1 a3 with h2 | h2 | h2
          · rw [if_pos h2, decide_eq_false (by omega)]; rfl
          · rw [if_neg (by omega), if_pos h2, decide_eq_false (by omega)]; rfl
          · rw [if_neg (by omega), if_neg (by omega), decide_eq_true (by omega)]; rfl
        have H1 := Lib.hid h1
        clear ox oy h1
        go_enter Try.func54, Try.ntmps54
        go_wp2_with fail
        refine (pair_calls _ _ _).mono ?_
        rintro e w' ⟨rfl, rfl⟩
        go_wp2_with fail
        refine (pair_calls _ _ _).mono ?_
        rintro e w' ⟨rfl, rfl⟩
        go_wp2_with fail
        go_ret
        exact ⟨by rw [HN.out]; simp [H1.out], Drawn0.refl _⟩
      · rw [if_neg (by omega), if_neg (by omega)] at ox
        have g1 : (FloatKind.f64.format.order x 0 == some .gt) = true := by rw [ox]; rfl
        clear ox oy
        go_enter Try.func54, Try.ntmps54
        go_wp2_with fail
        refine (pair_calls _ _ _).mono ?_
        rintro e w' ⟨rfl, rfl⟩
        go_wp2_with fail
        refine (pair_calls _ _ _).mono ?_
        rintro e w' ⟨rfl, rfl⟩
        go_wp2_with fail
        go_ret
        exact ⟨by rw [HN.out]; simp; omega, Drawn0.refl _⟩
    · have hq : pairB a2 a3 = false := by simpa using hq
      have hn : newB a0 a1 a2 a3 = false := by simp [newB, hq]
      have HN := Lib.hid hn
      clear hn ox oy
      go_enter Try.func54, Try.ntmps54
      go_wp2_with fail
      refine (pair_calls _ _ _).mono ?_
      rintro e w' ⟨rfl, rfl⟩
      go_wp2_with fail
      refine (pair_calls _ _ _).mono ?_
      rintro e w' ⟨rfl, rfl⟩
      go_wp2_with fail
      go_ret
      exact ⟨by rw [HN.out]; rfl, Drawn0.refl _⟩
  · have hp : pairB a0 a1 = false := by simpa using hp
    have hn : newB a0 a1 a2 a3 = false := by simp [newB, hp]
    have HN := Lib.hid hn
    clear hn ox oy
    go_enter Try.func54, Try.ntmps54
    go_wp2_with fail
    refine (pair_calls _ _ _).mono ?_
    rintro e w' ⟨rfl, rfl⟩
    go_wp2_with fail
    refine (pair_calls _ _ _).mono ?_
    rintro e w' ⟨rfl, rfl⟩
    go_wp2_with fail
    go_ret
    exact ⟨by rw [HN.out]; rfl, Drawn0.refl _⟩
end Go.Proofs.Ytndnjmgmdkkifaa.New
-- GIVEN 54 New check_Newer ps=i64;i64;i64;i64 rs=bool rounds=0 making=0
