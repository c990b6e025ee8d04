-- Written by a program of this session (xprint) out of the translation; over contracts proved by hand.
import Derived.Test.YtinjajpnbbknnaaQx0
import Derived.Test.YtinjajpnbbknnaaSq
import Derived.Test.YtinjajpnbbknnaaQx10
import Derived.Test.YtinjajpnbbknnaaQx11
namespace Go.Proofs.Ytinjajpnbbknnaa.Cut2
end Go.Proofs.Ytinjajpnbbknnaa.Cut2
namespace Go.Proofs.Ytinjajpnbbknnaa.RPut
end Go.Proofs.Ytinjajpnbbknnaa.RPut
namespace Go.Proofs.Ytinjajpnbbknnaa.Split
end Go.Proofs.Ytinjajpnbbknnaa.Split
namespace Go.Proofs.Ytinjajpnbbknnaa.Q
open Go.Proofs.Ytinjajpnbbknnaa.Cut2 Go.Proofs.Ytinjajpnbbknnaa.RPut Go.Proofs.Ytinjajpnbbknnaa.Split
set_option linter.unnecessarySimpa false
open Go.RowKit Go.Proofs.YtinjajpnbbknnaaW.PrintWords Go.Proofs.YtinjajpnbbknnaaW.PrintLast Go.Proofs.YtinjajpnbbknnaaW.PrintMore
attribute [local go_sem] max2_int min2_int max_two min_two max_three min_three max_four min_four   -- for this text's walks alone
set_option linter.unusedVariables false
set_option linter.unusedSimpArgs false

abbrev x12tr26_0 : Array Bool := trr 26 0
abbrev x12tr26_1 : Array Bool := trr 26 1
abbrev x12tr26_10 : Array Bool := trr 26 10
abbrev x12tr26_11 : Array Bool := trr 26 11
abbrev x12tr26_12 : Array Bool := trr 26 12
abbrev x12tr26_13 : Array Bool := trr 26 13
abbrev x12tr26_14 : Array Bool := trr 26 14
abbrev x12tr26_15 : Array Bool := trr 26 15
abbrev x12tr26_16 : Array Bool := trr 26 16
abbrev x12tr26_17 : Array Bool := trr 26 17
abbrev x12tr26_18 : Array Bool := trr 26 18
abbrev x12tr26_19 : Array Bool := trr 26 19
abbrev x12tr26_2 : Array Bool := trr 26 2
abbrev x12tr26_20 : Array Bool := trr 26 20
abbrev x12tr26_21 : Array Bool := trr 26 21
abbrev x12tr26_22 : Array Bool := trr 26 22
abbrev x12tr26_23 : Array Bool := trr 26 23
abbrev x12tr26_24 : Array Bool := trr 26 24
abbrev x12tr26_25 : Array Bool := trr 26 25
abbrev x12tr26_26 : Array Bool := trr 26 26
abbrev x12tr26_3 : Array Bool := trr 26 3
abbrev x12tr26_4 : Array Bool := trr 26 4
abbrev x12tr26_5 : Array Bool := trr 26 5
abbrev x12tr26_6 : Array Bool := trr 26 6
abbrev x12tr26_7 : Array Bool := trr 26 7
abbrev x12tr26_8 : Array Bool := trr 26 8
abbrev x12tr26_9 : Array Bool := trr 26 9
abbrev x12tr26_m11111111111111100100000000 : Array Bool := #[true, true, true, true, true, true, true, true, true, true, true, true, true, true, true, false, false, true, false, false, false, false, false, false, false, false]
abbrev x12tr26_m11111111111111100110000000 : Array Bool := #[true, true, true, true, true, true, true, true, true, true, true, true, true, true, true, false, false, true, true, false, false, false, false, false, false, false]
abbrev x12tr26_m11111111111111100111000000 : Array Bool := #[true, true, true, true, true, true, true, true, true, true, true, true, true, true, true, false, false, true, true, true, false, false, false, false, false, false]
abbrev x12tr26_m11111111111111100111100000 : Array Bool := #[true, true, true, true, true, true, true, true, true, true, true, true, true, true, true, false, false, true, true, true, true, false, false, false, false, false]
abbrev x12tr26_m11111111111111110111100000 : Array Bool := #[true, true, true, true, true, true, true, true, true, true, true, true, true, true, true, true, false, true, true, true, true, false, false, false, false, false]
/-! ### cantonref11_Of: function 20 -/
def cantonref11_Of.l0 : Nat → List (S45) → ByteArray → Int → Int → Option (Int)
  | 0, _, _, _, _ => none
  | k + 1, x0, x1, x5, x6 => if x6 < (x0.length : Int) then (if 0 ≤ x6 then ((cantonref01_In.f k x1 ((rd_T45 x0 x6).f0)).bind fun t232 => (if t232 = true then (if x5 < 0 then (cantonref11_Of.l0 k x0 x1 x6 (wrap64 (x6 + 1))) else (if 0 ≤ x5 then (if x5 < (x0.length : Int) then (if (((rd_T45 x0 x6).f0).size : Int) > (((rd_T45 x0 x5).f0).size : Int) then (cantonref11_Of.l0 k x0 x1 x6 (wrap64 (x6 + 1))) else (cantonref11_Of.l0 k x0 x1 x5 (wrap64 (x6 + 1)))) else (none)) else (none))) else (cantonref11_Of.l0 k x0 x1 x5 (wrap64 (x6 + 1))))) else (none)) else (some x5)
def cantonref11_Of.f (k : Nat) (l0 : List (S45)) (a1 : ByteArray) : Option (Int) := (cantonref11_Right.f k l0).bind fun t230 => (if t230 = true then (cantonref11_Of.l0 k l0 a1 (-1) 0) else (some (-1)))
theorem cantonref11_Of.mono_l : ∀ k, (∀ y0 y1 y2 y3, LeO (cantonref11_Of.l0 k y0 y1 y2 y3) (cantonref11_Of.l0 (k + 1) y0 y1 y2 y3))
  | 0 => fun _ _ _ _ r h => by simp [cantonref11_Of.l0] at h
  | k + 1 => by
    have ih0 := cantonref11_Of.mono_l k
    · intro y0 y1 y2 y3
      unfold cantonref11_Of.l0
      repeat' first
      | (with_reducible exact ih0 _ _ _ _)
      | (with_reducible exact cantonref01_In.mono _ _ _)
      | (with_reducible exact cantonref11_Right.mono _ _)
      | (with_reducible exact LeO.refl _)
      | (with_reducible exact LeO.none _)
      | (with_reducible refine LeO.ite ?_ ?_)
      | (with_reducible refine LeO.bind ?_ (fun _ => ?_))
      | exact ih0 _ _ _ _
      | exact cantonref01_In.mono _ _ _
      | exact cantonref11_Right.mono _ _
      | exact LeO.none _
      | refine LeO.ite ?_ ?_
      | refine LeO.bind ?_ (fun _ => ?_)
theorem cantonref11_Of.mono : ∀ a0 a1 k, LeO (cantonref11_Of.f k a0 a1) (cantonref11_Of.f (k + 1) a0 a1) := by
  intro a0 a1 k
  have ih0 := cantonref11_Of.mono_l k
  unfold cantonref11_Of.f
  repeat' first
      | (with_reducible exact ih0 _ _ _ _)
      | (with_reducible exact cantonref01_In.mono _ _ _)
      | (with_reducible exact cantonref11_Right.mono _ _)
      | (with_reducible exact LeO.refl _)
      | (with_reducible exact LeO.none _)
      | (with_reducible refine LeO.ite ?_ ?_)
      | (with_reducible refine LeO.bind ?_ (fun _ => ?_))
      | exact ih0 _ _ _ _
      | exact cantonref01_In.mono _ _ _
      | exact cantonref11_Right.mono _ _
      | exact LeO.none _
      | refine LeO.ite ?_ ?_
      | refine LeO.bind ?_ (fun _ => ?_)
def cantonref11_Of.T7 : Bool × List (List Nat × List Nat) := (true, [([], []), ([], []), ([], []), ([1, 2], [1, 2]), ([3], [3]), ([4], [4]), ([0, 5], [0, 5]), ([6, 6], [6]), ([7], [7]), ([8, 7], [7, 8]), ([9, 7, 7], [7, 9]), ([10], [10]), ([10], [10]), ([11, 12, 10], [10, 11, 12]), ([13, 10], [10, 13]), ([14, 10], [10, 14]), ([15, 10], [10, 15]), ([10], [10]), ([10], [10]), ([17, 18, 10], [10, 17, 18]), ([19, 10], [10, 19]), ([20, 10], [10, 20]), ([21, 10], [10, 21]), ([16, 22, 10], [10, 16, 22]), ([10, 23, 7], [7, 10, 23]), ([7, 24], [7, 24])])
def cantonref11_Of.B7 : List Nat := [0, 0, 0, 6, 14, 30, 63, 127, 255, 511, 1023, 2047, 2047, 8191, 16383, 32767, 65535, 2047, 2047, 395263, 919551, 1968127, 4065279, 8388607, 16777215, 33554431]
theorem cantonref11_Of.tab7 : rtab .any (opsOf Try.f20 7) = cantonref11_Of.T7 := by kernel_rfl
theorem cantonref11_Of.bits7 : waitsOk cantonref11_Of.T7.2 cantonref11_Of.B7 = true := by kernel_rfl
set_option maxHeartbeats 8000000 in
set_option maxRecDepth 100000 in
theorem cantonref11_Of.calls (k : Nat) (A0 : Option Addr) (c0 : Nat) (l0 : List (S45)) (a1 : ByteArray) (r : Int) (w : World) (hr0 : Kd.C k45 w A0 l0.length l0) (hc0 : l0.length ≤ c0) (h : cantonref11_Of.f k l0 a1 = some r) :
    Calls Try.prog 20 #[.slice A0 l0.length c0, .string a1] w fun e w' => e = .returned (.int .i64 r) ∧ Below w.heap.size w w' := by
  have HR0 := am_ hr0
  have HC0 := am_ hc0
  clear hr0 hc0
  have HB := am_ (Below.refl w.heap.size w)
  have H : ((cantonref11_Right.f k l0).bind fun t230 => (if t230 = true then (cantonref11_Of.l0 k l0 a1 (-1) 0) else (some (-1)))) = some r := h
  clear h
  replace H := Option.bind_eq_some_iff.mp H
  obtain ⟨t230, A30, H⟩ := H
  replace H : (if t230 = true then (cantonref11_Of.l0 k l0 a1 (-1) 0) else (some (-1))) = some r := H
  have A3 := am_ A30
  clear A30
  by_cases c4 : t230 = true
  rotate_left
  · replace c4 := Bool.eq_false_iff.mpr c4
    subst c4
    have H1 : (some (-1)) = some r := by rw [if_neg (show ¬ (false = true) by decide)] at H; exact H
    clear H
    have H := H1
    clear H1
    obtain rfl := Option.some.inj H
    go_enter Try.func20, Try.ntmps20
    go_wp2_with (first | ((with_reducible refine gate_callee (f := 18) rfl ?_); refine gL (some 8) Try.func18 #[.slice A0 l0.length c0] rfl rfl ?_; (with_reducible refine (cantonref11_Right.calls k _ _ l0 false _ ?side1 ?side2 A3.out).mono ?_); (case side1 => exact kC (HR0.out)); (case side2 => exact HC0.out); rintro e w22 ⟨rfl, hb⟩; refine ⟨_, rfl, ?_⟩; have n0_ := am_ (below_step (kZ HB) hb); clear HB; have HB := n0_; clear n0_; (try clear hb); (try clear hb2); (try clear hk); (try clear hi)))
    go_ret
    exact ⟨e2_, kZ HB⟩

  subst c4
  have H1 : (cantonref11_Of.l0 k l0 a1 (-1) 0) = some r := by rw [if_pos rfl] at H; exact H
  clear H
  have H := H1
  clear H1
  have H' := am_ H
  clear H
  go_enter Try.func20, Try.ntmps20
  go_wp2_with (first | ((with_reducible refine gate_callee (f := 18) rfl ?_); refine gL (some 8) Try.func18 #[.slice A0 l0.length c0] rfl rfl ?_; (with_reducible refine (cantonref11_Right.calls k _ _ l0 true _ ?side1 ?side2 A3.out).mono ?_); (case side1 => exact kC (HR0.out)); (case side2 => exact HC0.out); rintro e w5 ⟨rfl, hb⟩; refine ⟨_, rfl, ?_⟩; have n0_ := am_ (below_step (kZ HB) hb); clear HB; have HB := n0_; clear n0_; (try clear hb); (try clear hb2); (try clear hk); (try clear hi)))
  go_loopg [5, 6] k (fun kq v5 v6 w' => ∃ (x5_1 : Int) (x6_1 : Int), v5 = .int .i64 x5_1 ∧ v6 = .int .i64 x6_1 ∧ Aside0 (cantonref11_Of.l0 kq l0 a1 x5_1 x6_1 = some r) ∧ Aside0 (kq ≤ k) ∧ Aside0 (Below w.heap.size w w'))
  case atStart => exact ⟨((-1)), (0), e1_, e1_, H', ⟨Nat.le_refl _⟩, ⟨kZ HB⟩⟩
  case round =>
    clear H'
    try clear p2
    obtain ⟨x5_1, x6_1, rfl, rfl, HA, HK1, HB⟩ := hrel
    cases gk with
    | zero => exact absurd HA.out (by simp [cantonref11_Of.l0])
    | succ k1 =>
      have H := HA.out
      clear HA
      simp only [cantonref11_Of.l0] at H
      by_cases c6 : x6_1 < (l0.length : Int)
      rotate_left
      · rw [if_neg c6] at H
        have c6b0 : decide (x6_1 < (l0.length : Int)) = false := decide_eq_false c6
        clear c6
        obtain rfl := Option.some.inj H
        go_wp2
        go_ret
        exact ⟨e2_, kZ HB⟩
      rw [if_pos c6] at H
      have c6b0 : decide (x6_1 < (l0.length : Int)) = true := decide_eq_true c6
      clear c6
      by_cases c7 : 0 ≤ x6_1
      rotate_left
      · rw [if_neg c7] at H
        exact absurd H (by simp)
      rw [if_pos c7] at H
      have c7b0 : decide (0 ≤ x6_1) = true := decide_eq_true c7
      clear c7
      replace H := Option.bind_eq_some_iff.mp H
      obtain ⟨t232, A80, H⟩ := H
      replace H : (if t232 = true then (if x5_1 < 0 then (cantonref11_Of.l0 k1 l0 a1 x6_1 (wrap64 (x6_1 + 1))) else (if 0 ≤ x5_1 then (if x5_1 < (l0.length : Int) then (if (((rd_T45 l0 x6_1).f0).size : Int) > (((rd_T45 l0 x5_1).f0).size : Int) then (cantonref11_Of.l0 k1 l0 a1 x6_1 (wrap64 (x6_1 + 1))) else (cantonref11_Of.l0 k1 l0 a1 x5_1 (wrap64 (x6_1 + 1)))) else (none)) else (none))) else (cantonref11_Of.l0 k1 l0 a1 x5_1 (wrap64 (x6_1 + 1)))) = some r := H
      have A8 := am_ A80
      clear A80
      by_cases c9 : t232 = true
      rotate_left
      · replace c9 := Bool.eq_false_iff.mpr c9
        subst c9
        have H1 : (cantonref11_Of.l0 k1 l0 a1 x5_1 (wrap64 (x6_1 + 1))) = some r := by rw [if_neg (show ¬ (false = true) by decide)] at H; exact H
        clear H
        have H := H1
        clear H1
        have H' := am_ H
        clear H
        try go_wp2
        have n0_ := am_ (below_drew1 HB.out)
        clear HB
        have HB := n0_
        clear n0_
        have p231 : 0 ≤ (x6_1 : Int) := od_
        have q231 : x6_1 < (l0.length : Int) := od_
        obtain ⟨ad231, e231, hx231_0, hx231_1, hx231_2⟩ := at_T45 HR0.out x6_1 p231 q231
        have hw231_2 := hx231_2
        have hw231_1 := hx231_1
        have hw231_0 := hx231_0
        cases e231
        replace hx231_0 := pw_cell_below HB.out hx231_0
        replace hx231_1 := pw_cell_below HB.out hx231_1
        replace hx231_2 := pw_cell_below HB.out hx231_2
        replace p231 := eq_true p231
        replace q231 := eq_true q231
        refine start_ (n := 26) (S := fun w' => w'.cell? (ad231.add ((x6_1).toNat * 3)) = some (.string ((rd_T45 l0 x6_1).f0)) ∧ w'.cell? ⟨(ad231.add ((x6_1).toNat * 3)).block, (ad231.add ((x6_1).toNat * 3)).off + 1, none⟩ = some (.int .i64 ((rd_T45 l0 x6_1).f1)) ∧ w'.cell? ⟨(ad231.add ((x6_1).toNat * 3)).block, (ad231.add ((x6_1).toNat * 3)).off + 2, none⟩ = some (.int .i64 ((rd_T45 l0 x6_1).f2))) (ds := []) x12tr26_0 (by kernel_rfl) rfl rfl ⟨(pw_cell_below HB.out hw231_0), (pw_cell_below HB.out hw231_1), (pw_cell_below HB.out hw231_2)⟩ (fun hHeld => ?_); refine with_tabW cantonref11_Of.tab7 cantonref11_Of.bits7 (fun HT_ HW_ => ?_)
        generalize wr.drew = w20 at HB hx231_0 hx231_1 hx231_2 hHeld ⊢
        refine pA_ 0 16 x12tr26_1 HT_.out ?_
        refine pA_ 1 17 x12tr26_2 HT_.out ?_
        refine pA_ 2 18 x12tr26_3 HT_.out ?_
        refine pA_ 3 19 x12tr26_4 HT_.out ?_
        refine pA_ 4 20 x12tr26_5 HT_.out ?_
        refine tA_ 5 21 x12tr26_6 HT_.out HW_.out hHeld ?_
        refine one_ (i := 6) (N := some 22) x12tr26_7 rfl rfl (one_of HT_.out (by kernel_rfl)) (by decide) (fun K hK => ?_)
        refine goes_ Try.func30 (by kernel_rfl) rfl #[.string a1, .string ((rd_T45 l0 x6_1).f0)] (by rfl) rfl rfl m_ ?_
        with_reducible refine (cantonref01_In.calls k1 a1 ((rd_T45 l0 x6_1).f0) false _ A8.out).mono ?_
        rintro e w21 ⟨rfl, hb⟩
        refine ⟨_, rfl, ?_⟩
        have n0_ := am_ (below_step (kZ HB) hb)
        clear HB
        have HB := n0_
        clear n0_
        (try clear hb)
        (try clear hb2)
        (try clear hk)
        (try clear hi)
        refine hK.out _ _ ⟨(pw_cell_below HB.out hw231_0), (pw_cell_below HB.out hw231_1), (pw_cell_below HB.out hw231_2)⟩ (fun hHeld => ?_)
        clear hK K
        refine norm_ (a' := ?_) ?_ ?_
        rotate_left
        · show Act.put _ (some 22) _ = _
          simp only [Act.put, List.setIfInBounds_toArray, List.set_cons_zero, List.set_cons_succ, i64_w, i32_w]
          rfl
        refine pA_ 7 23 x12tr26_8 HT_.out ?_
        refine pU_ 8 24 x12tr26_9 HT_.out ?_
        refine pU_ 9 25 x12tr26_10 HT_.out ?_
        refine pU_ 10 26 x12tr26_11 HT_.out ?_
        refine pU_ 11 27 x12tr26_12 HT_.out ?_
        refine pU_ 12 28 x12tr26_13 HT_.out ?_
        refine pU_ 13 29 x12tr26_14 HT_.out ?_
        refine pU_ 14 30 x12tr26_15 HT_.out ?_
        refine pU_ 15 31 x12tr26_16 HT_.out ?_
        refine pU_ 16 32 x12tr26_17 HT_.out ?_
        refine pU_ 17 33 x12tr26_18 HT_.out ?_
        refine pU_ 18 34 x12tr26_19 HT_.out ?_
        refine pU_ 19 35 x12tr26_20 HT_.out ?_
        refine pU_ 20 36 x12tr26_21 HT_.out ?_
        refine pU_ 21 37 x12tr26_22 HT_.out ?_
        refine pU_ 22 38 x12tr26_23 HT_.out ?_
        refine pU_ 23 39 x12tr26_24 HT_.out ?_
        refine pU_ 24 40 x12tr26_25 HT_.out ?_
        refine pA_ 25 41 x12tr26_26 HT_.out ?_
        refine done_ (done_of HT_.out (by kernel_rfl)) ?_
        try go_wp2
        go_roundg k1
        case measure => have := HK1.out; omega
        case rel => exact ⟨(x5_1), (wrap64 (x6_1 + 1)), e1_, e1_, H', ⟨by have := HK1.out; omega⟩, ⟨kZ HB⟩⟩
      subst c9
      have H1 : (if x5_1 < 0 then (cantonref11_Of.l0 k1 l0 a1 x6_1 (wrap64 (x6_1 + 1))) else (if 0 ≤ x5_1 then (if x5_1 < (l0.length : Int) then (if (((rd_T45 l0 x6_1).f0).size : Int) > (((rd_T45 l0 x5_1).f0).size : Int) then (cantonref11_Of.l0 k1 l0 a1 x6_1 (wrap64 (x6_1 + 1))) else (cantonref11_Of.l0 k1 l0 a1 x5_1 (wrap64 (x6_1 + 1)))) else (none)) else (none))) = some r := by rw [if_pos rfl] at H; exact H
      clear H
      have H := H1
      clear H1
      by_cases c10 : x5_1 < 0
      rotate_left
      · rw [if_neg c10] at H
        have c10b0 : decide (x5_1 < 0) = false := decide_eq_false c10
        clear c10
        by_cases c13 : 0 ≤ x5_1
        rotate_left
        · rw [if_neg c13] at H
          exact absurd H (by simp)
        rw [if_pos c13] at H
        have c13b0 : decide (0 ≤ x5_1) = true := decide_eq_true c13
        clear c13
        by_cases c14 : x5_1 < (l0.length : Int)
        rotate_left
        · rw [if_neg c14] at H
          exact absurd H (by simp)
        rw [if_pos c14] at H
        have c14b0 : decide (x5_1 < (l0.length : Int)) = true := decide_eq_true c14
        clear c14
        by_cases c15 : (((rd_T45 l0 x6_1).f0).size : Int) > (((rd_T45 l0 x5_1).f0).size : Int)
        rotate_left
        · rw [if_neg c15] at H
          have c15b0 : decide ((((rd_T45 l0 x5_1).f0).size : Int) < (((rd_T45 l0 x6_1).f0).size : Int)) = false := decide_eq_false c15
          have c15b1 : decide (((rd_T45 l0 x5_1).f0).size < ((rd_T45 l0 x6_1).f0).size) = false := decide_eq_false (fun h => c15 (Int.ofNat_lt.mpr h))
          clear c15
          have H' := am_ H
          clear H
          try go_wp2
          have n0_ := am_ (below_drew1 HB.out)
          clear HB
          have HB := n0_
          clear n0_
          have p231 : 0 ≤ (x6_1 : Int) := od_
          have q231 : x6_1 < (l0.length : Int) := od_
          obtain ⟨ad231, e231, hx231_0, hx231_1, hx231_2⟩ := at_T45 HR0.out x6_1 p231 q231
          have hw231_2 := hx231_2
          have hw231_1 := hx231_1
          have hw231_0 := hx231_0
          cases e231
          replace hx231_0 := pw_cell_below HB.out hx231_0
          replace hx231_1 := pw_cell_below HB.out hx231_1
          replace hx231_2 := pw_cell_below HB.out hx231_2
          replace p231 := eq_true p231
          replace q231 := eq_true q231
          have p233 : 0 ≤ (x6_1 : Int) := od_
          have q233 : x6_1 < (l0.length : Int) := od_
          obtain ⟨ad233, e233, hx233_0, hx233_1, hx233_2⟩ := at_T45 HR0.out x6_1 p233 q233
          have hw233_2 := hx233_2
          have hw233_1 := hx233_1
          have hw233_0 := hx233_0
          obtain rfl : ad231 = ad233 := (by injection e233)
          replace hx233_0 := pw_cell_below HB.out hx233_0
          replace hx233_1 := pw_cell_below HB.out hx233_1
          replace hx233_2 := pw_cell_below HB.out hx233_2
          replace p233 := eq_true p233
          replace q233 := eq_true q233
          have p234 : 0 ≤ (x5_1 : Int) := od_
          have q234 : x5_1 < (l0.length : Int) := od_
          obtain ⟨ad234, e234, hx234_0, hx234_1, hx234_2⟩ := at_T45 HR0.out x5_1 p234 q234
          have hw234_2 := hx234_2
          have hw234_1 := hx234_1
          have hw234_0 := hx234_0
          obtain rfl : ad231 = ad234 := (by injection e234)
          replace hx234_0 := pw_cell_below HB.out hx234_0
          replace hx234_1 := pw_cell_below HB.out hx234_1
          replace hx234_2 := pw_cell_below HB.out hx234_2
          replace p234 := eq_true p234
          replace q234 := eq_true q234
          refine start_ (n := 26) (S := fun w' => w'.cell? (ad231.add ((x6_1).toNat * 3)) = some (.string ((rd_T45 l0 x6_1).f0)) ∧ w'.cell? ⟨(ad231.add ((x6_1).toNat * 3)).block, (ad231.add ((x6_1).toNat * 3)).off + 1, none⟩ = some (.int .i64 ((rd_T45 l0 x6_1).f1)) ∧ w'.cell? ⟨(ad231.add ((x6_1).toNat * 3)).block, (ad231.add ((x6_1).toNat * 3)).off + 2, none⟩ = some (.int .i64 ((rd_T45 l0 x6_1).f2)) ∧ w'.cell? (ad231.add ((x6_1).toNat * 3)) = some (.string ((rd_T45 l0 x6_1).f0)) ∧ w'.cell? ⟨(ad231.add ((x6_1).toNat * 3)).block, (ad231.add ((x6_1).toNat * 3)).off + 1, none⟩ = some (.int .i64 ((rd_T45 l0 x6_1).f1)) ∧ w'.cell? ⟨(ad231.add ((x6_1).toNat * 3)).block, (ad231.add ((x6_1).toNat * 3)).off + 2, none⟩ = some (.int .i64 ((rd_T45 l0 x6_1).f2)) ∧ w'.cell? (ad231.add ((x5_1).toNat * 3)) = some (.string ((rd_T45 l0 x5_1).f0)) ∧ w'.cell? ⟨(ad231.add ((x5_1).toNat * 3)).block, (ad231.add ((x5_1).toNat * 3)).off + 1, none⟩ = some (.int .i64 ((rd_T45 l0 x5_1).f1)) ∧ w'.cell? ⟨(ad231.add ((x5_1).toNat * 3)).block, (ad231.add ((x5_1).toNat * 3)).off + 2, none⟩ = some (.int .i64 ((rd_T45 l0 x5_1).f2))) (ds := []) x12tr26_0 (by kernel_rfl) rfl rfl ⟨(pw_cell_below HB.out hw231_0), (pw_cell_below HB.out hw231_1), (pw_cell_below HB.out hw231_2), (pw_cell_below HB.out hw233_0), (pw_cell_below HB.out hw233_1), (pw_cell_below HB.out hw233_2), (pw_cell_below HB.out hw234_0), (pw_cell_below HB.out hw234_1), (pw_cell_below HB.out hw234_2)⟩ (fun hHeld => ?_); refine with_tabW cantonref11_Of.tab7 cantonref11_Of.bits7 (fun HT_ HW_ => ?_)
          generalize wr.drew = w18 at HB hx231_0 hx231_1 hx231_2 hx233_0 hx233_1 hx233_2 hx234_0 hx234_1 hx234_2 hHeld ⊢
          refine pA_ 0 16 x12tr26_1 HT_.out ?_
          refine pA_ 1 17 x12tr26_2 HT_.out ?_
          refine pA_ 2 18 x12tr26_3 HT_.out ?_
          refine pA_ 3 19 x12tr26_4 HT_.out ?_
          refine pA_ 4 20 x12tr26_5 HT_.out ?_
          refine tA_ 5 21 x12tr26_6 HT_.out HW_.out hHeld ?_
          refine one_ (i := 6) (N := some 22) x12tr26_7 rfl rfl (one_of HT_.out (by kernel_rfl)) (by decide) (fun K hK => ?_)
          refine goes_ Try.func30 (by kernel_rfl) rfl #[.string a1, .string ((rd_T45 l0 x6_1).f0)] (by rfl) rfl rfl m_ ?_
          with_reducible refine (cantonref01_In.calls k1 a1 ((rd_T45 l0 x6_1).f0) true _ A8.out).mono ?_
          rintro e w19 ⟨rfl, hb⟩
          refine ⟨_, rfl, ?_⟩
          have n0_ := am_ (below_step (kZ HB) hb)
          clear HB
          have HB := n0_
          clear n0_
          (try clear hb)
          (try clear hb2)
          (try clear hk)
          (try clear hi)
          refine hK.out _ _ ⟨(pw_cell_below HB.out hw231_0), (pw_cell_below HB.out hw231_1), (pw_cell_below HB.out hw231_2), (pw_cell_below HB.out hw233_0), (pw_cell_below HB.out hw233_1), (pw_cell_below HB.out hw233_2), (pw_cell_below HB.out hw234_0), (pw_cell_below HB.out hw234_1), (pw_cell_below HB.out hw234_2)⟩ (fun hHeld => ?_)
          clear hK K
          refine norm_ (a' := ?_) ?_ ?_
          rotate_left
          · show Act.put _ (some 22) _ = _
            simp only [Act.put, List.setIfInBounds_toArray, List.set_cons_zero, List.set_cons_succ, i64_w, i32_w]
            rfl
          refine pA_ 7 23 x12tr26_8 HT_.out ?_
          refine pA_ 8 24 x12tr26_9 HT_.out ?_
          refine pA_ 9 25 x12tr26_10 HT_.out ?_
          refine pA_ 10 26 x12tr26_11 HT_.out ?_
          refine pA_ 11 27 x12tr26_12 HT_.out ?_
          refine pA_ 12 28 x12tr26_13 HT_.out ?_
          refine pA_ 13 29 x12tr26_14 HT_.out ?_
          refine pA_ 14 30 x12tr26_15 HT_.out ?_
          refine pA_ 17 33 x12tr26_m11111111111111100100000000 HT_.out ?_
          refine pA_ 18 34 x12tr26_m11111111111111100110000000 HT_.out ?_
          refine pA_ 19 35 x12tr26_m11111111111111100111000000 HT_.out ?_
          refine pA_ 20 36 x12tr26_m11111111111111100111100000 HT_.out ?_
          refine tA_ 15 31 x12tr26_m11111111111111110111100000 HT_.out HW_.out hHeld ?_
          refine pA_ 16 32 x12tr26_21 HT_.out ?_
          refine tA_ 21 37 x12tr26_22 HT_.out HW_.out hHeld ?_
          refine pA_ 22 38 x12tr26_23 HT_.out ?_
          refine pA_ 23 39 x12tr26_24 HT_.out ?_
          refine pA_ 24 40 x12tr26_25 HT_.out ?_
          refine pA_ 25 41 x12tr26_26 HT_.out ?_
          refine done_ (done_of HT_.out (by kernel_rfl)) ?_
          try go_wp2
          go_roundg k1
          case measure => have := HK1.out; omega
          case rel => exact ⟨(x5_1), (wrap64 (x6_1 + 1)), e1_, e1_, H', ⟨by have := HK1.out; omega⟩, ⟨kZ HB⟩⟩
        rw [if_pos c15] at H
        have c15b0 : decide ((((rd_T45 l0 x5_1).f0).size : Int) < (((rd_T45 l0 x6_1).f0).size : Int)) = true := decide_eq_true c15
        have c15b1 : decide (((rd_T45 l0 x5_1).f0).size < ((rd_T45 l0 x6_1).f0).size) = true := decide_eq_true (Int.ofNat_lt.mp c15)
        clear c15
        have H' := am_ H
        clear H
        try go_wp2
        have n0_ := am_ (below_drew1 HB.out)
        clear HB
        have HB := n0_
        clear n0_
        have p231 : 0 ≤ (x6_1 : Int) := od_
        have q231 : x6_1 < (l0.length : Int) := od_
        obtain ⟨ad231, e231, hx231_0, hx231_1, hx231_2⟩ := at_T45 HR0.out x6_1 p231 q231
        have hw231_2 := hx231_2
        have hw231_1 := hx231_1
        have hw231_0 := hx231_0
        cases e231
        replace hx231_0 := pw_cell_below HB.out hx231_0
        replace hx231_1 := pw_cell_below HB.out hx231_1
        replace hx231_2 := pw_cell_below HB.out hx231_2
        replace p231 := eq_true p231
        replace q231 := eq_true q231
        have p233 : 0 ≤ (x6_1 : Int) := od_
        have q233 : x6_1 < (l0.length : Int) := od_
        obtain ⟨ad233, e233, hx233_0, hx233_1, hx233_2⟩ := at_T45 HR0.out x6_1 p233 q233
        have hw233_2 := hx233_2
        have hw233_1 := hx233_1
        have hw233_0 := hx233_0
        obtain rfl : ad231 = ad233 := (by injection e233)
        replace hx233_0 := pw_cell_below HB.out hx233_0
        replace hx233_1 := pw_cell_below HB.out hx233_1
        replace hx233_2 := pw_cell_below HB.out hx233_2
        replace p233 := eq_true p233
        replace q233 := eq_true q233
        have p234 : 0 ≤ (x5_1 : Int) := od_
        have q234 : x5_1 < (l0.length : Int) := od_
        obtain ⟨ad234, e234, hx234_0, hx234_1, hx234_2⟩ := at_T45 HR0.out x5_1 p234 q234
        have hw234_2 := hx234_2
        have hw234_1 := hx234_1
        have hw234_0 := hx234_0
        obtain rfl : ad231 = ad234 := (by injection e234)
        replace hx234_0 := pw_cell_below HB.out hx234_0
        replace hx234_1 := pw_cell_below HB.out hx234_1
        replace hx234_2 := pw_cell_below HB.out hx234_2
        replace p234 := eq_true p234
        replace q234 := eq_true q234
        refine start_ (n := 26) (S := fun w' => w'.cell? (ad231.add ((x6_1).toNat * 3)) = some (.string ((rd_T45 l0 x6_1).f0)) ∧ w'.cell? ⟨(ad231.add ((x6_1).toNat * 3)).block, (ad231.add ((x6_1).toNat * 3)).off + 1, none⟩ = some (.int .i64 ((rd_T45 l0 x6_1).f1)) ∧ w'.cell? ⟨(ad231.add ((x6_1).toNat * 3)).block, (ad231.add ((x6_1).toNat * 3)).off + 2, none⟩ = some (.int .i64 ((rd_T45 l0 x6_1).f2)) ∧ w'.cell? (ad231.add ((x6_1).toNat * 3)) = some (.string ((rd_T45 l0 x6_1).f0)) ∧ w'.cell? ⟨(ad231.add ((x6_1).toNat * 3)).block, (ad231.add ((x6_1).toNat * 3)).off + 1, none⟩ = some (.int .i64 ((rd_T45 l0 x6_1).f1)) ∧ w'.cell? ⟨(ad231.add ((x6_1).toNat * 3)).block, (ad231.add ((x6_1).toNat * 3)).off + 2, none⟩ = some (.int .i64 ((rd_T45 l0 x6_1).f2)) ∧ w'.cell? (ad231.add ((x5_1).toNat * 3)) = some (.string ((rd_T45 l0 x5_1).f0)) ∧ w'.cell? ⟨(ad231.add ((x5_1).toNat * 3)).block, (ad231.add ((x5_1).toNat * 3)).off + 1, none⟩ = some (.int .i64 ((rd_T45 l0 x5_1).f1)) ∧ w'.cell? ⟨(ad231.add ((x5_1).toNat * 3)).block, (ad231.add ((x5_1).toNat * 3)).off + 2, none⟩ = some (.int .i64 ((rd_T45 l0 x5_1).f2))) (ds := []) x12tr26_0 (by kernel_rfl) rfl rfl ⟨(pw_cell_below HB.out hw231_0), (pw_cell_below HB.out hw231_1), (pw_cell_below HB.out hw231_2), (pw_cell_below HB.out hw233_0), (pw_cell_below HB.out hw233_1), (pw_cell_below HB.out hw233_2), (pw_cell_below HB.out hw234_0), (pw_cell_below HB.out hw234_1), (pw_cell_below HB.out hw234_2)⟩ (fun hHeld => ?_); refine with_tabW cantonref11_Of.tab7 cantonref11_Of.bits7 (fun HT_ HW_ => ?_)
        generalize wr.drew = w16 at HB hx231_0 hx231_1 hx231_2 hx233_0 hx233_1 hx233_2 hx234_0 hx234_1 hx234_2 hHeld ⊢
        refine pA_ 0 16 x12tr26_1 HT_.out ?_
        refine pA_ 1 17 x12tr26_2 HT_.out ?_
        refine pA_ 2 18 x12tr26_3 HT_.out ?_
        refine pA_ 3 19 x12tr26_4 HT_.out ?_
        refine pA_ 4 20 x12tr26_5 HT_.out ?_
        refine tA_ 5 21 x12tr26_6 HT_.out HW_.out hHeld ?_
        refine one_ (i := 6) (N := some 22) x12tr26_7 rfl rfl (one_of HT_.out (by kernel_rfl)) (by decide) (fun K hK => ?_)
        refine goes_ Try.func30 (by kernel_rfl) rfl #[.string a1, .string ((rd_T45 l0 x6_1).f0)] (by rfl) rfl rfl m_ ?_
        with_reducible refine (cantonref01_In.calls k1 a1 ((rd_T45 l0 x6_1).f0) true _ A8.out).mono ?_
        rintro e w17 ⟨rfl, hb⟩
        refine ⟨_, rfl, ?_⟩
        have n0_ := am_ (below_step (kZ HB) hb)
        clear HB
        have HB := n0_
        clear n0_
        (try clear hb)
        (try clear hb2)
        (try clear hk)
        (try clear hi)
        refine hK.out _ _ ⟨(pw_cell_below HB.out hw231_0), (pw_cell_below HB.out hw231_1), (pw_cell_below HB.out hw231_2), (pw_cell_below HB.out hw233_0), (pw_cell_below HB.out hw233_1), (pw_cell_below HB.out hw233_2), (pw_cell_below HB.out hw234_0), (pw_cell_below HB.out hw234_1), (pw_cell_below HB.out hw234_2)⟩ (fun hHeld => ?_)
        clear hK K
        refine norm_ (a' := ?_) ?_ ?_
        rotate_left
        · show Act.put _ (some 22) _ = _
          simp only [Act.put, List.setIfInBounds_toArray, List.set_cons_zero, List.set_cons_succ, i64_w, i32_w]
          rfl
        refine pA_ 7 23 x12tr26_8 HT_.out ?_
        refine pA_ 8 24 x12tr26_9 HT_.out ?_
        refine pA_ 9 25 x12tr26_10 HT_.out ?_
        refine pA_ 10 26 x12tr26_11 HT_.out ?_
        refine pA_ 11 27 x12tr26_12 HT_.out ?_
        refine pA_ 12 28 x12tr26_13 HT_.out ?_
        refine pA_ 13 29 x12tr26_14 HT_.out ?_
        refine pA_ 14 30 x12tr26_15 HT_.out ?_
        refine pA_ 17 33 x12tr26_m11111111111111100100000000 HT_.out ?_
        refine pA_ 18 34 x12tr26_m11111111111111100110000000 HT_.out ?_
        refine pA_ 19 35 x12tr26_m11111111111111100111000000 HT_.out ?_
        refine pA_ 20 36 x12tr26_m11111111111111100111100000 HT_.out ?_
        refine tA_ 15 31 x12tr26_m11111111111111110111100000 HT_.out HW_.out hHeld ?_
        refine pA_ 16 32 x12tr26_21 HT_.out ?_
        refine tA_ 21 37 x12tr26_22 HT_.out HW_.out hHeld ?_
        refine pA_ 22 38 x12tr26_23 HT_.out ?_
        refine pA_ 23 39 x12tr26_24 HT_.out ?_
        refine pA_ 24 40 x12tr26_25 HT_.out ?_
        refine pA_ 25 41 x12tr26_26 HT_.out ?_
        refine done_ (done_of HT_.out (by kernel_rfl)) ?_
        try go_wp2
        go_roundg k1
        case measure => have := HK1.out; omega
        case rel => exact ⟨(x6_1), (wrap64 (x6_1 + 1)), e1_, e1_, H', ⟨by have := HK1.out; omega⟩, ⟨kZ HB⟩⟩
      rw [if_pos c10] at H
      have c10b0 : decide (x5_1 < 0) = true := decide_eq_true c10
      clear c10
      have H' := am_ H
      clear H
      try go_wp2
      have n0_ := am_ (below_drew1 HB.out)
      clear HB
      have HB := n0_
      clear n0_
      have p231 : 0 ≤ (x6_1 : Int) := od_
      have q231 : x6_1 < (l0.length : Int) := od_
      obtain ⟨ad231, e231, hx231_0, hx231_1, hx231_2⟩ := at_T45 HR0.out x6_1 p231 q231
      have hw231_2 := hx231_2
      have hw231_1 := hx231_1
      have hw231_0 := hx231_0
      cases e231
      replace hx231_0 := pw_cell_below HB.out hx231_0
      replace hx231_1 := pw_cell_below HB.out hx231_1
      replace hx231_2 := pw_cell_below HB.out hx231_2
      replace p231 := eq_true p231
      replace q231 := eq_true q231
      refine start_ (n := 26) (S := fun w' => w'.cell? (ad231.add ((x6_1).toNat * 3)) = some (.string ((rd_T45 l0 x6_1).f0)) ∧ w'.cell? ⟨(ad231.add ((x6_1).toNat * 3)).block, (ad231.add ((x6_1).toNat * 3)).off + 1, none⟩ = some (.int .i64 ((rd_T45 l0 x6_1).f1)) ∧ w'.cell? ⟨(ad231.add ((x6_1).toNat * 3)).block, (ad231.add ((x6_1).toNat * 3)).off + 2, none⟩ = some (.int .i64 ((rd_T45 l0 x6_1).f2))) (ds := []) x12tr26_0 (by kernel_rfl) rfl rfl ⟨(pw_cell_below HB.out hw231_0), (pw_cell_below HB.out hw231_1), (pw_cell_below HB.out hw231_2)⟩ (fun hHeld => ?_); refine with_tabW cantonref11_Of.tab7 cantonref11_Of.bits7 (fun HT_ HW_ => ?_)
      generalize wr.drew = w11 at HB hx231_0 hx231_1 hx231_2 hHeld ⊢
      refine pA_ 0 16 x12tr26_1 HT_.out ?_
      refine pA_ 1 17 x12tr26_2 HT_.out ?_
      refine pA_ 2 18 x12tr26_3 HT_.out ?_
      refine pA_ 3 19 x12tr26_4 HT_.out ?_
      refine pA_ 4 20 x12tr26_5 HT_.out ?_
      refine tA_ 5 21 x12tr26_6 HT_.out HW_.out hHeld ?_
      refine one_ (i := 6) (N := some 22) x12tr26_7 rfl rfl (one_of HT_.out (by kernel_rfl)) (by decide) (fun K hK => ?_)
      refine goes_ Try.func30 (by kernel_rfl) rfl #[.string a1, .string ((rd_T45 l0 x6_1).f0)] (by rfl) rfl rfl m_ ?_
      with_reducible refine (cantonref01_In.calls k1 a1 ((rd_T45 l0 x6_1).f0) true _ A8.out).mono ?_
      rintro e w12 ⟨rfl, hb⟩
      refine ⟨_, rfl, ?_⟩
      have n0_ := am_ (below_step (kZ HB) hb)
      clear HB
      have HB := n0_
      clear n0_
      (try clear hb)
      (try clear hb2)
      (try clear hk)
      (try clear hi)
      refine hK.out _ _ ⟨(pw_cell_below HB.out hw231_0), (pw_cell_below HB.out hw231_1), (pw_cell_below HB.out hw231_2)⟩ (fun hHeld => ?_)
      clear hK K
      refine norm_ (a' := ?_) ?_ ?_
      rotate_left
      · show Act.put _ (some 22) _ = _
        simp only [Act.put, List.setIfInBounds_toArray, List.set_cons_zero, List.set_cons_succ, i64_w, i32_w]
        rfl
      refine pA_ 7 23 x12tr26_8 HT_.out ?_
      refine pA_ 8 24 x12tr26_9 HT_.out ?_
      refine pA_ 9 25 x12tr26_10 HT_.out ?_
      refine pA_ 10 26 x12tr26_11 HT_.out ?_
      refine pU_ 11 27 x12tr26_12 HT_.out ?_
      refine pU_ 12 28 x12tr26_13 HT_.out ?_
      refine pU_ 13 29 x12tr26_14 HT_.out ?_
      refine pU_ 14 30 x12tr26_15 HT_.out ?_
      refine pU_ 15 31 x12tr26_16 HT_.out ?_
      refine pU_ 16 32 x12tr26_17 HT_.out ?_
      refine pU_ 17 33 x12tr26_18 HT_.out ?_
      refine pU_ 18 34 x12tr26_19 HT_.out ?_
      refine pU_ 19 35 x12tr26_20 HT_.out ?_
      refine pU_ 20 36 x12tr26_21 HT_.out ?_
      refine pU_ 21 37 x12tr26_22 HT_.out ?_
      refine pU_ 22 38 x12tr26_23 HT_.out ?_
      refine pU_ 23 39 x12tr26_24 HT_.out ?_
      refine pA_ 24 40 x12tr26_25 HT_.out ?_
      refine pA_ 25 41 x12tr26_26 HT_.out ?_
      refine done_ (done_of HT_.out (by kernel_rfl)) ?_
      try go_wp2
      go_roundg k1
      case measure => have := HK1.out; omega
      case rel => exact ⟨(x6_1), (wrap64 (x6_1 + 1)), e1_, e1_, H', ⟨by have := HK1.out; omega⟩, ⟨kZ HB⟩⟩
end Go.Proofs.Ytinjajpnbbknnaa.Q
