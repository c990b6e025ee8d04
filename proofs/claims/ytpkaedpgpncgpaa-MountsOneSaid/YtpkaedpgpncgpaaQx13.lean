-- Written by a program of this session (xprint) out of the translation; over contracts proved by hand.
import Derived.Test.YtpkaedpgpncgpaaQx0
import Derived.Test.YtpkaedpgpncgpaaSq
import Derived.Test.YtpkaedpgpncgpaaQx5
import Derived.Test.YtpkaedpgpncgpaaQx6
import Derived.Test.YtpkaedpgpncgpaaQx7
import Derived.Test.YtpkaedpgpncgpaaQx8
import Derived.Test.YtpkaedpgpncgpaaQx9
namespace Go.Proofs.Ytpkaedpgpncgpaa.MBegin
end Go.Proofs.Ytpkaedpgpncgpaa.MBegin
namespace Go.Proofs.Ytpkaedpgpncgpaa.Split
end Go.Proofs.Ytpkaedpgpncgpaa.Split
namespace Go.Proofs.Ytpkaedpgpncgpaa.Q
open Go.Proofs.Ytpkaedpgpncgpaa.MBegin Go.Proofs.Ytpkaedpgpncgpaa.Split
set_option linter.unnecessarySimpa false
open Go.RowKit Go.Proofs.YtpkaedpgpncgpaaW.PrintWords Go.Proofs.YtpkaedpgpncgpaaW.PrintLast Go.Proofs.YtpkaedpgpncgpaaW.PrintMore
attribute [local go_sem] max2_int min2_int max_two min_two max_three min_three max_four min_four   -- for this text's walks alone
set_option linter.unusedVariables false
set_option linter.unusedSimpArgs false

abbrev x13tr41_0 : Array Bool := #[false, false, false, false, false, false, false, false, false, false, false, false, false, false, false, false, false, false, false, false, false, false, false, false, false, false, false, false, false, false, false, false, false, false, false, false, false, false, false, false, false]
abbrev x13tr41_1 : Array Bool := #[true, false, false, false, false, false, false, false, false, false, false, false, false, false, false, false, false, false, false, false, false, false, false, false, false, false, false, false, false, false, false, false, false, false, false, false, false, false, false, false, false]
abbrev x13tr41_10 : Array Bool := #[true, true, true, true, true, true, true, true, true, true, false, false, false, false, false, false, false, false, false, false, false, false, false, false, false, false, false, false, false, false, false, false, false, false, false, false, false, false, false, false, false]
abbrev x13tr41_11 : Array Bool := #[true, true, true, true, true, true, true, true, true, true, true, false, false, false, false, false, false, false, false, false, false, false, false, false, false, false, false, false, false, false, false, false, false, false, false, false, false, false, false, false, false]
abbrev x13tr41_12 : Array Bool := #[true, true, true, true, true, true, true, true, true, true, true, true, false, false, false, false, false, false, false, false, false, false, false, false, false, false, false, false, false, false, false, false, false, false, false, false, false, false, false, false, false]
abbrev x13tr41_13 : Array Bool := #[true, true, true, true, true, true, true, true, true, true, true, true, true, false, false, false, false, false, false, false, false, false, false, false, false, false, false, false, false, false, false, false, false, false, false, false, false, false, false, false, false]
abbrev x13tr41_14 : Array Bool := #[true, true, true, true, true, true, true, true, true, true, true, true, true, true, false, false, false, false, false, false, false, false, false, false, false, false, false, false, false, false, false, false, false, false, false, false, false, false, false, false, false]
abbrev x13tr41_15 : Array Bool := #[true, true, true, true, true, true, true, true, true, true, true, true, true, true, true, false, false, false, false, false, false, false, false, false, false, false, false, false, false, false, false, false, false, false, false, false, false, false, false, false, false]
abbrev x13tr41_16 : Array Bool := #[true, true, true, true, true, true, true, true, true, true, true, true, true, true, true, true, false, false, false, false, false, false, false, false, false, false, false, false, false, false, false, false, false, false, false, false, false, false, false, false, false]
abbrev x13tr41_17 : Array Bool := #[true, true, true, true, true, true, true, true, true, true, true, true, true, true, true, true, true, false, false, false, false, false, false, false, false, false, false, false, false, false, false, false, false, false, false, false, false, false, false, false, false]
abbrev x13tr41_18 : Array Bool := #[true, true, true, true, true, true, true, true, true, true, true, true, true, true, true, true, true, true, false, false, false, false, false, false, false, false, false, false, false, false, false, false, false, false, false, false, false, false, false, false, false]
abbrev x13tr41_19 : Array Bool := #[true, true, true, true, true, true, true, true, true, true, true, true, true, true, true, true, true, true, true, false, false, false, false, false, false, false, false, false, false, false, false, false, false, false, false, false, false, false, false, false, false]
abbrev x13tr41_2 : Array Bool := #[true, true, false, false, false, false, false, false, false, false, false, false, false, false, false, false, false, false, false, false, false, false, false, false, false, false, false, false, false, false, false, false, false, false, false, false, false, false, false, false, false]
abbrev x13tr41_20 : Array Bool := #[true, true, true, true, true, true, true, true, true, true, true, true, true, true, true, true, true, true, true, true, false, false, false, false, false, false, false, false, false, false, false, false, false, false, false, false, false, false, false, false, false]
abbrev x13tr41_21 : Array Bool := #[true, true, true, true, true, true, true, true, true, true, true, true, true, true, true, true, true, true, true, true, true, false, false, false, false, false, false, false, false, false, false, false, false, false, false, false, false, false, false, false, false]
abbrev x13tr41_22 : Array Bool := #[true, true, true, true, true, true, true, true, true, true, true, true, true, true, true, true, true, true, true, true, true, true, false, false, false, false, false, false, false, false, false, false, false, false, false, false, false, false, false, false, false]
abbrev x13tr41_23 : Array Bool := #[true, true, true, true, true, true, true, true, true, true, true, true, true, true, true, true, true, true, true, true, true, true, true, false, false, false, false, false, false, false, false, false, false, false, false, false, false, false, false, false, false]
abbrev x13tr41_24 : Array Bool := #[true, true, true, true, true, true, true, true, true, true, true, true, true, true, true, true, true, true, true, true, true, true, true, true, false, false, false, false, false, false, false, false, false, false, false, false, false, false, false, false, false]
abbrev x13tr41_25 : Array Bool := #[true, true, true, true, true, true, true, true, true, true, true, true, true, true, true, true, true, true, true, true, true, true, true, true, true, false, false, false, false, false, false, false, false, false, false, false, false, false, false, false, false]
abbrev x13tr41_26 : Array Bool := #[true, true, true, true, true, true, true, true, true, true, true, true, true, true, true, true, true, true, true, true, true, true, true, true, true, true, false, false, false, false, false, false, false, false, false, false, false, false, false, false, false]
abbrev x13tr41_27 : Array Bool := #[true, true, true, true, true, true, true, true, true, true, true, true, true, true, true, true, true, true, true, true, true, true, true, true, true, true, true, false, false, false, false, false, false, false, false, false, false, false, false, false, false]
abbrev x13tr41_28 : Array Bool := #[true, true, true, true, true, true, true, true, true, true, true, true, true, true, true, true, true, true, true, true, true, true, true, true, true, true, true, true, false, false, false, false, false, false, false, false, false, false, false, false, false]
abbrev x13tr41_29 : Array Bool := #[true, true, true, true, true, true, true, true, true, true, true, true, true, true, true, true, true, true, true, true, true, true, true, true, true, true, true, true, true, false, false, false, false, false, false, false, false, false, false, false, false]
abbrev x13tr41_3 : Array Bool := #[true, true, true, false, false, false, false, false, false, false, false, false, false, false, false, false, false, false, false, false, false, false, false, false, false, false, false, false, false, false, false, false, false, false, false, false, false, false, false, false, false]
abbrev x13tr41_30 : Array Bool := #[true, true, true, true, true, true, true, true, true, true, true, true, true, true, true, true, true, true, true, true, true, true, true, true, true, true, true, true, true, true, false, false, false, false, false, false, false, false, false, false, false]
abbrev x13tr41_31 : Array Bool := #[true, true, true, true, true, true, true, true, true, true, true, true, true, true, true, true, true, true, true, true, true, true, true, true, true, true, true, true, true, true, true, false, false, false, false, false, false, false, false, false, false]
abbrev x13tr41_32 : Array Bool := #[true, true, true, true, true, true, true, true, true, true, true, true, true, true, true, true, true, true, true, true, true, true, true, true, true, true, true, true, true, true, true, true, false, false, false, false, false, false, false, false, false]
abbrev x13tr41_33 : Array Bool := #[true, true, true, true, true, true, true, true, true, true, true, true, true, true, true, true, true, true, true, true, true, true, true, true, true, true, true, true, true, true, true, true, true, false, false, false, false, false, false, false, false]
abbrev x13tr41_34 : Array Bool := #[true, true, true, true, true, true, true, true, true, true, true, true, true, true, true, true, true, true, true, true, true, true, true, true, true, true, true, true, true, true, true, true, true, true, false, false, false, false, false, false, false]
abbrev x13tr41_35 : Array Bool := #[true, true, true, true, true, true, true, true, true, true, true, true, true, true, true, true, true, true, true, true, true, true, true, true, true, true, true, true, true, true, true, true, true, true, true, false, false, false, false, false, false]
abbrev x13tr41_36 : Array Bool := #[true, true, true, true, true, true, true, true, true, true, true, true, true, true, true, true, true, true, true, true, true, true, true, true, true, true, true, true, true, true, true, true, true, true, true, true, false, false, false, false, false]
abbrev x13tr41_37 : Array Bool := #[true, true, true, true, true, true, true, true, true, true, true, true, true, true, true, true, true, true, true, true, true, true, true, true, true, true, true, true, true, true, true, true, true, true, true, true, true, false, false, false, false]
abbrev x13tr41_38 : Array Bool := #[true, true, true, true, true, true, true, true, true, true, true, true, true, true, true, true, true, true, true, true, true, true, true, true, true, true, true, true, true, true, true, true, true, true, true, true, true, true, false, false, false]
abbrev x13tr41_39 : Array Bool := #[true, true, true, true, true, true, true, true, true, true, true, true, true, true, true, true, true, true, true, true, true, true, true, true, true, true, true, true, true, true, true, true, true, true, true, true, true, true, true, false, false]
abbrev x13tr41_4 : Array Bool := #[true, true, true, true, false, false, false, false, false, false, false, false, false, false, false, false, false, false, false, false, false, false, false, false, false, false, false, false, false, false, false, false, false, false, false, false, false, false, false, false, false]
abbrev x13tr41_40 : Array Bool := #[true, true, true, true, true, true, true, true, true, true, true, true, true, true, true, true, true, true, true, true, true, true, true, true, true, true, true, true, true, true, true, true, true, true, true, true, true, true, true, true, false]
abbrev x13tr41_41 : Array Bool := #[true, true, true, true, true, true, true, true, true, true, true, true, true, true, true, true, true, true, true, true, true, true, true, true, true, true, true, true, true, true, true, true, true, true, true, true, true, true, true, true, true]
abbrev x13tr41_5 : Array Bool := #[true, true, true, true, true, false, false, false, false, false, false, false, false, false, false, false, false, false, false, false, false, false, false, false, false, false, false, false, false, false, false, false, false, false, false, false, false, false, false, false, false]
abbrev x13tr41_6 : Array Bool := #[true, true, true, true, true, true, false, false, false, false, false, false, false, false, false, false, false, false, false, false, false, false, false, false, false, false, false, false, false, false, false, false, false, false, false, false, false, false, false, false, false]
abbrev x13tr41_7 : Array Bool := #[true, true, true, true, true, true, true, false, false, false, false, false, false, false, false, false, false, false, false, false, false, false, false, false, false, false, false, false, false, false, false, false, false, false, false, false, false, false, false, false, false]
abbrev x13tr41_8 : Array Bool := #[true, true, true, true, true, true, true, true, false, false, false, false, false, false, false, false, false, false, false, false, false, false, false, false, false, false, false, false, false, false, false, false, false, false, false, false, false, false, false, false, false]
abbrev x13tr41_9 : Array Bool := #[true, true, true, true, true, true, true, true, true, false, false, false, false, false, false, false, false, false, false, false, false, false, false, false, false, false, false, false, false, false, false, false, false, false, false, false, false, false, false, false, false]
abbrev x13tr41_m11111111111111111001000000000000000000000 : Array Bool := #[true, true, true, true, true, true, true, true, true, true, true, true, true, true, true, true, true, false, false, true, false, false, false, false, false, false, false, false, false, false, false, false, false, false, false, false, false, false, false, false, false]
abbrev x13tr41_m11111111111111111001100000000000000000000 : Array Bool := #[true, true, true, true, true, true, true, true, true, true, true, true, true, true, true, true, true, false, false, true, true, false, false, false, false, false, false, false, false, false, false, false, false, false, false, false, false, false, false, false, false]
abbrev x13tr41_m11111111111111111001110000000000000000000 : Array Bool := #[true, true, true, true, true, true, true, true, true, true, true, true, true, true, true, true, true, false, false, true, true, true, false, false, false, false, false, false, false, false, false, false, false, false, false, false, false, false, false, false, false]
abbrev x13tr41_m11111111111111111001111000000000000000000 : Array Bool := #[true, true, true, true, true, true, true, true, true, true, true, true, true, true, true, true, true, false, false, true, true, true, true, false, false, false, false, false, false, false, false, false, false, false, false, false, false, false, false, false, false]
abbrev x13tr41_m11111111111111111101111000000000000000000 : Array Bool := #[true, true, true, true, true, true, true, true, true, true, true, true, true, true, true, true, true, true, false, true, true, true, true, false, false, false, false, false, false, false, false, false, false, false, false, false, false, false, false, false, false]
abbrev x13tr41_m11111111111111111111111111111110100000000 : Array Bool := #[true, true, true, true, true, true, true, true, true, true, true, true, true, true, true, true, true, true, true, true, true, true, true, true, true, true, true, true, true, true, true, false, true, false, false, false, false, false, false, false, false]
abbrev x13tr41_m11111111111111111111111111111110110000000 : Array Bool := #[true, true, true, true, true, true, true, true, true, true, true, true, true, true, true, true, true, true, true, true, true, true, true, true, true, true, true, true, true, true, true, false, true, true, false, false, false, false, false, false, false]
abbrev x13tr41_m11111111111111111111111111111110111000000 : Array Bool := #[true, true, true, true, true, true, true, true, true, true, true, true, true, true, true, true, true, true, true, true, true, true, true, true, true, true, true, true, true, true, true, false, true, true, true, false, false, false, false, false, false]
abbrev x13tr41_m11111111111111111111111111111110111100000 : Array Bool := #[true, true, true, true, true, true, true, true, true, true, true, true, true, true, true, true, true, true, true, true, true, true, true, true, true, true, true, true, true, true, true, false, true, true, true, true, false, false, false, false, false]
/-! ### cantonlaw14_MountsOne: function 6 -/
mutual
def cantonlaw14_MountsOne.j0 : Nat → List (S27) → ByteArray → Bool → Bool → Option (Bool)
 | 0, _, _, _, _ => none
 | k + 1, x0, x1, x5, x25 => if x25 = true then (some x5) else ((mounts_Of.f k x0 x1).bind fun t263 => (if t263 < 0 then (cantonlaw14_MountsOne.j1 k x0 x1 x5 t263 true) else (if t263 ≥ (x0.length : Int) then (cantonlaw14_MountsOne.j1 k x0 x1 x5 t263 true) else (if 0 ≤ t263 then (if t263 < (x0.length : Int) then ((cantonref01_In.f k x1 ((rd_T27 x0 t263).f0)).bind fun t265 => (cantonlaw14_MountsOne.j1 k x0 x1 x5 t263 (!t265))) else (none)) else (none)))))
def cantonlaw14_MountsOne.j1 : Nat → List (S27) → ByteArray → Bool → Int → Bool → Option (Bool)
 | 0, _, _, _, _, _ => none
 | k + 1, x0, x1, x5, x6, x47 => if x47 = true then (some false) else (cantonlaw14_MountsOne.l0 k x0 x1 x5 x6 0)
def cantonlaw14_MountsOne.l0 : Nat → List (S27) → ByteArray → Bool → Int → Int → Option (Bool)
 | 0, _, _, _, _, _ => none
 | k + 1, x0, x1, x5, x6, x7 => if x7 < (x0.length : Int) then (if x7 = x6 then (cantonlaw14_MountsOne.l0 k x0 x1 x5 x6 (wrap64 (x7 + 1))) else (if 0 ≤ x7 then ((cantonref01_In.f k x1 ((rd_T27 x0 x7).f0)).bind fun t267 => (if t267 = true then (if 0 ≤ x6 then (if x6 < (x0.length : Int) then (if (((rd_T27 x0 x7).f0).size : Int) ≥ (((rd_T27 x0 x6).f0).size : Int) then (some false) else ((cantonref01_In.f k ((rd_T27 x0 x6).f0) ((rd_T27 x0 x7).f0)).bind fun t272 => (if t272 = true then (cantonlaw14_MountsOne.l0 k x0 x1 x5 x6 (wrap64 (x7 + 1))) else (some false)))) else (none)) else (none)) else (cantonlaw14_MountsOne.l0 k x0 x1 x5 x6 (wrap64 (x7 + 1))))) else (none))) else (some x5)
end
def cantonlaw14_MountsOne.f (k : Nat) (l0 : List (S27)) (a1 : ByteArray) : Option (Bool) := (cantonlaw14_head.f k).bind fun t259 => ((cantonlaw14_great.f k l0).bind fun t260 => (if t260 = true then (cantonlaw14_MountsOne.j0 k l0 a1 t259 true) else (if (a1.size : Int) > 1000 then (cantonlaw14_MountsOne.j0 k l0 a1 t259 true) else ((cantonref14_Right.f k l0).bind fun t261 => (if t261 = true then ((cantonref01_Right.f k a1).bind fun t262 => (cantonlaw14_MountsOne.j0 k l0 a1 t259 (!t262))) else (cantonlaw14_MountsOne.j0 k l0 a1 t259 true))))))
theorem cantonlaw14_MountsOne.mono_l : ∀ k, (∀ y0 y1 y2 y3, LeO (cantonlaw14_MountsOne.j0 k y0 y1 y2 y3) (cantonlaw14_MountsOne.j0 (k + 1) y0 y1 y2 y3)) ∧ (∀ y0 y1 y2 y3 y4, LeO (cantonlaw14_MountsOne.j1 k y0 y1 y2 y3 y4) (cantonlaw14_MountsOne.j1 (k + 1) y0 y1 y2 y3 y4)) ∧ (∀ y0 y1 y2 y3 y4, LeO (cantonlaw14_MountsOne.l0 k y0 y1 y2 y3 y4) (cantonlaw14_MountsOne.l0 (k + 1) y0 y1 y2 y3 y4))
 | 0 => ⟨fun _ _ _ _ r h => by simp [cantonlaw14_MountsOne.j0] at h, fun _ _ _ _ _ r h => by simp [cantonlaw14_MountsOne.j1] at h, fun _ _ _ _ _ r h => by simp [cantonlaw14_MountsOne.l0] at h⟩
 | k + 1 => by
  obtain ⟨ih0, ih1, ih2⟩ := cantonlaw14_MountsOne.mono_l k
  refine ⟨?_, ?_, ?_⟩
  ·intro y0 y1 y2 y3
   unfold cantonlaw14_MountsOne.j0
   repeat' first
   | (with_reducible exact ih0 _ _ _ _)
   | (with_reducible exact ih1 _ _ _ _ _)
   | (with_reducible exact ih2 _ _ _ _ _)
   | (with_reducible exact cantonlaw14_great.mono _ _)
   | (with_reducible exact cantonlaw14_head.mono _)
   | (with_reducible exact cantonref01_In.mono _ _ _)
   | (with_reducible exact cantonref01_Right.mono _ _)
   | (with_reducible exact cantonref14_Right.mono _ _)
   | (with_reducible exact mounts_Of.mono _ _ _)
   | (with_reducible exact LeO.refl _)
   | (with_reducible exact LeO.none _)
   | (with_reducible refine LeO.ite ?_ ?_)
   | (with_reducible refine LeO.bind ?_ (fun _ => ?_))
   | exact ih0 _ _ _ _
   | exact ih1 _ _ _ _ _
   | exact ih2 _ _ _ _ _
   | exact cantonlaw14_great.mono _ _
   | exact cantonlaw14_head.mono _
   | exact cantonref01_In.mono _ _ _
   | exact cantonref01_Right.mono _ _
   | exact cantonref14_Right.mono _ _
   | exact mounts_Of.mono _ _ _
   | exact LeO.none _
   | refine LeO.ite ?_ ?_
   | refine LeO.bind ?_ (fun _ => ?_)
  ·intro y0 y1 y2 y3 y4
   unfold cantonlaw14_MountsOne.j1
   repeat' first
   | (with_reducible exact ih0 _ _ _ _)
   | (with_reducible exact ih1 _ _ _ _ _)
   | (with_reducible exact ih2 _ _ _ _ _)
   | (with_reducible exact cantonlaw14_great.mono _ _)
   | (with_reducible exact cantonlaw14_head.mono _)
   | (with_reducible exact cantonref01_In.mono _ _ _)
   | (with_reducible exact cantonref01_Right.mono _ _)
   | (with_reducible exact cantonref14_Right.mono _ _)
   | (with_reducible exact mounts_Of.mono _ _ _)
   | (with_reducible exact LeO.refl _)
   | (with_reducible exact LeO.none _)
   | (with_reducible refine LeO.ite ?_ ?_)
   | (with_reducible refine LeO.bind ?_ (fun _ => ?_))
   | exact ih0 _ _ _ _
   | exact ih1 _ _ _ _ _
   | exact ih2 _ _ _ _ _
   | exact cantonlaw14_great.mono _ _
   | exact cantonlaw14_head.mono _
   | exact cantonref01_In.mono _ _ _
   | exact cantonref01_Right.mono _ _
   | exact cantonref14_Right.mono _ _
   | exact mounts_Of.mono _ _ _
   | exact LeO.none _
   | refine LeO.ite ?_ ?_
   | refine LeO.bind ?_ (fun _ => ?_)
  ·intro y0 y1 y2 y3 y4
   unfold cantonlaw14_MountsOne.l0
   repeat' first
   | (with_reducible exact ih0 _ _ _ _)
   | (with_reducible exact ih1 _ _ _ _ _)
   | (with_reducible exact ih2 _ _ _ _ _)
   | (with_reducible exact cantonlaw14_great.mono _ _)
   | (with_reducible exact cantonlaw14_head.mono _)
   | (with_reducible exact cantonref01_In.mono _ _ _)
   | (with_reducible exact cantonref01_Right.mono _ _)
   | (with_reducible exact cantonref14_Right.mono _ _)
   | (with_reducible exact mounts_Of.mono _ _ _)
   | (with_reducible exact LeO.refl _)
   | (with_reducible exact LeO.none _)
   | (with_reducible refine LeO.ite ?_ ?_)
   | (with_reducible refine LeO.bind ?_ (fun _ => ?_))
   | exact ih0 _ _ _ _
   | exact ih1 _ _ _ _ _
   | exact ih2 _ _ _ _ _
   | exact cantonlaw14_great.mono _ _
   | exact cantonlaw14_head.mono _
   | exact cantonref01_In.mono _ _ _
   | exact cantonref01_Right.mono _ _
   | exact cantonref14_Right.mono _ _
   | exact mounts_Of.mono _ _ _
   | exact LeO.none _
   | refine LeO.ite ?_ ?_
   | refine LeO.bind ?_ (fun _ => ?_)
theorem cantonlaw14_MountsOne.mono : ∀ a0 a1 k, LeO (cantonlaw14_MountsOne.f k a0 a1) (cantonlaw14_MountsOne.f (k + 1) a0 a1) := by
 intro a0 a1 k
 obtain ⟨ih0, ih1, ih2⟩ := cantonlaw14_MountsOne.mono_l k
 unfold cantonlaw14_MountsOne.f
 repeat' first
   | (with_reducible exact ih0 _ _ _ _)
   | (with_reducible exact ih1 _ _ _ _ _)
   | (with_reducible exact ih2 _ _ _ _ _)
   | (with_reducible exact cantonlaw14_great.mono _ _)
   | (with_reducible exact cantonlaw14_head.mono _)
   | (with_reducible exact cantonref01_In.mono _ _ _)
   | (with_reducible exact cantonref01_Right.mono _ _)
   | (with_reducible exact cantonref14_Right.mono _ _)
   | (with_reducible exact mounts_Of.mono _ _ _)
   | (with_reducible exact LeO.refl _)
   | (with_reducible exact LeO.none _)
   | (with_reducible refine LeO.ite ?_ ?_)
   | (with_reducible refine LeO.bind ?_ (fun _ => ?_))
   | exact ih0 _ _ _ _
   | exact ih1 _ _ _ _ _
   | exact ih2 _ _ _ _ _
   | exact cantonlaw14_great.mono _ _
   | exact cantonlaw14_head.mono _
   | exact cantonref01_In.mono _ _ _
   | exact cantonref01_Right.mono _ _
   | exact cantonref14_Right.mono _ _
   | exact mounts_Of.mono _ _ _
   | exact LeO.none _
   | refine LeO.ite ?_ ?_
   | refine LeO.bind ?_ (fun _ => ?_)
def cantonlaw14_MountsOne.T10 : Bool × List (List Nat × List Nat) := (true, [([], []), ([], []), ([0, 1], [0, 1]), ([2], [2]), ([3], [3]), ([3], [3]), ([3], [3]), ([5, 6, 3], [3, 5, 6]), ([7, 3], [3, 7]), ([8, 3], [3, 8]), ([4, 9, 3, 3], [3, 4, 9]), ([3, 10], [3, 10]), ([11, 10], [11]), ([12], [12]), ([12], [12]), ([13, 14, 12], [12, 13, 14]), ([15, 12], [12, 15]), ([16, 12], [12, 16]), ([17, 12], [12, 17]), ([12], [12]), ([12], [12]), ([19, 20, 12], [12, 19, 20]), ([21, 12], [12, 21]), ([22, 12], [12, 22]), ([23, 12], [12, 23]), ([18, 24, 12], [12, 18, 24]), ([25, 12, 12], [12, 25]), ([26], [26]), ([26], [26]), ([27, 28, 26], [26, 27, 28]), ([29, 26], [26, 29]), ([30, 26], [26, 30]), ([26], [26]), ([26], [26]), ([32, 33, 26], [26, 32, 33]), ([34, 26], [26, 34]), ([35, 26], [26, 35]), ([31, 36, 26, 26], [26, 31, 36]), ([37, 26], [26, 37]), ([26, 38, 12], [12, 26, 38]), ([12, 39], [12, 39])])
def cantonlaw14_MountsOne.B10 : List Nat := [0, 0, 3, 7, 15, 15, 15, 111, 239, 495, 1023, 2047, 4095, 8191, 8191, 32767, 65535, 131071, 262143, 8191, 8191, 1581055, 3678207, 7872511, 16261119, 33554431, 67108863, 134217727, 134217727, 536870911, 1073741823, 2147483647, 134217727, 134217727, 13019119615, 30198988799, 64558727167, 137438953471, 274877906943, 549755813887, 1099511627775]
theorem cantonlaw14_MountsOne.tab10 : rtab .any (opsOf Try.f6 10) = cantonlaw14_MountsOne.T10 := by kernel_rfl
theorem cantonlaw14_MountsOne.bits10 : waitsOk cantonlaw14_MountsOne.T10.2 cantonlaw14_MountsOne.B10 = true := by kernel_rfl
set_option maxHeartbeats 8000000 in
set_option maxRecDepth 100000 in
theorem cantonlaw14_MountsOne.calls (k : Nat) (A0 : Option Addr) (c0 : Nat) (l0 : List (S27)) (a1 : ByteArray) (r : Bool) (w : World) (hr0 : Kd.C k27 w A0 l0.length l0) (hc0 : l0.length ≤ c0) (h : cantonlaw14_MountsOne.f k l0 a1 = some r) :
  Calls Try.prog 6 #[.slice A0 l0.length c0, .string a1] w fun e w' => e = .returned (.bool r) ∧ Below w.heap.size w w' := by
 have HR0 := Aside0.mk hr0
 have HC0 := Aside0.mk hc0
 clear hr0 hc0
 have HB := Aside0.mk (Below.refl w.heap.size w)
 have H : ((cantonlaw14_head.f k).bind fun t259 => ((cantonlaw14_great.f k l0).bind fun t260 => (if t260 = true then (cantonlaw14_MountsOne.j0 k l0 a1 t259 true) else (if (a1.size : Int) > 1000 then (cantonlaw14_MountsOne.j0 k l0 a1 t259 true) else ((cantonref14_Right.f k l0).bind fun t261 => (if t261 = true then ((cantonref01_Right.f k a1).bind fun t262 => (cantonlaw14_MountsOne.j0 k l0 a1 t259 (!t262))) else (cantonlaw14_MountsOne.j0 k l0 a1 t259 true))))))) = some r := h
 clear h
 replace H := Option.bind_eq_some_iff.mp H
 obtain ⟨t259, A30, H⟩ := H
 replace H : ((cantonlaw14_great.f k l0).bind fun t260 => (if t260 = true then (cantonlaw14_MountsOne.j0 k l0 a1 t259 true) else (if (a1.size : Int) > 1000 then (cantonlaw14_MountsOne.j0 k l0 a1 t259 true) else ((cantonref14_Right.f k l0).bind fun t261 => (if t261 = true then ((cantonref01_Right.f k a1).bind fun t262 => (cantonlaw14_MountsOne.j0 k l0 a1 t259 (!t262))) else (cantonlaw14_MountsOne.j0 k l0 a1 t259 true)))))) = some r := H
 have A3 := Aside0.mk A30
 clear A30
 have HC4 := Aside0.mk H
 clear H
 go_enter Try.func6, Try.ntmps6
 go_upto_region 2 with (first | ((with_reducible refine gate_callee (f := 8) rfl ?_); refine goesL_ (some 8) rfl rfl Try.func8 (by kernel_rfl) rfl #[] rfl (by (try simp only [List.map_toArray, List.map_cons, List.map_nil]); first | done | rfl | (simp only [List.length_drop, List.length_take]; rfl)) ?_; (with_reducible refine (cantonlaw14_head.calls k  t259 _ A3.out).mono ?_); rintro e w5 ⟨rfl, hb⟩; refine ⟨_, rfl, ?_⟩; have n0_ := Aside0.mk (below_step (by repeat (first | (with_reducible first | exact HB.out | apply below_alloc | apply pw_below_drewN | apply below_drew1) | exact HB.out)) hb); clear HB; have HB := n0_; clear n0_; (try clear hb); (try clear hb2); (try clear hk); (try clear hi)))
 (try simp only [Act.put, List.setIfInBounds_toArray, List.set_cons_zero, List.set_cons_succ])
 go_cut [25] (fun v25 wc => ∃ (kq : Nat) (x25_3 : Bool), v25 = .bool x25_3 ∧ Aside0 (cantonlaw14_MountsOne.j0 kq l0 a1 t259 x25_3 = some r) ∧ Aside0 (kq ≤ k) ∧ Aside0 (Below w.heap.size w wc))
 case first =>
  have H := HC4.out
  clear HC4
  replace H := Option.bind_eq_some_iff.mp H
  obtain ⟨t260, A60, H⟩ := H
  replace H : (if t260 = true then (cantonlaw14_MountsOne.j0 k l0 a1 t259 true) else (if (a1.size : Int) > 1000 then (cantonlaw14_MountsOne.j0 k l0 a1 t259 true) else ((cantonref14_Right.f k l0).bind fun t261 => (if t261 = true then ((cantonref01_Right.f k a1).bind fun t262 => (cantonlaw14_MountsOne.j0 k l0 a1 t259 (!t262))) else (cantonlaw14_MountsOne.j0 k l0 a1 t259 true))))) = some r := H
  have A6 := Aside0.mk A60
  clear A60
  by_cases c7 : t260 = true
  ·subst c7
   have H1 : (cantonlaw14_MountsOne.j0 k l0 a1 t259 true) = some r := by rw [if_pos rfl] at H; exact H
   clear H
   have H := H1
   clear H1
   have H' := Aside0.mk H
   clear H
   go_wp2_with (first | ((with_reducible refine gate_callee (f := 9) rfl ?_); refine goesL_ (some 10) rfl rfl Try.func9 (by kernel_rfl) rfl #[.slice A0 l0.length c0] rfl (by (try simp only [List.map_toArray, List.map_cons, List.map_nil]); first | done | rfl | (simp only [List.length_drop, List.length_take]; rfl)) ?_; (with_reducible refine (cantonlaw14_great.calls k _ _ l0 true _ ?side1 ?side2 A6.out).mono ?_); (case side1 => repeat (first | exact (Kd.C_below HR0.out HB.out) | (with_reducible refine Kd.C_alloc ?_ _) | (with_reducible refine Kd.C_drewN ?_ _) | (with_reducible refine Kd.C_drew ?_))); (case side2 => exact HC0.out); rintro e w8 ⟨rfl, hb⟩; refine ⟨_, rfl, ?_⟩; have n0_ := Aside0.mk (below_step (by repeat (first | (with_reducible first | exact HB.out | apply below_alloc | apply pw_below_drewN | apply below_drew1) | exact HB.out)) hb); clear HB; have HB := n0_; clear n0_; (try clear hb); (try clear hb2); (try clear hk); (try clear hi)))
   go_meet
   case rel => exact ⟨_, (true), (by first | rfl | (simp; done) | (simp [*]; done)), H', ⟨by first | omega | exact Nat.le_refl _⟩, ⟨by repeat (first | (with_reducible first | exact HB.out | apply below_alloc | apply pw_below_drewN | apply below_drew1) | exact HB.out)⟩⟩
  ·replace c7 := Bool.eq_false_iff.mpr c7
   subst c7
   have H1 : (if (a1.size : Int) > 1000 then (cantonlaw14_MountsOne.j0 k l0 a1 t259 true) else ((cantonref14_Right.f k l0).bind fun t261 => (if t261 = true then ((cantonref01_Right.f k a1).bind fun t262 => (cantonlaw14_MountsOne.j0 k l0 a1 t259 (!t262))) else (cantonlaw14_MountsOne.j0 k l0 a1 t259 true)))) = some r := by rw [if_neg (show ¬ (false = true) by decide)] at H; exact H
   clear H
   have H := H1
   clear H1
   by_cases c9 : (a1.size : Int) > 1000
   ·rw [if_pos c9] at H
    have c9b0 : decide (1000 < (a1.size : Int)) = true := decide_eq_true c9
    have c9b1 : decide (1000 < a1.size) = true := decide_eq_true (by omega)
    clear c9
    (first | rw [c9b0] | (simp only [i64_w, i32_w]; rw [c9b0]) | skip)
    have H' := Aside0.mk H
    clear H
    go_wp2_with (first | ((with_reducible refine gate_callee (f := 9) rfl ?_); refine goesL_ (some 10) rfl rfl Try.func9 (by kernel_rfl) rfl #[.slice A0 l0.length c0] rfl (by (try simp only [List.map_toArray, List.map_cons, List.map_nil]); first | done | rfl | (simp only [List.length_drop, List.length_take]; rfl)) ?_; (with_reducible refine (cantonlaw14_great.calls k _ _ l0 false _ ?side1 ?side2 A6.out).mono ?_); (case side1 => repeat (first | exact (Kd.C_below HR0.out HB.out) | (with_reducible refine Kd.C_alloc ?_ _) | (with_reducible refine Kd.C_drewN ?_ _) | (with_reducible refine Kd.C_drew ?_))); (case side2 => exact HC0.out); rintro e w10 ⟨rfl, hb⟩; refine ⟨_, rfl, ?_⟩; have n0_ := Aside0.mk (below_step (by repeat (first | (with_reducible first | exact HB.out | apply below_alloc | apply pw_below_drewN | apply below_drew1) | exact HB.out)) hb); clear HB; have HB := n0_; clear n0_; (try clear hb); (try clear hb2); (try clear hk); (try clear hi)))
    go_meet
    case rel => exact ⟨_, (true), (by first | rfl | (simp; done) | (simp [*]; done)), H', ⟨by first | omega | exact Nat.le_refl _⟩, ⟨by repeat (first | (with_reducible first | exact HB.out | apply below_alloc | apply pw_below_drewN | apply below_drew1) | exact HB.out)⟩⟩
   ·rw [if_neg c9] at H
    have c9b0 : decide (1000 < (a1.size : Int)) = false := decide_eq_false c9
    have c9b1 : decide (1000 < a1.size) = false := decide_eq_false (by omega)
    clear c9
    (first | rw [c9b0] | (simp only [i64_w, i32_w]; rw [c9b0]) | skip)
    replace H := Option.bind_eq_some_iff.mp H
    obtain ⟨t261, A110, H⟩ := H
    replace H : (if t261 = true then ((cantonref01_Right.f k a1).bind fun t262 => (cantonlaw14_MountsOne.j0 k l0 a1 t259 (!t262))) else (cantonlaw14_MountsOne.j0 k l0 a1 t259 true)) = some r := H
    have A11 := Aside0.mk A110
    clear A110
    by_cases c12 : t261 = true
    ·subst c12
     have H1 : ((cantonref01_Right.f k a1).bind fun t262 => (cantonlaw14_MountsOne.j0 k l0 a1 t259 (!t262))) = some r := by rw [if_pos rfl] at H; exact H
     clear H
     have H := H1
     clear H1
     replace H := Option.bind_eq_some_iff.mp H
     obtain ⟨t262, A130, H⟩ := H
     replace H : (cantonlaw14_MountsOne.j0 k l0 a1 t259 (!t262)) = some r := H
     have A13 := Aside0.mk A130
     clear A130
     have H' := Aside0.mk H
     clear H
     go_wp2_with (first | ((with_reducible refine gate_callee (f := 9) rfl ?_); refine goesL_ (some 10) rfl rfl Try.func9 (by kernel_rfl) rfl #[.slice A0 l0.length c0] rfl (by (try simp only [List.map_toArray, List.map_cons, List.map_nil]); first | done | rfl | (simp only [List.length_drop, List.length_take]; rfl)) ?_; (with_reducible refine (cantonlaw14_great.calls k _ _ l0 false _ ?side1 ?side2 A6.out).mono ?_); (case side1 => repeat (first | exact (Kd.C_below HR0.out HB.out) | (with_reducible refine Kd.C_alloc ?_ _) | (with_reducible refine Kd.C_drewN ?_ _) | (with_reducible refine Kd.C_drew ?_))); (case side2 => exact HC0.out); rintro e w14 ⟨rfl, hb⟩; refine ⟨_, rfl, ?_⟩; have n0_ := Aside0.mk (below_step (by repeat (first | (with_reducible first | exact HB.out | apply below_alloc | apply pw_below_drewN | apply below_drew1) | exact HB.out)) hb); clear HB; have HB := n0_; clear n0_; (try clear hb); (try clear hb2); (try clear hk); (try clear hi)) | (go_at_call 10; (with_reducible refine (cantonref14_Right.calls k _ _ l0 true _ ?side1 ?side2 A11.out).mono ?_); (case side1 => repeat (first | exact (Kd.C_below HR0.out HB.out) | (with_reducible refine Kd.C_alloc ?_ _) | (with_reducible refine Kd.C_drewN ?_ _) | (with_reducible refine Kd.C_drew ?_))); (case side2 => exact HC0.out); rintro e w15 ⟨rfl, hb⟩; have n0_ := Aside0.mk (below_step (by repeat (first | (with_reducible first | exact HB.out | apply below_alloc | apply pw_below_drewN | apply below_drew1) | exact HB.out)) hb); clear HB; have HB := n0_; clear n0_; (try clear hb); (try clear hb2); (try clear hk); (try clear hi)) | (go_at_call 11; (with_reducible refine (cantonref01_Right.calls k a1 t262 _ A13.out).mono ?_); rintro e w16 ⟨rfl, hb⟩; have n0_ := Aside0.mk (below_step (by repeat (first | (with_reducible first | exact HB.out | apply below_alloc | apply pw_below_drewN | apply below_drew1) | exact HB.out)) hb); clear HB; have HB := n0_; clear n0_; (try clear hb); (try clear hb2); (try clear hk); (try clear hi)))
     go_meet
     case rel => exact ⟨_, (!t262), (by first | rfl | (simp; done) | (simp [*]; done)), H', ⟨by first | omega | exact Nat.le_refl _⟩, ⟨by repeat (first | (with_reducible first | exact HB.out | apply below_alloc | apply pw_below_drewN | apply below_drew1) | exact HB.out)⟩⟩
    ·replace c12 := Bool.eq_false_iff.mpr c12
     subst c12
     have H1 : (cantonlaw14_MountsOne.j0 k l0 a1 t259 true) = some r := by rw [if_neg (show ¬ (false = true) by decide)] at H; exact H
     clear H
     have H := H1
     clear H1
     have H' := Aside0.mk H
     clear H
     go_wp2_with (first | ((with_reducible refine gate_callee (f := 9) rfl ?_); refine goesL_ (some 10) rfl rfl Try.func9 (by kernel_rfl) rfl #[.slice A0 l0.length c0] rfl (by (try simp only [List.map_toArray, List.map_cons, List.map_nil]); first | done | rfl | (simp only [List.length_drop, List.length_take]; rfl)) ?_; (with_reducible refine (cantonlaw14_great.calls k _ _ l0 false _ ?side1 ?side2 A6.out).mono ?_); (case side1 => repeat (first | exact (Kd.C_below HR0.out HB.out) | (with_reducible refine Kd.C_alloc ?_ _) | (with_reducible refine Kd.C_drewN ?_ _) | (with_reducible refine Kd.C_drew ?_))); (case side2 => exact HC0.out); rintro e w17 ⟨rfl, hb⟩; refine ⟨_, rfl, ?_⟩; have n0_ := Aside0.mk (below_step (by repeat (first | (with_reducible first | exact HB.out | apply below_alloc | apply pw_below_drewN | apply below_drew1) | exact HB.out)) hb); clear HB; have HB := n0_; clear n0_; (try clear hb); (try clear hb2); (try clear hk); (try clear hi)) | (go_at_call 10; (with_reducible refine (cantonref14_Right.calls k _ _ l0 false _ ?side1 ?side2 A11.out).mono ?_); (case side1 => repeat (first | exact (Kd.C_below HR0.out HB.out) | (with_reducible refine Kd.C_alloc ?_ _) | (with_reducible refine Kd.C_drewN ?_ _) | (with_reducible refine Kd.C_drew ?_))); (case side2 => exact HC0.out); rintro e w18 ⟨rfl, hb⟩; have n0_ := Aside0.mk (below_step (by repeat (first | (with_reducible first | exact HB.out | apply below_alloc | apply pw_below_drewN | apply below_drew1) | exact HB.out)) hb); clear HB; have HB := n0_; clear n0_; (try clear hb); (try clear hb2); (try clear hk); (try clear hi)))
     go_meet
     case rel => exact ⟨_, (true), (by first | rfl | (simp; done) | (simp [*]; done)), H', ⟨by first | omega | exact Nat.le_refl _⟩, ⟨by repeat (first | (with_reducible first | exact HB.out | apply below_alloc | apply pw_below_drewN | apply below_drew1) | exact HB.out)⟩⟩
 case rest =>
  clear HC4
  try clear c1
  try clear p2
  try clear c6
  try clear c7
  try clear c8
  try clear c9
  try clear c9b0
  try clear c9b1
  try clear c12
  obtain ⟨kq, x25_3, rfl, HA, HJ3, HB⟩ := hcut
  cases kq with
  | zero => exact absurd HA.out (by simp [cantonlaw14_MountsOne.j0])
  | succ kj3 =>
   have H := HA.out
   clear HA
   simp only [cantonlaw14_MountsOne.j0] at H
   by_cases c19 : x25_3 = true
   ·subst c19
    have H1 : (some t259) = some r := by rw [if_pos rfl] at H; exact H
    clear H
    have H := H1
    clear H1
    obtain rfl := Option.some.inj H
    go_wp2
    go_ret
    exact ⟨by first | rfl | (simp [errW_none, errW_some] <;> rfl) | (simp [*, errW_none, errW_some] <;> rfl), by repeat (first | (with_reducible first | exact HB.out | apply below_alloc | apply pw_below_drewN | apply below_drew1) | exact HB.out)⟩
   ·replace c19 := Bool.eq_false_iff.mpr c19
    subst c19
    have H1 : ((mounts_Of.f kj3 l0 a1).bind fun t263 => (if t263 < 0 then (cantonlaw14_MountsOne.j1 kj3 l0 a1 t259 t263 true) else (if t263 ≥ (l0.length : Int) then (cantonlaw14_MountsOne.j1 kj3 l0 a1 t259 t263 true) else (if 0 ≤ t263 then (if t263 < (l0.length : Int) then ((cantonref01_In.f kj3 a1 ((rd_T27 l0 t263).f0)).bind fun t265 => (cantonlaw14_MountsOne.j1 kj3 l0 a1 t259 t263 (!t265))) else (none)) else (none))))) = some r := by rw [if_neg (show ¬ (false = true) by decide)] at H; exact H
    clear H
    have H := H1
    clear H1
    replace H := Option.bind_eq_some_iff.mp H
    obtain ⟨t263, A200, H⟩ := H
    replace H : (if t263 < 0 then (cantonlaw14_MountsOne.j1 kj3 l0 a1 t259 t263 true) else (if t263 ≥ (l0.length : Int) then (cantonlaw14_MountsOne.j1 kj3 l0 a1 t259 t263 true) else (if 0 ≤ t263 then (if t263 < (l0.length : Int) then ((cantonref01_In.f kj3 a1 ((rd_T27 l0 t263).f0)).bind fun t265 => (cantonlaw14_MountsOne.j1 kj3 l0 a1 t259 t263 (!t265))) else (none)) else (none)))) = some r := H
    have A20 := Aside0.mk A200
    clear A200
    have HC21 := Aside0.mk H
    clear H
    go_upto_region 5 with (first | ((with_reducible refine gate_callee (f := 15) rfl ?_); refine goesL_ (some 29) rfl rfl Try.func15 (by kernel_rfl) rfl #[.slice A0 l0.length c0, .string a1] rfl (by (try simp only [List.map_toArray, List.map_cons, List.map_nil]); first | done | rfl | (simp only [List.length_drop, List.length_take]; rfl)) ?_; (with_reducible refine (mounts_Of.calls kj3 _ _ l0 a1 t263 _ ?side1 ?side2 A20.out).mono ?_); (case side1 => repeat (first | exact (Kd.C_below HR0.out HB.out) | (with_reducible refine Kd.C_alloc ?_ _) | (with_reducible refine Kd.C_drewN ?_ _) | (with_reducible refine Kd.C_drew ?_))); (case side2 => exact HC0.out); rintro e w22 ⟨rfl, hb⟩; refine ⟨_, rfl, ?_⟩; have n0_ := Aside0.mk (below_step (by repeat (first | (with_reducible first | exact HB.out | apply below_alloc | apply pw_below_drewN | apply below_drew1) | exact HB.out)) hb); clear HB; have HB := n0_; clear n0_; (try clear hb); (try clear hb2); (try clear hk); (try clear hi)))
    (try simp only [Act.put, List.setIfInBounds_toArray, List.set_cons_zero, List.set_cons_succ])
    go_cut [47] (fun v47 wc => ∃ (kq : Nat) (x47_20 : Bool), v47 = .bool x47_20 ∧ Aside0 (cantonlaw14_MountsOne.j1 kq l0 a1 t259 t263 x47_20 = some r) ∧ Aside0 (kq ≤ kj3) ∧ Aside0 (Below w.heap.size w wc))
    case first =>
     have H := HC21.out
     clear HC21
     by_cases c23 : t263 < 0
     ·rw [if_pos c23] at H
      have c23b0 : decide (t263 < 0) = true := decide_eq_true c23
      clear c23
      (first | rw [c23b0] | (simp only [i64_w, i32_w]; rw [c23b0]) | skip)
      have H' := Aside0.mk H
      clear H
      go_wp2
      go_meet
      case rel => exact ⟨_, (true), (by first | rfl | (simp; done) | (simp [*]; done)), H', ⟨by have := HJ3.out; first | omega | exact Nat.le_refl _⟩, ⟨by repeat (first | (with_reducible first | exact HB.out | apply below_alloc | apply pw_below_drewN | apply below_drew1) | exact HB.out)⟩⟩
     ·rw [if_neg c23] at H
      have c23b0 : decide (t263 < 0) = false := decide_eq_false c23
      clear c23
      (first | rw [c23b0] | (simp only [i64_w, i32_w]; rw [c23b0]) | skip)
      by_cases c24 : t263 ≥ (l0.length : Int)
      ·rw [if_pos c24] at H
       have c24b0 : decide ((l0.length : Int) ≤ t263) = true := decide_eq_true c24
       clear c24
       have H' := Aside0.mk H
       clear H
       go_wp2
       go_meet
       case rel => exact ⟨_, (true), (by first | rfl | (simp; done) | (simp [*]; done)), H', ⟨by have := HJ3.out; first | omega | exact Nat.le_refl _⟩, ⟨by repeat (first | (with_reducible first | exact HB.out | apply below_alloc | apply pw_below_drewN | apply below_drew1) | exact HB.out)⟩⟩
      ·rw [if_neg c24] at H
       have c24b0 : decide ((l0.length : Int) ≤ t263) = false := decide_eq_false c24
       clear c24
       by_cases c25 : 0 ≤ t263
       ·rw [if_pos c25] at H
        have c25b0 : decide (0 ≤ t263) = true := decide_eq_true c25
        clear c25
        by_cases c26 : t263 < (l0.length : Int)
        ·rw [if_pos c26] at H
         have c26b0 : decide (t263 < (l0.length : Int)) = true := decide_eq_true c26
         clear c26
         replace H := Option.bind_eq_some_iff.mp H
         obtain ⟨t265, A270, H⟩ := H
         replace H : (cantonlaw14_MountsOne.j1 kj3 l0 a1 t259 t263 (!t265)) = some r := H
         have A27 := Aside0.mk A270
         clear A270
         have H' := Aside0.mk H
         clear H
         have p264 : 0 ≤ (t263 : Int) := of_decide_eq_true (by first | (with_reducible assumption) | assumption)
         have q264 : t263 < (l0.length : Int) := of_decide_eq_true (by first | (with_reducible assumption) | assumption)
         obtain ⟨ad264, e264, hx264_0, hx264_1, hx264_2, hx264_3⟩ := at_T27 HR0.out t263 p264 q264
         cases e264
         replace hx264_0 := (HB.out.cell (World.block_lt_of_cell? w _ hx264_0)).trans hx264_0
         replace hx264_1 := (HB.out.cell (World.block_lt_of_cell? w _ hx264_1)).trans hx264_1
         replace hx264_2 := (HB.out.cell (World.block_lt_of_cell? w _ hx264_2)).trans hx264_2
         replace hx264_3 := (HB.out.cell (World.block_lt_of_cell? w _ hx264_3)).trans hx264_3
         replace p264 := eq_true p264
         replace q264 := eq_true q264
         go_wp2_with (first | (go_at_call 18; (with_reducible refine (cantonref01_In.calls kj3 a1 ((rd_T27 l0 t263).f0) t265 _ A27.out).mono ?_); rintro e w28 ⟨rfl, hb⟩; have n0_ := Aside0.mk (below_step (by repeat (first | (with_reducible first | exact HB.out | apply below_alloc | apply pw_below_drewN | apply below_drew1) | exact HB.out)) hb); clear HB; have HB := n0_; clear n0_; (try clear hb); (try clear hb2); (try clear hk); (try clear hi)))
         go_meet
         case rel => exact ⟨_, (!t265), (by first | rfl | (simp; done) | (simp [*]; done)), H', ⟨by have := HJ3.out; first | omega | exact Nat.le_refl _⟩, ⟨by repeat (first | (with_reducible first | exact HB.out | apply below_alloc | apply pw_below_drewN | apply below_drew1) | exact HB.out)⟩⟩
        ·rw [if_neg c26] at H
         exact absurd H (by simp)
       ·rw [if_neg c25] at H
        exact absurd H (by simp)
    case rest =>
     clear HC21
     try clear c1
     try clear c2
     try clear p2
     try clear q2
     try clear hx2
     try clear c6
     try clear c7
     try clear c8
     try clear c9
     try clear c9b0
     try clear c9b1
     try clear c12
     try clear c15
     try clear c19
     try clear c23
     try clear c23b0
     try clear c24
     try clear c24b0
     try clear c25
     try clear c25b0
     try clear c26
     try clear c26b0
     try clear p26
     try clear q26
     try clear hx26
     try clear hx264_0
     try clear hx264_1
     try clear hx264_2
     try clear hx264_3
     try clear p2
     try clear p264
     try clear q264
     obtain ⟨kq, x47_20, rfl, HA, HJ20, HB⟩ := hcut
     cases kq with
     | zero => exact absurd HA.out (by simp [cantonlaw14_MountsOne.j1])
     | succ kj20 =>
      have H := HA.out
      clear HA
      simp only [cantonlaw14_MountsOne.j1] at H
      by_cases c29 : x47_20 = true
      ·subst c29
       have H1 : (some false) = some r := by rw [if_pos rfl] at H; exact H
       clear H
       have H := H1
       clear H1
       obtain rfl := Option.some.inj H
       go_wp2
       go_ret
       exact ⟨by first | rfl | (simp [errW_none, errW_some] <;> rfl) | (simp [*, errW_none, errW_some] <;> rfl), by repeat (first | (with_reducible first | exact HB.out | apply below_alloc | apply pw_below_drewN | apply below_drew1) | exact HB.out)⟩
      ·replace c29 := Bool.eq_false_iff.mpr c29
       subst c29
       have H1 : (cantonlaw14_MountsOne.l0 kj20 l0 a1 t259 t263 0) = some r := by rw [if_neg (show ¬ (false = true) by decide)] at H; exact H
       clear H
       have H := H1
       clear H1
       have H' := Aside0.mk H
       clear H
       go_wp2
       go_loopg [7] kj20 (fun kq v7 w' => ∃ (x7_3 : Int), v7 = .int .i64 x7_3 ∧ Aside0 (cantonlaw14_MountsOne.l0 kq l0 a1 t259 t263 x7_3 = some r) ∧ Aside0 (kq ≤ kj20) ∧ Aside0 (Below w.heap.size w w'))
       case atStart => exact ⟨(0), (by first | rfl | (simp; done) | (simp [*]; done)), H', ⟨Nat.le_refl _⟩, ⟨by repeat (first | (with_reducible first | exact HB.out | apply below_alloc | apply pw_below_drewN | apply below_drew1) | exact HB.out)⟩⟩
       case round =>
        clear H'
        try clear c1
        try clear c2
        try clear p2
        try clear q2
        try clear hx2
        try clear c6
        try clear c7
        try clear c8
        try clear c9
        try clear c9b0
        try clear c9b1
        try clear c12
        try clear c15
        try clear c19
        try clear c23
        try clear c23b0
        try clear c24
        try clear c24b0
        try clear c25
        try clear c25b0
        try clear c26
        try clear c26b0
        try clear p26
        try clear q26
        try clear hx26
        try clear c29
        try clear hx264_0
        try clear hx264_1
        try clear hx264_2
        try clear hx264_3
        try clear p2
        try clear p26
        try clear p264
        try clear q2
        try clear q26
        try clear q264
        obtain ⟨x7_3, rfl, HA, HK3, HB⟩ := hrel
        cases gk with
        | zero => exact absurd HA.out (by simp [cantonlaw14_MountsOne.l0])
        | succ k3 =>
         have H := HA.out
         clear HA
         simp only [cantonlaw14_MountsOne.l0] at H
         by_cases c30 : x7_3 < (l0.length : Int)
         ·rw [if_pos c30] at H
          have c30b0 : decide (x7_3 < (l0.length : Int)) = true := decide_eq_true c30
          clear c30
          by_cases c31 : x7_3 = t263
          ·rw [if_pos c31] at H
           have c31b0 : (x7_3 == t263) = true := beq_iff_eq.mpr c31
           have c31b1 : (x7_3 != t263) = false := bne_eq_false_iff_eq.mpr c31
           clear c31
           have H' := Aside0.mk H
           clear H
           try go_wp2
           have n0_ := Aside0.mk (below_drew1 HB.out)
           clear HB
           have HB := n0_
           clear n0_
           refine start_ (n := 41) (S := fun w' => True) (ds := []) x13tr41_0 (by kernel_rfl) rfl rfl trivial (fun hHeld => ?_); refine with_tabW cantonlaw14_MountsOne.tab10 cantonlaw14_MountsOne.bits10 (fun HT_ HW_ => ?_)
           generalize wr.drew = w32 at HB hHeld ⊢
           refine pA_ 0 54 x13tr41_1 HT_.out ?_
           refine pA_ 1 55 x13tr41_2 HT_.out ?_
           refine pA_ 2 56 x13tr41_3 HT_.out ?_
           refine pA_ 3 57 x13tr41_4 HT_.out ?_
           refine pU_ 4 58 x13tr41_5 HT_.out ?_
           refine pU_ 5 59 x13tr41_6 HT_.out ?_
           refine pU_ 6 60 x13tr41_7 HT_.out ?_
           refine pU_ 7 61 x13tr41_8 HT_.out ?_
           refine pU_ 8 62 x13tr41_9 HT_.out ?_
           refine pU_ 9 63 x13tr41_10 HT_.out ?_
           refine pU_ 10 64 x13tr41_11 HT_.out ?_
           refine pA_ 11 65 x13tr41_12 HT_.out ?_
           refine pA_ 12 66 x13tr41_13 HT_.out ?_
           refine pU_ 13 67 x13tr41_14 HT_.out ?_
           refine pU_ 14 68 x13tr41_15 HT_.out ?_
           refine pU_ 15 69 x13tr41_16 HT_.out ?_
           refine pU_ 16 70 x13tr41_17 HT_.out ?_
           refine pU_ 17 71 x13tr41_18 HT_.out ?_
           refine pU_ 18 72 x13tr41_19 HT_.out ?_
           refine pU_ 19 73 x13tr41_20 HT_.out ?_
           refine pU_ 20 74 x13tr41_21 HT_.out ?_
           refine pU_ 21 75 x13tr41_22 HT_.out ?_
           refine pU_ 22 76 x13tr41_23 HT_.out ?_
           refine pU_ 23 77 x13tr41_24 HT_.out ?_
           refine pU_ 24 78 x13tr41_25 HT_.out ?_
           refine pU_ 25 79 x13tr41_26 HT_.out ?_
           refine pU_ 26 80 x13tr41_27 HT_.out ?_
           refine pU_ 27 81 x13tr41_28 HT_.out ?_
           refine pU_ 28 82 x13tr41_29 HT_.out ?_
           refine pU_ 29 83 x13tr41_30 HT_.out ?_
           refine pU_ 30 84 x13tr41_31 HT_.out ?_
           refine pU_ 31 85 x13tr41_32 HT_.out ?_
           refine pU_ 32 86 x13tr41_33 HT_.out ?_
           refine pU_ 33 87 x13tr41_34 HT_.out ?_
           refine pU_ 34 88 x13tr41_35 HT_.out ?_
           refine pU_ 35 89 x13tr41_36 HT_.out ?_
           refine pU_ 36 90 x13tr41_37 HT_.out ?_
           refine pU_ 37 91 x13tr41_38 HT_.out ?_
           refine pU_ 38 92 x13tr41_39 HT_.out ?_
           refine pU_ 39 93 x13tr41_40 HT_.out ?_
           refine pA_ 40 94 x13tr41_41 HT_.out ?_
           refine done_ (done_of HT_.out (by kernel_rfl)) ?_
           try go_wp2
           go_roundg k3
           case measure => have := HJ3.out; have := HJ20.out; have := HK3.out; omega
           case rel => exact ⟨(wrap64 (x7_3 + 1)), (by first | rfl | (simp; done) | (simp [*]; done)), H', ⟨by have := HJ3.out; have := HJ20.out; have := HK3.out; omega⟩, ⟨by repeat (first | (with_reducible first | exact HB.out | apply below_alloc | apply pw_below_drewN | apply below_drew1) | exact HB.out)⟩⟩
          ·rw [if_neg c31] at H
           have c31b0 : (x7_3 == t263) = false := beq_eq_false_iff_ne.mpr c31
           have c31b1 : (x7_3 != t263) = true := bne_iff_ne.mpr c31
           by_cases c33 : 0 ≤ x7_3
           ·rw [if_pos c33] at H
            have c33b0 : decide (0 ≤ x7_3) = true := decide_eq_true c33
            clear c33
            replace H := Option.bind_eq_some_iff.mp H
            obtain ⟨t267, A340, H⟩ := H
            replace H : (if t267 = true then (if 0 ≤ t263 then (if t263 < (l0.length : Int) then (if (((rd_T27 l0 x7_3).f0).size : Int) ≥ (((rd_T27 l0 t263).f0).size : Int) then (some false) else ((cantonref01_In.f k3 ((rd_T27 l0 t263).f0) ((rd_T27 l0 x7_3).f0)).bind fun t272 => (if t272 = true then (cantonlaw14_MountsOne.l0 k3 l0 a1 t259 t263 (wrap64 (x7_3 + 1))) else (some false)))) else (none)) else (none)) else (cantonlaw14_MountsOne.l0 k3 l0 a1 t259 t263 (wrap64 (x7_3 + 1)))) = some r := H
            have A34 := Aside0.mk A340
            clear A340
            by_cases c35 : t267 = true
            ·subst c35
             have H1 : (if 0 ≤ t263 then (if t263 < (l0.length : Int) then (if (((rd_T27 l0 x7_3).f0).size : Int) ≥ (((rd_T27 l0 t263).f0).size : Int) then (some false) else ((cantonref01_In.f k3 ((rd_T27 l0 t263).f0) ((rd_T27 l0 x7_3).f0)).bind fun t272 => (if t272 = true then (cantonlaw14_MountsOne.l0 k3 l0 a1 t259 t263 (wrap64 (x7_3 + 1))) else (some false)))) else (none)) else (none)) = some r := by rw [if_pos rfl] at H; exact H
             clear H
             have H := H1
             clear H1
             by_cases c36 : 0 ≤ t263
             ·rw [if_pos c36] at H
              have c36b0 : decide (0 ≤ t263) = true := decide_eq_true c36
              clear c36
              by_cases c37 : t263 < (l0.length : Int)
              ·rw [if_pos c37] at H
               have c37b0 : decide (t263 < (l0.length : Int)) = true := decide_eq_true c37
               clear c37
               by_cases c38 : (((rd_T27 l0 x7_3).f0).size : Int) ≥ (((rd_T27 l0 t263).f0).size : Int)
               ·rw [if_pos c38] at H
                have c38b0 : decide ((((rd_T27 l0 t263).f0).size : Int) ≤ (((rd_T27 l0 x7_3).f0).size : Int)) = true := decide_eq_true c38
                have c38b1 : decide (((rd_T27 l0 t263).f0).size ≤ ((rd_T27 l0 x7_3).f0).size) = true := decide_eq_true (Int.ofNat_le.mp c38)
                clear c38
                obtain rfl := Option.some.inj H
                try go_wp2
                have n0_ := Aside0.mk (below_drew1 HB.out)
                clear HB
                have HB := n0_
                clear n0_
                have p266 : 0 ≤ (x7_3 : Int) := of_decide_eq_true (by first | (with_reducible assumption) | assumption)
                have q266 : x7_3 < (l0.length : Int) := of_decide_eq_true (by first | (with_reducible assumption) | assumption)
                obtain ⟨ad266, e266, hx266_0, hx266_1, hx266_2, hx266_3⟩ := at_T27 HR0.out x7_3 p266 q266
                have hw266_3 := hx266_3
                have hw266_2 := hx266_2
                have hw266_1 := hx266_1
                have hw266_0 := hx266_0
                cases e266
                replace hx266_0 := (HB.out.cell (World.block_lt_of_cell? w _ hx266_0)).trans hx266_0
                replace hx266_1 := (HB.out.cell (World.block_lt_of_cell? w _ hx266_1)).trans hx266_1
                replace hx266_2 := (HB.out.cell (World.block_lt_of_cell? w _ hx266_2)).trans hx266_2
                replace hx266_3 := (HB.out.cell (World.block_lt_of_cell? w _ hx266_3)).trans hx266_3
                replace p266 := eq_true p266
                replace q266 := eq_true q266
                have p268 : 0 ≤ (x7_3 : Int) := of_decide_eq_true (by first | (with_reducible assumption) | assumption)
                have q268 : x7_3 < (l0.length : Int) := of_decide_eq_true (by first | (with_reducible assumption) | assumption)
                obtain ⟨ad268, e268, hx268_0, hx268_1, hx268_2, hx268_3⟩ := at_T27 HR0.out x7_3 p268 q268
                have hw268_3 := hx268_3
                have hw268_2 := hx268_2
                have hw268_1 := hx268_1
                have hw268_0 := hx268_0
                obtain rfl : ad266 = ad268 := (by injection e268)
                replace hx268_0 := (HB.out.cell (World.block_lt_of_cell? w _ hx268_0)).trans hx268_0
                replace hx268_1 := (HB.out.cell (World.block_lt_of_cell? w _ hx268_1)).trans hx268_1
                replace hx268_2 := (HB.out.cell (World.block_lt_of_cell? w _ hx268_2)).trans hx268_2
                replace hx268_3 := (HB.out.cell (World.block_lt_of_cell? w _ hx268_3)).trans hx268_3
                replace p268 := eq_true p268
                replace q268 := eq_true q268
                have p269 : 0 ≤ (t263 : Int) := of_decide_eq_true (by first | (with_reducible assumption) | assumption)
                have q269 : t263 < (l0.length : Int) := of_decide_eq_true (by first | (with_reducible assumption) | assumption)
                obtain ⟨ad269, e269, hx269_0, hx269_1, hx269_2, hx269_3⟩ := at_T27 HR0.out t263 p269 q269
                have hw269_3 := hx269_3
                have hw269_2 := hx269_2
                have hw269_1 := hx269_1
                have hw269_0 := hx269_0
                obtain rfl : ad266 = ad269 := (by injection e269)
                replace hx269_0 := (HB.out.cell (World.block_lt_of_cell? w _ hx269_0)).trans hx269_0
                replace hx269_1 := (HB.out.cell (World.block_lt_of_cell? w _ hx269_1)).trans hx269_1
                replace hx269_2 := (HB.out.cell (World.block_lt_of_cell? w _ hx269_2)).trans hx269_2
                replace hx269_3 := (HB.out.cell (World.block_lt_of_cell? w _ hx269_3)).trans hx269_3
                replace p269 := eq_true p269
                replace q269 := eq_true q269
                refine start_ (n := 41) (S := fun w' => w'.cell? (ad266.add ((x7_3).toNat * 4)) = some (.string ((rd_T27 l0 x7_3).f0)) ∧ w'.cell? ⟨(ad266.add ((x7_3).toNat * 4)).block, (ad266.add ((x7_3).toNat * 4)).off + 1, none⟩ = some (.int .i64 ((rd_T27 l0 x7_3).f1)) ∧ w'.cell? ⟨(ad266.add ((x7_3).toNat * 4)).block, (ad266.add ((x7_3).toNat * 4)).off + 2, none⟩ = some (.int .i64 ((rd_T27 l0 x7_3).f2)) ∧ w'.cell? ⟨(ad266.add ((x7_3).toNat * 4)).block, (ad266.add ((x7_3).toNat * 4)).off + 3, none⟩ = some (.int .i64 ((rd_T27 l0 x7_3).f3)) ∧ w'.cell? (ad266.add ((x7_3).toNat * 4)) = some (.string ((rd_T27 l0 x7_3).f0)) ∧ w'.cell? ⟨(ad266.add ((x7_3).toNat * 4)).block, (ad266.add ((x7_3).toNat * 4)).off + 1, none⟩ = some (.int .i64 ((rd_T27 l0 x7_3).f1)) ∧ w'.cell? ⟨(ad266.add ((x7_3).toNat * 4)).block, (ad266.add ((x7_3).toNat * 4)).off + 2, none⟩ = some (.int .i64 ((rd_T27 l0 x7_3).f2)) ∧ w'.cell? ⟨(ad266.add ((x7_3).toNat * 4)).block, (ad266.add ((x7_3).toNat * 4)).off + 3, none⟩ = some (.int .i64 ((rd_T27 l0 x7_3).f3)) ∧ w'.cell? (ad266.add ((t263).toNat * 4)) = some (.string ((rd_T27 l0 t263).f0)) ∧ w'.cell? ⟨(ad266.add ((t263).toNat * 4)).block, (ad266.add ((t263).toNat * 4)).off + 1, none⟩ = some (.int .i64 ((rd_T27 l0 t263).f1)) ∧ w'.cell? ⟨(ad266.add ((t263).toNat * 4)).block, (ad266.add ((t263).toNat * 4)).off + 2, none⟩ = some (.int .i64 ((rd_T27 l0 t263).f2)) ∧ w'.cell? ⟨(ad266.add ((t263).toNat * 4)).block, (ad266.add ((t263).toNat * 4)).off + 3, none⟩ = some (.int .i64 ((rd_T27 l0 t263).f3))) (ds := []) x13tr41_0 (by kernel_rfl) rfl rfl ⟨((HB.out.cell (World.block_lt_of_cell? w _ hw266_0)).trans hw266_0), ((HB.out.cell (World.block_lt_of_cell? w _ hw266_1)).trans hw266_1), ((HB.out.cell (World.block_lt_of_cell? w _ hw266_2)).trans hw266_2), ((HB.out.cell (World.block_lt_of_cell? w _ hw266_3)).trans hw266_3), ((HB.out.cell (World.block_lt_of_cell? w _ hw268_0)).trans hw268_0), ((HB.out.cell (World.block_lt_of_cell? w _ hw268_1)).trans hw268_1), ((HB.out.cell (World.block_lt_of_cell? w _ hw268_2)).trans hw268_2), ((HB.out.cell (World.block_lt_of_cell? w _ hw268_3)).trans hw268_3), ((HB.out.cell (World.block_lt_of_cell? w _ hw269_0)).trans hw269_0), ((HB.out.cell (World.block_lt_of_cell? w _ hw269_1)).trans hw269_1), ((HB.out.cell (World.block_lt_of_cell? w _ hw269_2)).trans hw269_2), ((HB.out.cell (World.block_lt_of_cell? w _ hw269_3)).trans hw269_3)⟩ (fun hHeld => ?_); refine with_tabW cantonlaw14_MountsOne.tab10 cantonlaw14_MountsOne.bits10 (fun HT_ HW_ => ?_)
                generalize wr.drew = w39 at HB hx266_0 hx266_1 hx266_2 hx266_3 hx268_0 hx268_1 hx268_2 hx268_3 hx269_0 hx269_1 hx269_2 hx269_3 hHeld ⊢
                refine pA_ 0 54 x13tr41_1 HT_.out ?_
                refine pA_ 1 55 x13tr41_2 HT_.out ?_
                refine pA_ 2 56 x13tr41_3 HT_.out ?_
                refine pA_ 3 57 x13tr41_4 HT_.out ?_
                refine pA_ 4 58 x13tr41_5 HT_.out ?_
                refine pA_ 5 59 x13tr41_6 HT_.out ?_
                refine pA_ 6 60 x13tr41_7 HT_.out ?_
                refine pA_ 7 61 x13tr41_8 HT_.out ?_
                refine pA_ 8 62 x13tr41_9 HT_.out ?_
                refine take_ (i := 9) (N := some 63) (v := ?_) (a' := ?_) x13tr41_10 rfl rfl (take_ofW HT_.out HW_.out (by kernel_rfl)) (fun _ _ _ h => h) (Or.inl ⟨by rfl, ?_⟩) hHeld ?_ ?_
                rotate_left
                ·rintro w' ⟨s0, s1, s2, s3, s4, s5, s6, s7, s8, s9, s10, s11⟩
                 go_simp
                 with_reducible rfl
                rotate_left
                ·simp only [Act.put, List.setIfInBounds_toArray, List.set_cons_zero, List.set_cons_succ, i64_w, i32_w]
                 rfl
                refine one_ (i := 10) (N := some 64) x13tr41_11 rfl rfl (one_of HT_.out (by kernel_rfl)) (by decide) (fun K hK => ?_)
                refine goes_ Try.func18 (by kernel_rfl) rfl #[.string a1, .string ((rd_T27 l0 x7_3).f0)] (by rfl) rfl rfl (by (try simp only [List.map_toArray, List.map_cons, List.map_nil]); first | done | rfl | (simp only [List.length_drop, List.length_take]; rfl)) ?_
                with_reducible refine (cantonref01_In.calls k3 a1 ((rd_T27 l0 x7_3).f0) true _ A34.out).mono ?_
                rintro e w40 ⟨rfl, hb⟩
                refine ⟨_, rfl, ?_⟩
                have n0_ := Aside0.mk (below_step (by repeat (first | (with_reducible first | exact HB.out | apply below_alloc | apply pw_below_drewN | apply below_drew1) | exact HB.out)) hb)
                clear HB
                have HB := n0_
                clear n0_
                (try clear hb)
                (try clear hb2)
                (try clear hk)
                (try clear hi)
                refine hK.out _ _ ⟨((HB.out.cell (World.block_lt_of_cell? w _ hw266_0)).trans hw266_0), ((HB.out.cell (World.block_lt_of_cell? w _ hw266_1)).trans hw266_1), ((HB.out.cell (World.block_lt_of_cell? w _ hw266_2)).trans hw266_2), ((HB.out.cell (World.block_lt_of_cell? w _ hw266_3)).trans hw266_3), ((HB.out.cell (World.block_lt_of_cell? w _ hw268_0)).trans hw268_0), ((HB.out.cell (World.block_lt_of_cell? w _ hw268_1)).trans hw268_1), ((HB.out.cell (World.block_lt_of_cell? w _ hw268_2)).trans hw268_2), ((HB.out.cell (World.block_lt_of_cell? w _ hw268_3)).trans hw268_3), ((HB.out.cell (World.block_lt_of_cell? w _ hw269_0)).trans hw269_0), ((HB.out.cell (World.block_lt_of_cell? w _ hw269_1)).trans hw269_1), ((HB.out.cell (World.block_lt_of_cell? w _ hw269_2)).trans hw269_2), ((HB.out.cell (World.block_lt_of_cell? w _ hw269_3)).trans hw269_3)⟩ (fun hHeld => ?_)
                clear hK K
                refine norm_ (a' := ?_) ?_ ?_
                rotate_left
                ·show Act.put _ (some 64) _ = _
                 simp only [Act.put, List.setIfInBounds_toArray, List.set_cons_zero, List.set_cons_succ, i64_w, i32_w]
                 rfl
                refine pA_ 11 65 x13tr41_12 HT_.out ?_
                refine pA_ 12 66 x13tr41_13 HT_.out ?_
                refine pA_ 13 67 x13tr41_14 HT_.out ?_
                refine pA_ 14 68 x13tr41_15 HT_.out ?_
                refine pA_ 15 69 x13tr41_16 HT_.out ?_
                refine pA_ 16 70 x13tr41_17 HT_.out ?_
                refine pA_ 19 73 x13tr41_m11111111111111111001000000000000000000000 HT_.out ?_
                refine pA_ 20 74 x13tr41_m11111111111111111001100000000000000000000 HT_.out ?_
                refine pA_ 21 75 x13tr41_m11111111111111111001110000000000000000000 HT_.out ?_
                refine pA_ 22 76 x13tr41_m11111111111111111001111000000000000000000 HT_.out ?_
                refine take_ (i := 17) (N := some 71) (v := ?_) (a' := ?_) x13tr41_m11111111111111111101111000000000000000000 rfl rfl (take_ofW HT_.out HW_.out (by kernel_rfl)) (fun _ _ _ h => h) (Or.inl ⟨by rfl, ?_⟩) hHeld ?_ ?_
                rotate_left
                ·rintro w' ⟨s0, s1, s2, s3, s4, s5, s6, s7, s8, s9, s10, s11⟩
                 go_simp
                 with_reducible rfl
                rotate_left
                ·simp only [Act.put, List.setIfInBounds_toArray, List.set_cons_zero, List.set_cons_succ, i64_w, i32_w]
                 rfl
                refine pA_ 18 72 x13tr41_23 HT_.out ?_
                refine take_ (i := 23) (N := some 77) (v := ?_) (a' := ?_) x13tr41_24 rfl rfl (take_ofW HT_.out HW_.out (by kernel_rfl)) (fun _ _ _ h => h) (Or.inl ⟨by rfl, ?_⟩) hHeld ?_ ?_
                rotate_left
                ·rintro w' ⟨s0, s1, s2, s3, s4, s5, s6, s7, s8, s9, s10, s11⟩
                 go_simp
                 with_reducible rfl
                rotate_left
                ·simp only [Act.put, List.setIfInBounds_toArray, List.set_cons_zero, List.set_cons_succ, i64_w, i32_w]
                 rfl
                refine pA_ 24 78 x13tr41_25 HT_.out ?_
                refine pA_ 25 79 x13tr41_26 HT_.out ?_
                refine pA_ 26 80 x13tr41_27 HT_.out ?_
                refine pU_ 27 81 x13tr41_28 HT_.out ?_
                refine pU_ 28 82 x13tr41_29 HT_.out ?_
                refine pU_ 29 83 x13tr41_30 HT_.out ?_
                refine pU_ 30 84 x13tr41_31 HT_.out ?_
                refine pU_ 31 85 x13tr41_32 HT_.out ?_
                refine pU_ 32 86 x13tr41_33 HT_.out ?_
                refine pU_ 33 87 x13tr41_34 HT_.out ?_
                refine pU_ 34 88 x13tr41_35 HT_.out ?_
                refine pU_ 35 89 x13tr41_36 HT_.out ?_
                refine pU_ 36 90 x13tr41_37 HT_.out ?_
                refine pU_ 37 91 x13tr41_38 HT_.out ?_
                refine pU_ 38 92 x13tr41_39 HT_.out ?_
                refine pA_ 39 93 x13tr41_40 HT_.out ?_
                refine pA_ 40 94 x13tr41_41 HT_.out ?_
                refine done_ (done_of HT_.out (by kernel_rfl)) ?_
                try go_wp2
                go_ret
                exact ⟨by first | rfl | (simp [errW_none, errW_some] <;> rfl) | (simp [*, errW_none, errW_some] <;> rfl), by repeat (first | (with_reducible first | exact HB.out | apply below_alloc | apply pw_below_drewN | apply below_drew1) | exact HB.out)⟩
               ·rw [if_neg c38] at H
                have c38b0 : decide ((((rd_T27 l0 t263).f0).size : Int) ≤ (((rd_T27 l0 x7_3).f0).size : Int)) = false := decide_eq_false c38
                have c38b1 : decide (((rd_T27 l0 t263).f0).size ≤ ((rd_T27 l0 x7_3).f0).size) = false := decide_eq_false (fun h => c38 (Int.ofNat_le.mpr h))
                clear c38
                replace H := Option.bind_eq_some_iff.mp H
                obtain ⟨t272, A410, H⟩ := H
                replace H : (if t272 = true then (cantonlaw14_MountsOne.l0 k3 l0 a1 t259 t263 (wrap64 (x7_3 + 1))) else (some false)) = some r := H
                have A41 := Aside0.mk A410
                clear A410
                by_cases c42 : t272 = true
                ·subst c42
                 have H1 : (cantonlaw14_MountsOne.l0 k3 l0 a1 t259 t263 (wrap64 (x7_3 + 1))) = some r := by rw [if_pos rfl] at H; exact H
                 clear H
                 have H := H1
                 clear H1
                 have H' := Aside0.mk H
                 clear H
                 try go_wp2
                 have n0_ := Aside0.mk (below_drew1 HB.out)
                 clear HB
                 have HB := n0_
                 clear n0_
                 have p266 : 0 ≤ (x7_3 : Int) := of_decide_eq_true (by first | (with_reducible assumption) | assumption)
                 have q266 : x7_3 < (l0.length : Int) := of_decide_eq_true (by first | (with_reducible assumption) | assumption)
                 obtain ⟨ad266, e266, hx266_0, hx266_1, hx266_2, hx266_3⟩ := at_T27 HR0.out x7_3 p266 q266
                 have hw266_3 := hx266_3
                 have hw266_2 := hx266_2
                 have hw266_1 := hx266_1
                 have hw266_0 := hx266_0
                 cases e266
                 replace hx266_0 := (HB.out.cell (World.block_lt_of_cell? w _ hx266_0)).trans hx266_0
                 replace hx266_1 := (HB.out.cell (World.block_lt_of_cell? w _ hx266_1)).trans hx266_1
                 replace hx266_2 := (HB.out.cell (World.block_lt_of_cell? w _ hx266_2)).trans hx266_2
                 replace hx266_3 := (HB.out.cell (World.block_lt_of_cell? w _ hx266_3)).trans hx266_3
                 replace p266 := eq_true p266
                 replace q266 := eq_true q266
                 have p268 : 0 ≤ (x7_3 : Int) := of_decide_eq_true (by first | (with_reducible assumption) | assumption)
                 have q268 : x7_3 < (l0.length : Int) := of_decide_eq_true (by first | (with_reducible assumption) | assumption)
                 obtain ⟨ad268, e268, hx268_0, hx268_1, hx268_2, hx268_3⟩ := at_T27 HR0.out x7_3 p268 q268
                 have hw268_3 := hx268_3
                 have hw268_2 := hx268_2
                 have hw268_1 := hx268_1
                 have hw268_0 := hx268_0
                 obtain rfl : ad266 = ad268 := (by injection e268)
                 replace hx268_0 := (HB.out.cell (World.block_lt_of_cell? w _ hx268_0)).trans hx268_0
                 replace hx268_1 := (HB.out.cell (World.block_lt_of_cell? w _ hx268_1)).trans hx268_1
                 replace hx268_2 := (HB.out.cell (World.block_lt_of_cell? w _ hx268_2)).trans hx268_2
                 replace hx268_3 := (HB.out.cell (World.block_lt_of_cell? w _ hx268_3)).trans hx268_3
                 replace p268 := eq_true p268
                 replace q268 := eq_true q268
                 have p269 : 0 ≤ (t263 : Int) := of_decide_eq_true (by first | (with_reducible assumption) | assumption)
                 have q269 : t263 < (l0.length : Int) := of_decide_eq_true (by first | (with_reducible assumption) | assumption)
                 obtain ⟨ad269, e269, hx269_0, hx269_1, hx269_2, hx269_3⟩ := at_T27 HR0.out t263 p269 q269
                 have hw269_3 := hx269_3
                 have hw269_2 := hx269_2
                 have hw269_1 := hx269_1
                 have hw269_0 := hx269_0
                 obtain rfl : ad266 = ad269 := (by injection e269)
                 replace hx269_0 := (HB.out.cell (World.block_lt_of_cell? w _ hx269_0)).trans hx269_0
                 replace hx269_1 := (HB.out.cell (World.block_lt_of_cell? w _ hx269_1)).trans hx269_1
                 replace hx269_2 := (HB.out.cell (World.block_lt_of_cell? w _ hx269_2)).trans hx269_2
                 replace hx269_3 := (HB.out.cell (World.block_lt_of_cell? w _ hx269_3)).trans hx269_3
                 replace p269 := eq_true p269
                 replace q269 := eq_true q269
                 have p270 : 0 ≤ (t263 : Int) := of_decide_eq_true (by first | (with_reducible assumption) | assumption)
                 have q270 : t263 < (l0.length : Int) := of_decide_eq_true (by first | (with_reducible assumption) | assumption)
                 obtain ⟨ad270, e270, hx270_0, hx270_1, hx270_2, hx270_3⟩ := at_T27 HR0.out t263 p270 q270
                 have hw270_3 := hx270_3
                 have hw270_2 := hx270_2
                 have hw270_1 := hx270_1
                 have hw270_0 := hx270_0
                 obtain rfl : ad266 = ad270 := (by injection e270)
                 replace hx270_0 := (HB.out.cell (World.block_lt_of_cell? w _ hx270_0)).trans hx270_0
                 replace hx270_1 := (HB.out.cell (World.block_lt_of_cell? w _ hx270_1)).trans hx270_1
                 replace hx270_2 := (HB.out.cell (World.block_lt_of_cell? w _ hx270_2)).trans hx270_2
                 replace hx270_3 := (HB.out.cell (World.block_lt_of_cell? w _ hx270_3)).trans hx270_3
                 replace p270 := eq_true p270
                 replace q270 := eq_true q270
                 have p271 : 0 ≤ (x7_3 : Int) := of_decide_eq_true (by first | (with_reducible assumption) | assumption)
                 have q271 : x7_3 < (l0.length : Int) := of_decide_eq_true (by first | (with_reducible assumption) | assumption)
                 obtain ⟨ad271, e271, hx271_0, hx271_1, hx271_2, hx271_3⟩ := at_T27 HR0.out x7_3 p271 q271
                 have hw271_3 := hx271_3
                 have hw271_2 := hx271_2
                 have hw271_1 := hx271_1
                 have hw271_0 := hx271_0
                 obtain rfl : ad266 = ad271 := (by injection e271)
                 replace hx271_0 := (HB.out.cell (World.block_lt_of_cell? w _ hx271_0)).trans hx271_0
                 replace hx271_1 := (HB.out.cell (World.block_lt_of_cell? w _ hx271_1)).trans hx271_1
                 replace hx271_2 := (HB.out.cell (World.block_lt_of_cell? w _ hx271_2)).trans hx271_2
                 replace hx271_3 := (HB.out.cell (World.block_lt_of_cell? w _ hx271_3)).trans hx271_3
                 replace p271 := eq_true p271
                 replace q271 := eq_true q271
                 refine start_ (n := 41) (S := fun w' => w'.cell? (ad266.add ((x7_3).toNat * 4)) = some (.string ((rd_T27 l0 x7_3).f0)) ∧ w'.cell? ⟨(ad266.add ((x7_3).toNat * 4)).block, (ad266.add ((x7_3).toNat * 4)).off + 1, none⟩ = some (.int .i64 ((rd_T27 l0 x7_3).f1)) ∧ w'.cell? ⟨(ad266.add ((x7_3).toNat * 4)).block, (ad266.add ((x7_3).toNat * 4)).off + 2, none⟩ = some (.int .i64 ((rd_T27 l0 x7_3).f2)) ∧ w'.cell? ⟨(ad266.add ((x7_3).toNat * 4)).block, (ad266.add ((x7_3).toNat * 4)).off + 3, none⟩ = some (.int .i64 ((rd_T27 l0 x7_3).f3)) ∧ w'.cell? (ad266.add ((x7_3).toNat * 4)) = some (.string ((rd_T27 l0 x7_3).f0)) ∧ w'.cell? ⟨(ad266.add ((x7_3).toNat * 4)).block, (ad266.add ((x7_3).toNat * 4)).off + 1, none⟩ = some (.int .i64 ((rd_T27 l0 x7_3).f1)) ∧ w'.cell? ⟨(ad266.add ((x7_3).toNat * 4)).block, (ad266.add ((x7_3).toNat * 4)).off + 2, none⟩ = some (.int .i64 ((rd_T27 l0 x7_3).f2)) ∧ w'.cell? ⟨(ad266.add ((x7_3).toNat * 4)).block, (ad266.add ((x7_3).toNat * 4)).off + 3, none⟩ = some (.int .i64 ((rd_T27 l0 x7_3).f3)) ∧ w'.cell? (ad266.add ((t263).toNat * 4)) = some (.string ((rd_T27 l0 t263).f0)) ∧ w'.cell? ⟨(ad266.add ((t263).toNat * 4)).block, (ad266.add ((t263).toNat * 4)).off + 1, none⟩ = some (.int .i64 ((rd_T27 l0 t263).f1)) ∧ w'.cell? ⟨(ad266.add ((t263).toNat * 4)).block, (ad266.add ((t263).toNat * 4)).off + 2, none⟩ = some (.int .i64 ((rd_T27 l0 t263).f2)) ∧ w'.cell? ⟨(ad266.add ((t263).toNat * 4)).block, (ad266.add ((t263).toNat * 4)).off + 3, none⟩ = some (.int .i64 ((rd_T27 l0 t263).f3)) ∧ w'.cell? (ad266.add ((t263).toNat * 4)) = some (.string ((rd_T27 l0 t263).f0)) ∧ w'.cell? ⟨(ad266.add ((t263).toNat * 4)).block, (ad266.add ((t263).toNat * 4)).off + 1, none⟩ = some (.int .i64 ((rd_T27 l0 t263).f1)) ∧ w'.cell? ⟨(ad266.add ((t263).toNat * 4)).block, (ad266.add ((t263).toNat * 4)).off + 2, none⟩ = some (.int .i64 ((rd_T27 l0 t263).f2)) ∧ w'.cell? ⟨(ad266.add ((t263).toNat * 4)).block, (ad266.add ((t263).toNat * 4)).off + 3, none⟩ = some (.int .i64 ((rd_T27 l0 t263).f3)) ∧ w'.cell? (ad266.add ((x7_3).toNat * 4)) = some (.string ((rd_T27 l0 x7_3).f0)) ∧ w'.cell? ⟨(ad266.add ((x7_3).toNat * 4)).block, (ad266.add ((x7_3).toNat * 4)).off + 1, none⟩ = some (.int .i64 ((rd_T27 l0 x7_3).f1)) ∧ w'.cell? ⟨(ad266.add ((x7_3).toNat * 4)).block, (ad266.add ((x7_3).toNat * 4)).off + 2, none⟩ = some (.int .i64 ((rd_T27 l0 x7_3).f2)) ∧ w'.cell? ⟨(ad266.add ((x7_3).toNat * 4)).block, (ad266.add ((x7_3).toNat * 4)).off + 3, none⟩ = some (.int .i64 ((rd_T27 l0 x7_3).f3))) (ds := []) x13tr41_0 (by kernel_rfl) rfl rfl ⟨((HB.out.cell (World.block_lt_of_cell? w _ hw266_0)).trans hw266_0), ((HB.out.cell (World.block_lt_of_cell? w _ hw266_1)).trans hw266_1), ((HB.out.cell (World.block_lt_of_cell? w _ hw266_2)).trans hw266_2), ((HB.out.cell (World.block_lt_of_cell? w _ hw266_3)).trans hw266_3), ((HB.out.cell (World.block_lt_of_cell? w _ hw268_0)).trans hw268_0), ((HB.out.cell (World.block_lt_of_cell? w _ hw268_1)).trans hw268_1), ((HB.out.cell (World.block_lt_of_cell? w _ hw268_2)).trans hw268_2), ((HB.out.cell (World.block_lt_of_cell? w _ hw268_3)).trans hw268_3), ((HB.out.cell (World.block_lt_of_cell? w _ hw269_0)).trans hw269_0), ((HB.out.cell (World.block_lt_of_cell? w _ hw269_1)).trans hw269_1), ((HB.out.cell (World.block_lt_of_cell? w _ hw269_2)).trans hw269_2), ((HB.out.cell (World.block_lt_of_cell? w _ hw269_3)).trans hw269_3), ((HB.out.cell (World.block_lt_of_cell? w _ hw270_0)).trans hw270_0), ((HB.out.cell (World.block_lt_of_cell? w _ hw270_1)).trans hw270_1), ((HB.out.cell (World.block_lt_of_cell? w _ hw270_2)).trans hw270_2), ((HB.out.cell (World.block_lt_of_cell? w _ hw270_3)).trans hw270_3), ((HB.out.cell (World.block_lt_of_cell? w _ hw271_0)).trans hw271_0), ((HB.out.cell (World.block_lt_of_cell? w _ hw271_1)).trans hw271_1), ((HB.out.cell (World.block_lt_of_cell? w _ hw271_2)).trans hw271_2), ((HB.out.cell (World.block_lt_of_cell? w _ hw271_3)).trans hw271_3)⟩ (fun hHeld => ?_); refine with_tabW cantonlaw14_MountsOne.tab10 cantonlaw14_MountsOne.bits10 (fun HT_ HW_ => ?_)
                 generalize wr.drew = w43 at HB hx266_0 hx266_1 hx266_2 hx266_3 hx268_0 hx268_1 hx268_2 hx268_3 hx269_0 hx269_1 hx269_2 hx269_3 hx270_0 hx270_1 hx270_2 hx270_3 hx271_0 hx271_1 hx271_2 hx271_3 hHeld ⊢
                 refine pA_ 0 54 x13tr41_1 HT_.out ?_
                 refine pA_ 1 55 x13tr41_2 HT_.out ?_
                 refine pA_ 2 56 x13tr41_3 HT_.out ?_
                 refine pA_ 3 57 x13tr41_4 HT_.out ?_
                 refine pA_ 4 58 x13tr41_5 HT_.out ?_
                 refine pA_ 5 59 x13tr41_6 HT_.out ?_
                 refine pA_ 6 60 x13tr41_7 HT_.out ?_
                 refine pA_ 7 61 x13tr41_8 HT_.out ?_
                 refine pA_ 8 62 x13tr41_9 HT_.out ?_
                 refine take_ (i := 9) (N := some 63) (v := ?_) (a' := ?_) x13tr41_10 rfl rfl (take_ofW HT_.out HW_.out (by kernel_rfl)) (fun _ _ _ h => h) (Or.inl ⟨by rfl, ?_⟩) hHeld ?_ ?_
                 rotate_left
                 ·rintro w' ⟨s0, s1, s2, s3, s4, s5, s6, s7, s8, s9, s10, s11, s12, s13, s14, s15, s16, s17, s18, s19⟩
                  go_simp
                  with_reducible rfl
                 rotate_left
                 ·simp only [Act.put, List.setIfInBounds_toArray, List.set_cons_zero, List.set_cons_succ, i64_w, i32_w]
                  rfl
                 refine one_ (i := 10) (N := some 64) x13tr41_11 rfl rfl (one_of HT_.out (by kernel_rfl)) (by decide) (fun K hK => ?_)
                 refine goes_ Try.func18 (by kernel_rfl) rfl #[.string a1, .string ((rd_T27 l0 x7_3).f0)] (by rfl) rfl rfl (by (try simp only [List.map_toArray, List.map_cons, List.map_nil]); first | done | rfl | (simp only [List.length_drop, List.length_take]; rfl)) ?_
                 with_reducible refine (cantonref01_In.calls k3 a1 ((rd_T27 l0 x7_3).f0) true _ A34.out).mono ?_
                 rintro e w44 ⟨rfl, hb⟩
                 refine ⟨_, rfl, ?_⟩
                 have n0_ := Aside0.mk (below_step (by repeat (first | (with_reducible first | exact HB.out | apply below_alloc | apply pw_below_drewN | apply below_drew1) | exact HB.out)) hb)
                 clear HB
                 have HB := n0_
                 clear n0_
                 (try clear hb)
                 (try clear hb2)
                 (try clear hk)
                 (try clear hi)
                 refine hK.out _ _ ⟨((HB.out.cell (World.block_lt_of_cell? w _ hw266_0)).trans hw266_0), ((HB.out.cell (World.block_lt_of_cell? w _ hw266_1)).trans hw266_1), ((HB.out.cell (World.block_lt_of_cell? w _ hw266_2)).trans hw266_2), ((HB.out.cell (World.block_lt_of_cell? w _ hw266_3)).trans hw266_3), ((HB.out.cell (World.block_lt_of_cell? w _ hw268_0)).trans hw268_0), ((HB.out.cell (World.block_lt_of_cell? w _ hw268_1)).trans hw268_1), ((HB.out.cell (World.block_lt_of_cell? w _ hw268_2)).trans hw268_2), ((HB.out.cell (World.block_lt_of_cell? w _ hw268_3)).trans hw268_3), ((HB.out.cell (World.block_lt_of_cell? w _ hw269_0)).trans hw269_0), ((HB.out.cell (World.block_lt_of_cell? w _ hw269_1)).trans hw269_1), ((HB.out.cell (World.block_lt_of_cell? w _ hw269_2)).trans hw269_2), ((HB.out.cell (World.block_lt_of_cell? w _ hw269_3)).trans hw269_3), ((HB.out.cell (World.block_lt_of_cell? w _ hw270_0)).trans hw270_0), ((HB.out.cell (World.block_lt_of_cell? w _ hw270_1)).trans hw270_1), ((HB.out.cell (World.block_lt_of_cell? w _ hw270_2)).trans hw270_2), ((HB.out.cell (World.block_lt_of_cell? w _ hw270_3)).trans hw270_3), ((HB.out.cell (World.block_lt_of_cell? w _ hw271_0)).trans hw271_0), ((HB.out.cell (World.block_lt_of_cell? w _ hw271_1)).trans hw271_1), ((HB.out.cell (World.block_lt_of_cell? w _ hw271_2)).trans hw271_2), ((HB.out.cell (World.block_lt_of_cell? w _ hw271_3)).trans hw271_3)⟩ (fun hHeld => ?_)
                 clear hK K
                 refine norm_ (a' := ?_) ?_ ?_
                 rotate_left
                 ·show Act.put _ (some 64) _ = _
                  simp only [Act.put, List.setIfInBounds_toArray, List.set_cons_zero, List.set_cons_succ, i64_w, i32_w]
                  rfl
                 refine pA_ 11 65 x13tr41_12 HT_.out ?_
                 refine pA_ 12 66 x13tr41_13 HT_.out ?_
                 refine pA_ 13 67 x13tr41_14 HT_.out ?_
                 refine pA_ 14 68 x13tr41_15 HT_.out ?_
                 refine pA_ 15 69 x13tr41_16 HT_.out ?_
                 refine pA_ 16 70 x13tr41_17 HT_.out ?_
                 refine pA_ 19 73 x13tr41_m11111111111111111001000000000000000000000 HT_.out ?_
                 refine pA_ 20 74 x13tr41_m11111111111111111001100000000000000000000 HT_.out ?_
                 refine pA_ 21 75 x13tr41_m11111111111111111001110000000000000000000 HT_.out ?_
                 refine pA_ 22 76 x13tr41_m11111111111111111001111000000000000000000 HT_.out ?_
                 refine take_ (i := 17) (N := some 71) (v := ?_) (a' := ?_) x13tr41_m11111111111111111101111000000000000000000 rfl rfl (take_ofW HT_.out HW_.out (by kernel_rfl)) (fun _ _ _ h => h) (Or.inl ⟨by rfl, ?_⟩) hHeld ?_ ?_
                 rotate_left
                 ·rintro w' ⟨s0, s1, s2, s3, s4, s5, s6, s7, s8, s9, s10, s11, s12, s13, s14, s15, s16, s17, s18, s19⟩
                  go_simp
                  with_reducible rfl
                 rotate_left
                 ·simp only [Act.put, List.setIfInBounds_toArray, List.set_cons_zero, List.set_cons_succ, i64_w, i32_w]
                  rfl
                 refine pA_ 18 72 x13tr41_23 HT_.out ?_
                 refine take_ (i := 23) (N := some 77) (v := ?_) (a' := ?_) x13tr41_24 rfl rfl (take_ofW HT_.out HW_.out (by kernel_rfl)) (fun _ _ _ h => h) (Or.inl ⟨by rfl, ?_⟩) hHeld ?_ ?_
                 rotate_left
                 ·rintro w' ⟨s0, s1, s2, s3, s4, s5, s6, s7, s8, s9, s10, s11, s12, s13, s14, s15, s16, s17, s18, s19⟩
                  go_simp
                  with_reducible rfl
                 rotate_left
                 ·simp only [Act.put, List.setIfInBounds_toArray, List.set_cons_zero, List.set_cons_succ, i64_w, i32_w]
                  rfl
                 refine pA_ 24 78 x13tr41_25 HT_.out ?_
                 refine pA_ 25 79 x13tr41_26 HT_.out ?_
                 refine pA_ 26 80 x13tr41_27 HT_.out ?_
                 refine pA_ 27 81 x13tr41_28 HT_.out ?_
                 refine pA_ 28 82 x13tr41_29 HT_.out ?_
                 refine pA_ 29 83 x13tr41_30 HT_.out ?_
                 refine pA_ 30 84 x13tr41_31 HT_.out ?_
                 refine pA_ 32 86 x13tr41_m11111111111111111111111111111110100000000 HT_.out ?_
                 refine pA_ 33 87 x13tr41_m11111111111111111111111111111110110000000 HT_.out ?_
                 refine pA_ 34 88 x13tr41_m11111111111111111111111111111110111000000 HT_.out ?_
                 refine pA_ 35 89 x13tr41_m11111111111111111111111111111110111100000 HT_.out ?_
                 refine take_ (i := 31) (N := some 85) (v := ?_) (a' := ?_) x13tr41_36 rfl rfl (take_ofW HT_.out HW_.out (by kernel_rfl)) (fun _ _ _ h => h) (Or.inl ⟨by rfl, ?_⟩) hHeld ?_ ?_
                 rotate_left
                 ·rintro w' ⟨s0, s1, s2, s3, s4, s5, s6, s7, s8, s9, s10, s11, s12, s13, s14, s15, s16, s17, s18, s19⟩
                  go_simp
                  with_reducible rfl
                 rotate_left
                 ·simp only [Act.put, List.setIfInBounds_toArray, List.set_cons_zero, List.set_cons_succ, i64_w, i32_w]
                  rfl
                 refine take_ (i := 36) (N := some 90) (v := ?_) (a' := ?_) x13tr41_37 rfl rfl (take_ofW HT_.out HW_.out (by kernel_rfl)) (fun _ _ _ h => h) (Or.inl ⟨by rfl, ?_⟩) hHeld ?_ ?_
                 rotate_left
                 ·rintro w' ⟨s0, s1, s2, s3, s4, s5, s6, s7, s8, s9, s10, s11, s12, s13, s14, s15, s16, s17, s18, s19⟩
                  go_simp
                  with_reducible rfl
                 rotate_left
                 ·simp only [Act.put, List.setIfInBounds_toArray, List.set_cons_zero, List.set_cons_succ, i64_w, i32_w]
                  rfl
                 refine one_ (i := 37) (N := some 91) x13tr41_38 rfl rfl (one_of HT_.out (by kernel_rfl)) (by decide) (fun K hK => ?_)
                 refine goes_ Try.func18 (by kernel_rfl) rfl #[.string ((rd_T27 l0 t263).f0), .string ((rd_T27 l0 x7_3).f0)] (by rfl) rfl rfl (by (try simp only [List.map_toArray, List.map_cons, List.map_nil]); first | done | rfl | (simp only [List.length_drop, List.length_take]; rfl)) ?_
                 with_reducible refine (cantonref01_In.calls k3 ((rd_T27 l0 t263).f0) ((rd_T27 l0 x7_3).f0) true _ A41.out).mono ?_
                 rintro e w45 ⟨rfl, hb⟩
                 refine ⟨_, rfl, ?_⟩
                 have n0_ := Aside0.mk (below_step (by repeat (first | (with_reducible first | exact HB.out | apply below_alloc | apply pw_below_drewN | apply below_drew1) | exact HB.out)) hb)
                 clear HB
                 have HB := n0_
                 clear n0_
                 (try clear hb)
                 (try clear hb2)
                 (try clear hk)
                 (try clear hi)
                 refine hK.out _ _ ⟨((HB.out.cell (World.block_lt_of_cell? w _ hw266_0)).trans hw266_0), ((HB.out.cell (World.block_lt_of_cell? w _ hw266_1)).trans hw266_1), ((HB.out.cell (World.block_lt_of_cell? w _ hw266_2)).trans hw266_2), ((HB.out.cell (World.block_lt_of_cell? w _ hw266_3)).trans hw266_3), ((HB.out.cell (World.block_lt_of_cell? w _ hw268_0)).trans hw268_0), ((HB.out.cell (World.block_lt_of_cell? w _ hw268_1)).trans hw268_1), ((HB.out.cell (World.block_lt_of_cell? w _ hw268_2)).trans hw268_2), ((HB.out.cell (World.block_lt_of_cell? w _ hw268_3)).trans hw268_3), ((HB.out.cell (World.block_lt_of_cell? w _ hw269_0)).trans hw269_0), ((HB.out.cell (World.block_lt_of_cell? w _ hw269_1)).trans hw269_1), ((HB.out.cell (World.block_lt_of_cell? w _ hw269_2)).trans hw269_2), ((HB.out.cell (World.block_lt_of_cell? w _ hw269_3)).trans hw269_3), ((HB.out.cell (World.block_lt_of_cell? w _ hw270_0)).trans hw270_0), ((HB.out.cell (World.block_lt_of_cell? w _ hw270_1)).trans hw270_1), ((HB.out.cell (World.block_lt_of_cell? w _ hw270_2)).trans hw270_2), ((HB.out.cell (World.block_lt_of_cell? w _ hw270_3)).trans hw270_3), ((HB.out.cell (World.block_lt_of_cell? w _ hw271_0)).trans hw271_0), ((HB.out.cell (World.block_lt_of_cell? w _ hw271_1)).trans hw271_1), ((HB.out.cell (World.block_lt_of_cell? w _ hw271_2)).trans hw271_2), ((HB.out.cell (World.block_lt_of_cell? w _ hw271_3)).trans hw271_3)⟩ (fun hHeld => ?_)
                 clear hK K
                 refine norm_ (a' := ?_) ?_ ?_
                 rotate_left
                 ·show Act.put _ (some 91) _ = _
                  simp only [Act.put, List.setIfInBounds_toArray, List.set_cons_zero, List.set_cons_succ, i64_w, i32_w]
                  rfl
                 refine pA_ 38 92 x13tr41_39 HT_.out ?_
                 refine pA_ 39 93 x13tr41_40 HT_.out ?_
                 refine pA_ 40 94 x13tr41_41 HT_.out ?_
                 refine done_ (done_of HT_.out (by kernel_rfl)) ?_
                 try go_wp2
                 go_roundg k3
                 case measure => have := HJ3.out; have := HJ20.out; have := HK3.out; omega
                 case rel => exact ⟨(wrap64 (x7_3 + 1)), (by first | rfl | (simp; done) | (simp [*]; done)), H', ⟨by have := HJ3.out; have := HJ20.out; have := HK3.out; omega⟩, ⟨by repeat (first | (with_reducible first | exact HB.out | apply below_alloc | apply pw_below_drewN | apply below_drew1) | exact HB.out)⟩⟩
                ·replace c42 := Bool.eq_false_iff.mpr c42
                 subst c42
                 have H1 : (some false) = some r := by rw [if_neg (show ¬ (false = true) by decide)] at H; exact H
                 clear H
                 have H := H1
                 clear H1
                 obtain rfl := Option.some.inj H
                 try go_wp2
                 have n0_ := Aside0.mk (below_drew1 HB.out)
                 clear HB
                 have HB := n0_
                 clear n0_
                 have p266 : 0 ≤ (x7_3 : Int) := of_decide_eq_true (by first | (with_reducible assumption) | assumption)
                 have q266 : x7_3 < (l0.length : Int) := of_decide_eq_true (by first | (with_reducible assumption) | assumption)
                 obtain ⟨ad266, e266, hx266_0, hx266_1, hx266_2, hx266_3⟩ := at_T27 HR0.out x7_3 p266 q266
                 have hw266_3 := hx266_3
                 have hw266_2 := hx266_2
                 have hw266_1 := hx266_1
                 have hw266_0 := hx266_0
                 cases e266
                 replace hx266_0 := (HB.out.cell (World.block_lt_of_cell? w _ hx266_0)).trans hx266_0
                 replace hx266_1 := (HB.out.cell (World.block_lt_of_cell? w _ hx266_1)).trans hx266_1
                 replace hx266_2 := (HB.out.cell (World.block_lt_of_cell? w _ hx266_2)).trans hx266_2
                 replace hx266_3 := (HB.out.cell (World.block_lt_of_cell? w _ hx266_3)).trans hx266_3
                 replace p266 := eq_true p266
                 replace q266 := eq_true q266
                 have p268 : 0 ≤ (x7_3 : Int) := of_decide_eq_true (by first | (with_reducible assumption) | assumption)
                 have q268 : x7_3 < (l0.length : Int) := of_decide_eq_true (by first | (with_reducible assumption) | assumption)
                 obtain ⟨ad268, e268, hx268_0, hx268_1, hx268_2, hx268_3⟩ := at_T27 HR0.out x7_3 p268 q268
                 have hw268_3 := hx268_3
                 have hw268_2 := hx268_2
                 have hw268_1 := hx268_1
                 have hw268_0 := hx268_0
                 obtain rfl : ad266 = ad268 := (by injection e268)
                 replace hx268_0 := (HB.out.cell (World.block_lt_of_cell? w _ hx268_0)).trans hx268_0
                 replace hx268_1 := (HB.out.cell (World.block_lt_of_cell? w _ hx268_1)).trans hx268_1
                 replace hx268_2 := (HB.out.cell (World.block_lt_of_cell? w _ hx268_2)).trans hx268_2
                 replace hx268_3 := (HB.out.cell (World.block_lt_of_cell? w _ hx268_3)).trans hx268_3
                 replace p268 := eq_true p268
                 replace q268 := eq_true q268
                 have p269 : 0 ≤ (t263 : Int) := of_decide_eq_true (by first | (with_reducible assumption) | assumption)
                 have q269 : t263 < (l0.length : Int) := of_decide_eq_true (by first | (with_reducible assumption) | assumption)
                 obtain ⟨ad269, e269, hx269_0, hx269_1, hx269_2, hx269_3⟩ := at_T27 HR0.out t263 p269 q269
                 have hw269_3 := hx269_3
                 have hw269_2 := hx269_2
                 have hw269_1 := hx269_1
                 have hw269_0 := hx269_0
                 obtain rfl : ad266 = ad269 := (by injection e269)
                 replace hx269_0 := (HB.out.cell (World.block_lt_of_cell? w _ hx269_0)).trans hx269_0
                 replace hx269_1 := (HB.out.cell (World.block_lt_of_cell? w _ hx269_1)).trans hx269_1
                 replace hx269_2 := (HB.out.cell (World.block_lt_of_cell? w _ hx269_2)).trans hx269_2
                 replace hx269_3 := (HB.out.cell (World.block_lt_of_cell? w _ hx269_3)).trans hx269_3
                 replace p269 := eq_true p269
                 replace q269 := eq_true q269
                 have p270 : 0 ≤ (t263 : Int) := of_decide_eq_true (by first | (with_reducible assumption) | assumption)
                 have q270 : t263 < (l0.length : Int) := of_decide_eq_true (by first | (with_reducible assumption) | assumption)
                 obtain ⟨ad270, e270, hx270_0, hx270_1, hx270_2, hx270_3⟩ := at_T27 HR0.out t263 p270 q270
                 have hw270_3 := hx270_3
                 have hw270_2 := hx270_2
                 have hw270_1 := hx270_1
                 have hw270_0 := hx270_0
                 obtain rfl : ad266 = ad270 := (by injection e270)
                 replace hx270_0 := (HB.out.cell (World.block_lt_of_cell? w _ hx270_0)).trans hx270_0
                 replace hx270_1 := (HB.out.cell (World.block_lt_of_cell? w _ hx270_1)).trans hx270_1
                 replace hx270_2 := (HB.out.cell (World.block_lt_of_cell? w _ hx270_2)).trans hx270_2
                 replace hx270_3 := (HB.out.cell (World.block_lt_of_cell? w _ hx270_3)).trans hx270_3
                 replace p270 := eq_true p270
                 replace q270 := eq_true q270
                 have p271 : 0 ≤ (x7_3 : Int) := of_decide_eq_true (by first | (with_reducible assumption) | assumption)
                 have q271 : x7_3 < (l0.length : Int) := of_decide_eq_true (by first | (with_reducible assumption) | assumption)
                 obtain ⟨ad271, e271, hx271_0, hx271_1, hx271_2, hx271_3⟩ := at_T27 HR0.out x7_3 p271 q271
                 have hw271_3 := hx271_3
                 have hw271_2 := hx271_2
                 have hw271_1 := hx271_1
                 have hw271_0 := hx271_0
                 obtain rfl : ad266 = ad271 := (by injection e271)
                 replace hx271_0 := (HB.out.cell (World.block_lt_of_cell? w _ hx271_0)).trans hx271_0
                 replace hx271_1 := (HB.out.cell (World.block_lt_of_cell? w _ hx271_1)).trans hx271_1
                 replace hx271_2 := (HB.out.cell (World.block_lt_of_cell? w _ hx271_2)).trans hx271_2
                 replace hx271_3 := (HB.out.cell (World.block_lt_of_cell? w _ hx271_3)).trans hx271_3
                 replace p271 := eq_true p271
                 replace q271 := eq_true q271
                 refine start_ (n := 41) (S := fun w' => w'.cell? (ad266.add ((x7_3).toNat * 4)) = some (.string ((rd_T27 l0 x7_3).f0)) ∧ w'.cell? ⟨(ad266.add ((x7_3).toNat * 4)).block, (ad266.add ((x7_3).toNat * 4)).off + 1, none⟩ = some (.int .i64 ((rd_T27 l0 x7_3).f1)) ∧ w'.cell? ⟨(ad266.add ((x7_3).toNat * 4)).block, (ad266.add ((x7_3).toNat * 4)).off + 2, none⟩ = some (.int .i64 ((rd_T27 l0 x7_3).f2)) ∧ w'.cell? ⟨(ad266.add ((x7_3).toNat * 4)).block, (ad266.add ((x7_3).toNat * 4)).off + 3, none⟩ = some (.int .i64 ((rd_T27 l0 x7_3).f3)) ∧ w'.cell? (ad266.add ((x7_3).toNat * 4)) = some (.string ((rd_T27 l0 x7_3).f0)) ∧ w'.cell? ⟨(ad266.add ((x7_3).toNat * 4)).block, (ad266.add ((x7_3).toNat * 4)).off + 1, none⟩ = some (.int .i64 ((rd_T27 l0 x7_3).f1)) ∧ w'.cell? ⟨(ad266.add ((x7_3).toNat * 4)).block, (ad266.add ((x7_3).toNat * 4)).off + 2, none⟩ = some (.int .i64 ((rd_T27 l0 x7_3).f2)) ∧ w'.cell? ⟨(ad266.add ((x7_3).toNat * 4)).block, (ad266.add ((x7_3).toNat * 4)).off + 3, none⟩ = some (.int .i64 ((rd_T27 l0 x7_3).f3)) ∧ w'.cell? (ad266.add ((t263).toNat * 4)) = some (.string ((rd_T27 l0 t263).f0)) ∧ w'.cell? ⟨(ad266.add ((t263).toNat * 4)).block, (ad266.add ((t263).toNat * 4)).off + 1, none⟩ = some (.int .i64 ((rd_T27 l0 t263).f1)) ∧ w'.cell? ⟨(ad266.add ((t263).toNat * 4)).block, (ad266.add ((t263).toNat * 4)).off + 2, none⟩ = some (.int .i64 ((rd_T27 l0 t263).f2)) ∧ w'.cell? ⟨(ad266.add ((t263).toNat * 4)).block, (ad266.add ((t263).toNat * 4)).off + 3, none⟩ = some (.int .i64 ((rd_T27 l0 t263).f3)) ∧ w'.cell? (ad266.add ((t263).toNat * 4)) = some (.string ((rd_T27 l0 t263).f0)) ∧ w'.cell? ⟨(ad266.add ((t263).toNat * 4)).block, (ad266.add ((t263).toNat * 4)).off + 1, none⟩ = some (.int .i64 ((rd_T27 l0 t263).f1)) ∧ w'.cell? ⟨(ad266.add ((t263).toNat * 4)).block, (ad266.add ((t263).toNat * 4)).off + 2, none⟩ = some (.int .i64 ((rd_T27 l0 t263).f2)) ∧ w'.cell? ⟨(ad266.add ((t263).toNat * 4)).block, (ad266.add ((t263).toNat * 4)).off + 3, none⟩ = some (.int .i64 ((rd_T27 l0 t263).f3)) ∧ w'.cell? (ad266.add ((x7_3).toNat * 4)) = some (.string ((rd_T27 l0 x7_3).f0)) ∧ w'.cell? ⟨(ad266.add ((x7_3).toNat * 4)).block, (ad266.add ((x7_3).toNat * 4)).off + 1, none⟩ = some (.int .i64 ((rd_T27 l0 x7_3).f1)) ∧ w'.cell? ⟨(ad266.add ((x7_3).toNat * 4)).block, (ad266.add ((x7_3).toNat * 4)).off + 2, none⟩ = some (.int .i64 ((rd_T27 l0 x7_3).f2)) ∧ w'.cell? ⟨(ad266.add ((x7_3).toNat * 4)).block, (ad266.add ((x7_3).toNat * 4)).off + 3, none⟩ = some (.int .i64 ((rd_T27 l0 x7_3).f3))) (ds := []) x13tr41_0 (by kernel_rfl) rfl rfl ⟨((HB.out.cell (World.block_lt_of_cell? w _ hw266_0)).trans hw266_0), ((HB.out.cell (World.block_lt_of_cell? w _ hw266_1)).trans hw266_1), ((HB.out.cell (World.block_lt_of_cell? w _ hw266_2)).trans hw266_2), ((HB.out.cell (World.block_lt_of_cell? w _ hw266_3)).trans hw266_3), ((HB.out.cell (World.block_lt_of_cell? w _ hw268_0)).trans hw268_0), ((HB.out.cell (World.block_lt_of_cell? w _ hw268_1)).trans hw268_1), ((HB.out.cell (World.block_lt_of_cell? w _ hw268_2)).trans hw268_2), ((HB.out.cell (World.block_lt_of_cell? w _ hw268_3)).trans hw268_3), ((HB.out.cell (World.block_lt_of_cell? w _ hw269_0)).trans hw269_0), ((HB.out.cell (World.block_lt_of_cell? w _ hw269_1)).trans hw269_1), ((HB.out.cell (World.block_lt_of_cell? w _ hw269_2)).trans hw269_2), ((HB.out.cell (World.block_lt_of_cell? w _ hw269_3)).trans hw269_3), ((HB.out.cell (World.block_lt_of_cell? w _ hw270_0)).trans hw270_0), ((HB.out.cell (World.block_lt_of_cell? w _ hw270_1)).trans hw270_1), ((HB.out.cell (World.block_lt_of_cell? w _ hw270_2)).trans hw270_2), ((HB.out.cell (World.block_lt_of_cell? w _ hw270_3)).trans hw270_3), ((HB.out.cell (World.block_lt_of_cell? w _ hw271_0)).trans hw271_0), ((HB.out.cell (World.block_lt_of_cell? w _ hw271_1)).trans hw271_1), ((HB.out.cell (World.block_lt_of_cell? w _ hw271_2)).trans hw271_2), ((HB.out.cell (World.block_lt_of_cell? w _ hw271_3)).trans hw271_3)⟩ (fun hHeld => ?_); refine with_tabW cantonlaw14_MountsOne.tab10 cantonlaw14_MountsOne.bits10 (fun HT_ HW_ => ?_)
                 generalize wr.drew = w46 at HB hx266_0 hx266_1 hx266_2 hx266_3 hx268_0 hx268_1 hx268_2 hx268_3 hx269_0 hx269_1 hx269_2 hx269_3 hx270_0 hx270_1 hx270_2 hx270_3 hx271_0 hx271_1 hx271_2 hx271_3 hHeld ⊢
                 refine pA_ 0 54 x13tr41_1 HT_.out ?_
                 refine pA_ 1 55 x13tr41_2 HT_.out ?_
                 refine pA_ 2 56 x13tr41_3 HT_.out ?_
                 refine pA_ 3 57 x13tr41_4 HT_.out ?_
                 refine pA_ 4 58 x13tr41_5 HT_.out ?_
                 refine pA_ 5 59 x13tr41_6 HT_.out ?_
                 refine pA_ 6 60 x13tr41_7 HT_.out ?_
                 refine pA_ 7 61 x13tr41_8 HT_.out ?_
                 refine pA_ 8 62 x13tr41_9 HT_.out ?_
                 refine take_ (i := 9) (N := some 63) (v := ?_) (a' := ?_) x13tr41_10 rfl rfl (take_ofW HT_.out HW_.out (by kernel_rfl)) (fun _ _ _ h => h) (Or.inl ⟨by rfl, ?_⟩) hHeld ?_ ?_
                 rotate_left
                 ·rintro w' ⟨s0, s1, s2, s3, s4, s5, s6, s7, s8, s9, s10, s11, s12, s13, s14, s15, s16, s17, s18, s19⟩
                  go_simp
                  with_reducible rfl
                 rotate_left
                 ·simp only [Act.put, List.setIfInBounds_toArray, List.set_cons_zero, List.set_cons_succ, i64_w, i32_w]
                  rfl
                 refine one_ (i := 10) (N := some 64) x13tr41_11 rfl rfl (one_of HT_.out (by kernel_rfl)) (by decide) (fun K hK => ?_)
                 refine goes_ Try.func18 (by kernel_rfl) rfl #[.string a1, .string ((rd_T27 l0 x7_3).f0)] (by rfl) rfl rfl (by (try simp only [List.map_toArray, List.map_cons, List.map_nil]); first | done | rfl | (simp only [List.length_drop, List.length_take]; rfl)) ?_
                 with_reducible refine (cantonref01_In.calls k3 a1 ((rd_T27 l0 x7_3).f0) true _ A34.out).mono ?_
                 rintro e w47 ⟨rfl, hb⟩
                 refine ⟨_, rfl, ?_⟩
                 have n0_ := Aside0.mk (below_step (by repeat (first | (with_reducible first | exact HB.out | apply below_alloc | apply pw_below_drewN | apply below_drew1) | exact HB.out)) hb)
                 clear HB
                 have HB := n0_
                 clear n0_
                 (try clear hb)
                 (try clear hb2)
                 (try clear hk)
                 (try clear hi)
                 refine hK.out _ _ ⟨((HB.out.cell (World.block_lt_of_cell? w _ hw266_0)).trans hw266_0), ((HB.out.cell (World.block_lt_of_cell? w _ hw266_1)).trans hw266_1), ((HB.out.cell (World.block_lt_of_cell? w _ hw266_2)).trans hw266_2), ((HB.out.cell (World.block_lt_of_cell? w _ hw266_3)).trans hw266_3), ((HB.out.cell (World.block_lt_of_cell? w _ hw268_0)).trans hw268_0), ((HB.out.cell (World.block_lt_of_cell? w _ hw268_1)).trans hw268_1), ((HB.out.cell (World.block_lt_of_cell? w _ hw268_2)).trans hw268_2), ((HB.out.cell (World.block_lt_of_cell? w _ hw268_3)).trans hw268_3), ((HB.out.cell (World.block_lt_of_cell? w _ hw269_0)).trans hw269_0), ((HB.out.cell (World.block_lt_of_cell? w _ hw269_1)).trans hw269_1), ((HB.out.cell (World.block_lt_of_cell? w _ hw269_2)).trans hw269_2), ((HB.out.cell (World.block_lt_of_cell? w _ hw269_3)).trans hw269_3), ((HB.out.cell (World.block_lt_of_cell? w _ hw270_0)).trans hw270_0), ((HB.out.cell (World.block_lt_of_cell? w _ hw270_1)).trans hw270_1), ((HB.out.cell (World.block_lt_of_cell? w _ hw270_2)).trans hw270_2), ((HB.out.cell (World.block_lt_of_cell? w _ hw270_3)).trans hw270_3), ((HB.out.cell (World.block_lt_of_cell? w _ hw271_0)).trans hw271_0), ((HB.out.cell (World.block_lt_of_cell? w _ hw271_1)).trans hw271_1), ((HB.out.cell (World.block_lt_of_cell? w _ hw271_2)).trans hw271_2), ((HB.out.cell (World.block_lt_of_cell? w _ hw271_3)).trans hw271_3)⟩ (fun hHeld => ?_)
                 clear hK K
                 refine norm_ (a' := ?_) ?_ ?_
                 rotate_left
                 ·show Act.put _ (some 64) _ = _
                  simp only [Act.put, List.setIfInBounds_toArray, List.set_cons_zero, List.set_cons_succ, i64_w, i32_w]
                  rfl
                 refine pA_ 11 65 x13tr41_12 HT_.out ?_
                 refine pA_ 12 66 x13tr41_13 HT_.out ?_
                 refine pA_ 13 67 x13tr41_14 HT_.out ?_
                 refine pA_ 14 68 x13tr41_15 HT_.out ?_
                 refine pA_ 15 69 x13tr41_16 HT_.out ?_
                 refine pA_ 16 70 x13tr41_17 HT_.out ?_
                 refine pA_ 19 73 x13tr41_m11111111111111111001000000000000000000000 HT_.out ?_
                 refine pA_ 20 74 x13tr41_m11111111111111111001100000000000000000000 HT_.out ?_
                 refine pA_ 21 75 x13tr41_m11111111111111111001110000000000000000000 HT_.out ?_
                 refine pA_ 22 76 x13tr41_m11111111111111111001111000000000000000000 HT_.out ?_
                 refine take_ (i := 17) (N := some 71) (v := ?_) (a' := ?_) x13tr41_m11111111111111111101111000000000000000000 rfl rfl (take_ofW HT_.out HW_.out (by kernel_rfl)) (fun _ _ _ h => h) (Or.inl ⟨by rfl, ?_⟩) hHeld ?_ ?_
                 rotate_left
                 ·rintro w' ⟨s0, s1, s2, s3, s4, s5, s6, s7, s8, s9, s10, s11, s12, s13, s14, s15, s16, s17, s18, s19⟩
                  go_simp
                  with_reducible rfl
                 rotate_left
                 ·simp only [Act.put, List.setIfInBounds_toArray, List.set_cons_zero, List.set_cons_succ, i64_w, i32_w]
                  rfl
                 refine pA_ 18 72 x13tr41_23 HT_.out ?_
                 refine take_ (i := 23) (N := some 77) (v := ?_) (a' := ?_) x13tr41_24 rfl rfl (take_ofW HT_.out HW_.out (by kernel_rfl)) (fun _ _ _ h => h) (Or.inl ⟨by rfl, ?_⟩) hHeld ?_ ?_
                 rotate_left
                 ·rintro w' ⟨s0, s1, s2, s3, s4, s5, s6, s7, s8, s9, s10, s11, s12, s13, s14, s15, s16, s17, s18, s19⟩
                  go_simp
                  with_reducible rfl
                 rotate_left
                 ·simp only [Act.put, List.setIfInBounds_toArray, List.set_cons_zero, List.set_cons_succ, i64_w, i32_w]
                  rfl
                 refine pA_ 24 78 x13tr41_25 HT_.out ?_
                 refine pA_ 25 79 x13tr41_26 HT_.out ?_
                 refine pA_ 26 80 x13tr41_27 HT_.out ?_
                 refine pA_ 27 81 x13tr41_28 HT_.out ?_
                 refine pA_ 28 82 x13tr41_29 HT_.out ?_
                 refine pA_ 29 83 x13tr41_30 HT_.out ?_
                 refine pA_ 30 84 x13tr41_31 HT_.out ?_
                 refine pA_ 32 86 x13tr41_m11111111111111111111111111111110100000000 HT_.out ?_
                 refine pA_ 33 87 x13tr41_m11111111111111111111111111111110110000000 HT_.out ?_
                 refine pA_ 34 88 x13tr41_m11111111111111111111111111111110111000000 HT_.out ?_
                 refine pA_ 35 89 x13tr41_m11111111111111111111111111111110111100000 HT_.out ?_
                 refine take_ (i := 31) (N := some 85) (v := ?_) (a' := ?_) x13tr41_36 rfl rfl (take_ofW HT_.out HW_.out (by kernel_rfl)) (fun _ _ _ h => h) (Or.inl ⟨by rfl, ?_⟩) hHeld ?_ ?_
                 rotate_left
                 ·rintro w' ⟨s0, s1, s2, s3, s4, s5, s6, s7, s8, s9, s10, s11, s12, s13, s14, s15, s16, s17, s18, s19⟩
                  go_simp
                  with_reducible rfl
                 rotate_left
                 ·simp only [Act.put, List.setIfInBounds_toArray, List.set_cons_zero, List.set_cons_succ, i64_w, i32_w]
                  rfl
                 refine take_ (i := 36) (N := some 90) (v := ?_) (a' := ?_) x13tr41_37 rfl rfl (take_ofW HT_.out HW_.out (by kernel_rfl)) (fun _ _ _ h => h) (Or.inl ⟨by rfl, ?_⟩) hHeld ?_ ?_
                 rotate_left
                 ·rintro w' ⟨s0, s1, s2, s3, s4, s5, s6, s7, s8, s9, s10, s11, s12, s13, s14, s15, s16, s17, s18, s19⟩
                  go_simp
                  with_reducible rfl
                 rotate_left
                 ·simp only [Act.put, List.setIfInBounds_toArray, List.set_cons_zero, List.set_cons_succ, i64_w, i32_w]
                  rfl
                 refine one_ (i := 37) (N := some 91) x13tr41_38 rfl rfl (one_of HT_.out (by kernel_rfl)) (by decide) (fun K hK => ?_)
                 refine goes_ Try.func18 (by kernel_rfl) rfl #[.string ((rd_T27 l0 t263).f0), .string ((rd_T27 l0 x7_3).f0)] (by rfl) rfl rfl (by (try simp only [List.map_toArray, List.map_cons, List.map_nil]); first | done | rfl | (simp only [List.length_drop, List.length_take]; rfl)) ?_
                 with_reducible refine (cantonref01_In.calls k3 ((rd_T27 l0 t263).f0) ((rd_T27 l0 x7_3).f0) false _ A41.out).mono ?_
                 rintro e w48 ⟨rfl, hb⟩
                 refine ⟨_, rfl, ?_⟩
                 have n0_ := Aside0.mk (below_step (by repeat (first | (with_reducible first | exact HB.out | apply below_alloc | apply pw_below_drewN | apply below_drew1) | exact HB.out)) hb)
                 clear HB
                 have HB := n0_
                 clear n0_
                 (try clear hb)
                 (try clear hb2)
                 (try clear hk)
                 (try clear hi)
                 refine hK.out _ _ ⟨((HB.out.cell (World.block_lt_of_cell? w _ hw266_0)).trans hw266_0), ((HB.out.cell (World.block_lt_of_cell? w _ hw266_1)).trans hw266_1), ((HB.out.cell (World.block_lt_of_cell? w _ hw266_2)).trans hw266_2), ((HB.out.cell (World.block_lt_of_cell? w _ hw266_3)).trans hw266_3), ((HB.out.cell (World.block_lt_of_cell? w _ hw268_0)).trans hw268_0), ((HB.out.cell (World.block_lt_of_cell? w _ hw268_1)).trans hw268_1), ((HB.out.cell (World.block_lt_of_cell? w _ hw268_2)).trans hw268_2), ((HB.out.cell (World.block_lt_of_cell? w _ hw268_3)).trans hw268_3), ((HB.out.cell (World.block_lt_of_cell? w _ hw269_0)).trans hw269_0), ((HB.out.cell (World.block_lt_of_cell? w _ hw269_1)).trans hw269_1), ((HB.out.cell (World.block_lt_of_cell? w _ hw269_2)).trans hw269_2), ((HB.out.cell (World.block_lt_of_cell? w _ hw269_3)).trans hw269_3), ((HB.out.cell (World.block_lt_of_cell? w _ hw270_0)).trans hw270_0), ((HB.out.cell (World.block_lt_of_cell? w _ hw270_1)).trans hw270_1), ((HB.out.cell (World.block_lt_of_cell? w _ hw270_2)).trans hw270_2), ((HB.out.cell (World.block_lt_of_cell? w _ hw270_3)).trans hw270_3), ((HB.out.cell (World.block_lt_of_cell? w _ hw271_0)).trans hw271_0), ((HB.out.cell (World.block_lt_of_cell? w _ hw271_1)).trans hw271_1), ((HB.out.cell (World.block_lt_of_cell? w _ hw271_2)).trans hw271_2), ((HB.out.cell (World.block_lt_of_cell? w _ hw271_3)).trans hw271_3)⟩ (fun hHeld => ?_)
                 clear hK K
                 refine norm_ (a' := ?_) ?_ ?_
                 rotate_left
                 ·show Act.put _ (some 91) _ = _
                  simp only [Act.put, List.setIfInBounds_toArray, List.set_cons_zero, List.set_cons_succ, i64_w, i32_w]
                  rfl
                 refine pA_ 38 92 x13tr41_39 HT_.out ?_
                 refine pA_ 39 93 x13tr41_40 HT_.out ?_
                 refine pA_ 40 94 x13tr41_41 HT_.out ?_
                 refine done_ (done_of HT_.out (by kernel_rfl)) ?_
                 try go_wp2
                 go_ret
                 exact ⟨by first | rfl | (simp [errW_none, errW_some] <;> rfl) | (simp [*, errW_none, errW_some] <;> rfl), by repeat (first | (with_reducible first | exact HB.out | apply below_alloc | apply pw_below_drewN | apply below_drew1) | exact HB.out)⟩
              ·rw [if_neg c37] at H
               exact absurd H (by simp)
             ·rw [if_neg c36] at H
              exact absurd H (by simp)
            ·replace c35 := Bool.eq_false_iff.mpr c35
             subst c35
             have H1 : (cantonlaw14_MountsOne.l0 k3 l0 a1 t259 t263 (wrap64 (x7_3 + 1))) = some r := by rw [if_neg (show ¬ (false = true) by decide)] at H; exact H
             clear H
             have H := H1
             clear H1
             have H' := Aside0.mk H
             clear H
             try go_wp2
             have n0_ := Aside0.mk (below_drew1 HB.out)
             clear HB
             have HB := n0_
             clear n0_
             have p266 : 0 ≤ (x7_3 : Int) := of_decide_eq_true (by first | (with_reducible assumption) | assumption)
             have q266 : x7_3 < (l0.length : Int) := of_decide_eq_true (by first | (with_reducible assumption) | assumption)
             obtain ⟨ad266, e266, hx266_0, hx266_1, hx266_2, hx266_3⟩ := at_T27 HR0.out x7_3 p266 q266
             have hw266_3 := hx266_3
             have hw266_2 := hx266_2
             have hw266_1 := hx266_1
             have hw266_0 := hx266_0
             cases e266
             replace hx266_0 := (HB.out.cell (World.block_lt_of_cell? w _ hx266_0)).trans hx266_0
             replace hx266_1 := (HB.out.cell (World.block_lt_of_cell? w _ hx266_1)).trans hx266_1
             replace hx266_2 := (HB.out.cell (World.block_lt_of_cell? w _ hx266_2)).trans hx266_2
             replace hx266_3 := (HB.out.cell (World.block_lt_of_cell? w _ hx266_3)).trans hx266_3
             replace p266 := eq_true p266
             replace q266 := eq_true q266
             refine start_ (n := 41) (S := fun w' => w'.cell? (ad266.add ((x7_3).toNat * 4)) = some (.string ((rd_T27 l0 x7_3).f0)) ∧ w'.cell? ⟨(ad266.add ((x7_3).toNat * 4)).block, (ad266.add ((x7_3).toNat * 4)).off + 1, none⟩ = some (.int .i64 ((rd_T27 l0 x7_3).f1)) ∧ w'.cell? ⟨(ad266.add ((x7_3).toNat * 4)).block, (ad266.add ((x7_3).toNat * 4)).off + 2, none⟩ = some (.int .i64 ((rd_T27 l0 x7_3).f2)) ∧ w'.cell? ⟨(ad266.add ((x7_3).toNat * 4)).block, (ad266.add ((x7_3).toNat * 4)).off + 3, none⟩ = some (.int .i64 ((rd_T27 l0 x7_3).f3))) (ds := []) x13tr41_0 (by kernel_rfl) rfl rfl ⟨((HB.out.cell (World.block_lt_of_cell? w _ hw266_0)).trans hw266_0), ((HB.out.cell (World.block_lt_of_cell? w _ hw266_1)).trans hw266_1), ((HB.out.cell (World.block_lt_of_cell? w _ hw266_2)).trans hw266_2), ((HB.out.cell (World.block_lt_of_cell? w _ hw266_3)).trans hw266_3)⟩ (fun hHeld => ?_); refine with_tabW cantonlaw14_MountsOne.tab10 cantonlaw14_MountsOne.bits10 (fun HT_ HW_ => ?_)
             generalize wr.drew = w49 at HB hx266_0 hx266_1 hx266_2 hx266_3 hHeld ⊢
             refine pA_ 0 54 x13tr41_1 HT_.out ?_
             refine pA_ 1 55 x13tr41_2 HT_.out ?_
             refine pA_ 2 56 x13tr41_3 HT_.out ?_
             refine pA_ 3 57 x13tr41_4 HT_.out ?_
             refine pA_ 4 58 x13tr41_5 HT_.out ?_
             refine pA_ 5 59 x13tr41_6 HT_.out ?_
             refine pA_ 6 60 x13tr41_7 HT_.out ?_
             refine pA_ 7 61 x13tr41_8 HT_.out ?_
             refine pA_ 8 62 x13tr41_9 HT_.out ?_
             refine take_ (i := 9) (N := some 63) (v := ?_) (a' := ?_) x13tr41_10 rfl rfl (take_ofW HT_.out HW_.out (by kernel_rfl)) (fun _ _ _ h => h) (Or.inl ⟨by rfl, ?_⟩) hHeld ?_ ?_
             rotate_left
             ·rintro w' ⟨s0, s1, s2, s3⟩
              go_simp
              with_reducible rfl
             rotate_left
             ·simp only [Act.put, List.setIfInBounds_toArray, List.set_cons_zero, List.set_cons_succ, i64_w, i32_w]
              rfl
             refine one_ (i := 10) (N := some 64) x13tr41_11 rfl rfl (one_of HT_.out (by kernel_rfl)) (by decide) (fun K hK => ?_)
             refine goes_ Try.func18 (by kernel_rfl) rfl #[.string a1, .string ((rd_T27 l0 x7_3).f0)] (by rfl) rfl rfl (by (try simp only [List.map_toArray, List.map_cons, List.map_nil]); first | done | rfl | (simp only [List.length_drop, List.length_take]; rfl)) ?_
             with_reducible refine (cantonref01_In.calls k3 a1 ((rd_T27 l0 x7_3).f0) false _ A34.out).mono ?_
             rintro e w50 ⟨rfl, hb⟩
             refine ⟨_, rfl, ?_⟩
             have n0_ := Aside0.mk (below_step (by repeat (first | (with_reducible first | exact HB.out | apply below_alloc | apply pw_below_drewN | apply below_drew1) | exact HB.out)) hb)
             clear HB
             have HB := n0_
             clear n0_
             (try clear hb)
             (try clear hb2)
             (try clear hk)
             (try clear hi)
             refine hK.out _ _ ⟨((HB.out.cell (World.block_lt_of_cell? w _ hw266_0)).trans hw266_0), ((HB.out.cell (World.block_lt_of_cell? w _ hw266_1)).trans hw266_1), ((HB.out.cell (World.block_lt_of_cell? w _ hw266_2)).trans hw266_2), ((HB.out.cell (World.block_lt_of_cell? w _ hw266_3)).trans hw266_3)⟩ (fun hHeld => ?_)
             clear hK K
             refine norm_ (a' := ?_) ?_ ?_
             rotate_left
             ·show Act.put _ (some 64) _ = _
              simp only [Act.put, List.setIfInBounds_toArray, List.set_cons_zero, List.set_cons_succ, i64_w, i32_w]
              rfl
             refine pA_ 11 65 x13tr41_12 HT_.out ?_
             refine pA_ 12 66 x13tr41_13 HT_.out ?_
             refine pU_ 13 67 x13tr41_14 HT_.out ?_
             refine pU_ 14 68 x13tr41_15 HT_.out ?_
             refine pU_ 15 69 x13tr41_16 HT_.out ?_
             refine pU_ 16 70 x13tr41_17 HT_.out ?_
             refine pU_ 17 71 x13tr41_18 HT_.out ?_
             refine pU_ 18 72 x13tr41_19 HT_.out ?_
             refine pU_ 19 73 x13tr41_20 HT_.out ?_
             refine pU_ 20 74 x13tr41_21 HT_.out ?_
             refine pU_ 21 75 x13tr41_22 HT_.out ?_
             refine pU_ 22 76 x13tr41_23 HT_.out ?_
             refine pU_ 23 77 x13tr41_24 HT_.out ?_
             refine pU_ 24 78 x13tr41_25 HT_.out ?_
             refine pU_ 25 79 x13tr41_26 HT_.out ?_
             refine pU_ 26 80 x13tr41_27 HT_.out ?_
             refine pU_ 27 81 x13tr41_28 HT_.out ?_
             refine pU_ 28 82 x13tr41_29 HT_.out ?_
             refine pU_ 29 83 x13tr41_30 HT_.out ?_
             refine pU_ 30 84 x13tr41_31 HT_.out ?_
             refine pU_ 31 85 x13tr41_32 HT_.out ?_
             refine pU_ 32 86 x13tr41_33 HT_.out ?_
             refine pU_ 33 87 x13tr41_34 HT_.out ?_
             refine pU_ 34 88 x13tr41_35 HT_.out ?_
             refine pU_ 35 89 x13tr41_36 HT_.out ?_
             refine pU_ 36 90 x13tr41_37 HT_.out ?_
             refine pU_ 37 91 x13tr41_38 HT_.out ?_
             refine pU_ 38 92 x13tr41_39 HT_.out ?_
             refine pU_ 39 93 x13tr41_40 HT_.out ?_
             refine pA_ 40 94 x13tr41_41 HT_.out ?_
             refine done_ (done_of HT_.out (by kernel_rfl)) ?_
             try go_wp2
             go_roundg k3
             case measure => have := HJ3.out; have := HJ20.out; have := HK3.out; omega
             case rel => exact ⟨(wrap64 (x7_3 + 1)), (by first | rfl | (simp; done) | (simp [*]; done)), H', ⟨by have := HJ3.out; have := HJ20.out; have := HK3.out; omega⟩, ⟨by repeat (first | (with_reducible first | exact HB.out | apply below_alloc | apply pw_below_drewN | apply below_drew1) | exact HB.out)⟩⟩
           ·rw [if_neg c33] at H
            exact absurd H (by simp)
         ·rw [if_neg c30] at H
          have c30b0 : decide (x7_3 < (l0.length : Int)) = false := decide_eq_false c30
          clear c30
          obtain rfl := Option.some.inj H
          go_wp2
          go_ret
          exact ⟨by first | rfl | (simp [errW_none, errW_some] <;> rfl) | (simp [*, errW_none, errW_some] <;> rfl), by repeat (first | (with_reducible first | exact HB.out | apply below_alloc | apply pw_below_drewN | apply below_drew1) | exact HB.out)⟩

end Go.Proofs.Ytpkaedpgpncgpaa.Q
